import Derived.Test.YtnlkfgdojfijpaaGreatDoorFns
import Derived.Test.YtnlkfgdojfijpaaGreatDoorViXD
set_option linter.unusedVariables false
set_option linter.unusedSimpArgs false
set_option linter.unnecessarySimpa false
set_option linter.unusedSectionVars false
set_option linter.unusedSimpArgs false
set_option maxRecDepth 100000
namespace Go.Proofs.YtnlkfgdojfijpaaGreatDoor
open Go.Vi
noncomputable section
def qhr (c:UInt8):Bool:=decide (97≤c.toNat)&&decide (c.toNat≤122)
def qh9 (c:UInt8):Bool:=decide (48≤c.toNat)&&decide (c.toNat≤57)
def nameOk (s:List UInt8):Bool:=match s with
 |[]=>false
 |c::r=>decide ((c::r).length≤12)&&(qhr c&&r.all fun c=>qhr c||qh9 c)
theorem qeU (c:UInt8):qc6 c=(c.toNat:Int):=qg4 c
theorem qtG (c:UInt8):(ltI (qc6 c) 97||ltI 122 (qc6 c))= !qhr c:=by
 rw [qeU,qbr,qbr,qhr]
 rw [Bool.eq_iff_iff]
 simp only [Bool.or_eq_true,decide_eq_true_eq,Bool.not_eq_true',Bool.and_eq_false_iff,decide_eq_false_iff_not]
 omega
theorem quI (c:UInt8):(ltI (qc6 c) 48||ltI 57 (qc6 c))= !qh9 c:=by
 rw [qeU,qbr,qbr,qh9]
 rw [Bool.eq_iff_iff]
 simp only [Bool.or_eq_true,decide_eq_true_eq,Bool.not_eq_true',Bool.and_eq_false_iff,decide_eq_false_iff_not]
 omega
def qjC (av:List Bool) (c:UInt8):Bool:=qk av (qc6 c) false
theorem qmc (N:Nat) (av:List Bool) (c:UInt8):qaw N (av,(qc6 c,()))=some ((qjC av c,()),(av,())):=by
 simp only [qaw]
 rw [qJ (by rw [qeU,qdq]; have:=c.toNat_lt; simp; omega)]
 rfl
theorem qq9 (N:Nat) (av:List Bool) (s:List UInt8) (hN:s.length<N):qbO N (s,(av,()))=some ((s.dropWhile (qjC av),()),(av,())):=by
 simp only [qbO]
 refine qeC (S:=(List UInt8)×((List Bool)×Unit)) (R:=((List UInt8)×Unit)×((List Bool)×Unit)) (fun p=>p.1.length) (fun p=>p.2.1=av) (fun p=>((p.1.dropWhile (qjC av),()),(av,()))) ?_ N _ rfl hN
 rintro ih ⟨s,av',_⟩ h2 hih
 simp only at h2 hih⊢
 subst h2
 cases s with
 |nil=>rw [qE (by rw [qbr,qt]; rfl)]; rfl
 |cons c r=>
  have hg:qk (c::r) 0 0=c:=qiW (i:=0) rfl
  rw [qJ (by rw [qbr,qt]; simp)]
  simp only [hg,qmc,qp,qu,Bool.and_true]
  rw [qJ (show inB 0 (qr (c::r))=true from qC (i:=0) (by simp))]
  by_cases h:qjC av' c=true
  ·rw [qE (by simp [h]),qJ (show inS 1 (qr (c::r)) (qr (c::r))=true from qrL (i:=1) (by simp)),show qaB (c::r) 1 (qr (c::r))=r from qse _ 1,hih (r,(av',())) rfl (by simp)]
   simp [List.dropWhile_cons,h]
  ·rw [qJ (by simpa using h)]
   simp [List.dropWhile_cons,h]
def qlF (p:UInt8→Bool) (s:List UInt8):List UInt8:=(s.reverse.dropWhile p).reverse
theorem qsn (p:UInt8→Bool) (s:List UInt8) (c:UInt8):qlF p (s++[c])=if p c=true then qlF p s else s++[c]:=by
 simp only [qlF,List.reverse_append,List.reverse_cons,List.reverse_nil,List.nil_append,List.cons_append,List.dropWhile_cons]
 split <;> simp
theorem qpR (N:Nat) (av:List Bool) (s:List UInt8) (hN:s.length<N) (hl:s.length<4000000000000000000):qaz N (s,(av,()))=some ((qlF (qjC av) s,()),(av,())):=by
 simp only [qaz]
 refine qeC (S:=(List UInt8)×((List Bool)×Unit)) (R:=((List UInt8)×Unit)×((List Bool)×Unit)) (fun p=>p.1.length) (fun p=>p.2.1=av∧p.1.length<4000000000000000000) (fun p=>((qlF (qjC av) p.1,()),(av,()))) ?_ N _ ⟨rfl,hl⟩ hN
 rintro ih ⟨s,av',_⟩ ⟨h2,h3⟩ hih
 simp only at h2 h3 hih⊢
 subst h2
 rcases List.eq_nil_or_concat s with rfl|⟨r,c,rfl⟩
 ·rw [qE (by rw [qbr,qt]; rfl)]; rfl
 ·rw [List.concat_eq_append] at h3 hih⊢
  simp only [List.length_append,List.length_cons,List.length_nil] at h3
  have el:qbn .i64 (qr (r++[c])) 1=(r.length:Int):=by
   have e:((r++[c]).length:Int)=(r.length:Int)+1:=by simp
   rw [qt,e,qcP (by omega) (by omega)]; omega
  have hg:qk (r++[c]) (r.length:Int) 0=c:=qiW (by simp)
  rw [qJ (by rw [qbr,qt]; simp)]
  simp only [el,hg,qmc,qp,qu,Bool.and_true]
  rw [qJ (qC (by simp)),qsn]
  by_cases h:qjC av' c=true
  ·rw [qE (by simp [h]),qJ (by rw [qk9,qt]; simp; omega),ql4,if_pos h]
   have e:(r++[c]).take r.length=r:=by simp
   rw [e,hih (r,(av',())) ⟨rfl,by simp only; omega⟩ (by simp)]
  ·rw [qJ (by simpa using h),if_neg h]
theorem qkd {p:UInt8→Bool} :(s:List UInt8)→(s.dropWhile p=[]↔s.all p=true)
 |[]=>by simp
 |c::r=>by
  rw [List.dropWhile_cons,List.all_cons]
  by_cases h:p c=true
  ·rw [if_pos h,qkd r,h]; simp
  ·rw [if_neg h]; simp [h]
theorem qkv {p:UInt8→Bool} :(s:List UInt8)→(s.dropWhile p).all p=s.all p
 |[]=>rfl
 |c::r=>by
  rw [List.dropWhile_cons]
  by_cases h:p c=true
  ·rw [if_pos h,qkv r]; simp [h]
  ·rw [if_neg h]
theorem qu9 {p:UInt8→Bool} (s:List UInt8):((qlF p s).dropWhile p=[])↔s.all p=true:=by
 rw [qkd,qlF,List.all_reverse,qkv,List.all_reverse]
def qdY:List UInt8:=[97,98,99,100,101,102,103,104,105,106,107,108,109,110,111,112,113,114,115,116,117,118,119,120,121,122,48,49,50,51,52,53,54,55,56,57]
def qr9 (i:Nat):List Bool:=(qdY.take i).foldl (fun av c=>av.set c.toNat true) (List.replicate 256 false)
theorem qwK:∀m:Fin 256,(qr9 36).getD m.val false=((decide (97≤m.val)&&decide (m.val≤122))||(decide (48≤m.val)&&decide (m.val≤57))):=by decide+kernel
theorem qo2:∀c∈qdY,c.toNat<128:=by decide+kernel
theorem qv6 (c:UInt8):qjC (qr9 36) c=(qhr c||qh9 c):=by
 rw [qjC,qeU,qdu,Int.toNat_natCast]
 exact qwK ⟨c.toNat,c.toNat_lt⟩
theorem qsf (N:Nat) (hN:40<N):qar N (qdY,())=some ((qr9 36,(true,())),()):=by
 simp only [qar]
 refine qgx (S:=(List Bool)×(Int×Unit)) (fun i=>(qr9 i,((i:Int),()))) 36 _ rfl ?_ ?_ (by omega)
 ·intro i hi ih
  have hl:i<qdY.length:=hi
  have hg:qk qdY (i:Int) 0=qdY[i]:=qiW (List.getElem?_eq_getElem hl)
  have hs:=qo2 qdY[i] (List.getElem_mem hl)
  rw [qJ (qav hl),qJ (qC hl),hg,qE (by rw [qcp,qeU]; simp; omega),qJ (by rw [qeU,qdq]; simp; omega),qO (by omega)]
  have e:qr9 (i+1)=(qr9 i).set qdY[i].toNat true:=by
   rw [qr9,qbi hl,List.foldl_append]; rfl
  simp only [e,qbm,qeU,Int.toNat_natCast]
 ·intro ih
  rw [qE (qac (show ¬36<qdY.length by decide))]
theorem qw8 (N:Nat) (s:List UInt8) (hs:s≠[]) (hl:s.length<4000000000000000000) (hN:s.length+40<N):qdD N (s,(qdY,()))=some (((qlF (qjC (qr9 36)) s).dropWhile (qjC (qr9 36)),()),()):=by
 have hrl:(qlF (qjC (qr9 36)) s).length≤s.length:=by
  have:∀(p:UInt8→Bool) (l:List UInt8),(l.dropWhile p).length≤l.length:=fun p l=>(List.dropWhile_sublist p).length_le
  rw [qlF,List.length_reverse]
  exact Nat.le_trans (this _ _) (by simp)
 simp only [qdD,qK,qsf N (by omega),qp,qu,cond_true,qpR N _ s (by omega) hl,qq9 N _ (qlF (qjC (qr9 36)) s) (by omega),Bool.and_self]
 rw [qE (by rw [qbs,qbs]; simp [hs,qdY]),qJ (by rw [show eqI (qr qdY) 1=false from by rw [qaC,qt]; rfl]; rfl),qE (by rw [show eqI (qr qdY) 1=false from by rw [qaC,qt]; rfl]; rfl)]
def az:List UInt8:=[97,98,99,100,101,102,103,104,105,106,107,108,109,110,111,112,113,114,115,116,117,118,119,120,121,122]
theorem az_is:∀m:Fin 256,decide (0≤Lib.indexByte az (UInt8.ofNat m.val))=(decide (97≤m.val)&&decide (m.val≤122)):=by decide+kernel
theorem qvC (c:UInt8):leI 0 (Lib.indexByte az c)=qhr c:=by
 have:=az_is ⟨c.toNat,c.toNat_lt⟩
 simp only [UInt8.ofNat_toNat] at this
 rw [qcp,this,qhr]
theorem qqs (N:Nat) (c:UInt8):qci N (az,([c],()))=some ((qhr c,()),()):=by
 simp only [qci,qef,qbN,qo1,qp,qu,cond_true,qvC]
theorem qnW (N:Nat) (s:List UInt8) (hN:100<N):qbk N (s,())=some ((nameOk s,()),()):=by
 simp only [qbk]
 cases s with
 |nil=>
  have e:eqS ([]:List UInt8) []=true:=by rw [qbs]; simp
  simp only [e]
  rfl
 |cons c r=>
  have e1:eqS (c::r) []=false:=by rw [qbs]; simp
  have e2:leI (qr (c::r)) 12=decide ((c::r).length≤12):=by rw [qcp,qt]; exact decide_eq_decide.2 (by omega)
  have e3:inS 0 1 (qr (c::r))=true:=by rw [qlb,qt]; simp; omega
  have e4:qaB (c::r) 0 1=[c]:=by rw [qcF]; rfl
  have e5:=qqs N c
  unfold az at e5
  rw [e1,e2,e3,e4,e5]
  by_cases h:(c::r).length≤12
  ·have e6:=qw8 N (c::r) (by simp) (by omega) (by omega)
   unfold qdY at e6
   rw [e6]
   simp only [h,decide_true,Bool.not_false,Bool.true_and,Bool.and_true,Bool.not_true,Bool.false_or,qp,qu,Bool.or_true,cond_true]
   congr 3
   rw [qbs,nameOk]
   simp only [h,decide_true,Bool.true_and]
   have key:decide ((qlF (qjC (qr9 36)) (c::r)).dropWhile (qjC (qr9 36))=[])=(c::r).all (fun c=>qhr c||qh9 c):=by
    rw [Bool.eq_iff_iff,decide_eq_true_iff,qu9]
    simp only [List.all_eq_true,qv6]
   rw [key,List.all_cons]
   cases qhr c <;> simp
  ·have h':decide ((c::r).length≤12)=false:=decide_eq_false h
   rw [nameOk]
   simp only [h',Bool.and_false,Bool.false_and,Bool.not_false,Bool.true_or,Bool.and_self,cond_true]
theorem qlu (N:Nat) (s:List UInt8) (hl:s.length≤4000000000000000000) (hN:s.length<N):qbT N (s,())=some ((nameOk s,()),()):=by
 simp only [qbT,qK]
 cases s with
 |nil=>
  have e1:ltI (qr ([]:List UInt8)) 1=true:=by rw [qbr,qt]; rfl
  simp [e1,nameOk]
 |cons c r=>
  have hg:qk (c::r) 0 0=c:=qiW (i:=0) rfl
  have e1:ltI (qr (c::r)) 1=false:=by rw [qbr,qt]; simp; omega
  have e2:ltI 12 (qr (c::r))= !decide ((c::r).length≤12):=by
   rw [qbr,qt]
   by_cases h:(c::r).length≤12
   ·simp only [h,decide_true,Bool.not_true,decide_eq_false_iff_not]; omega
   ·simp only [h,decide_false,Bool.not_false,decide_eq_true_eq]; omega
  have e3:inB 0 (qr (c::r))=true:=qC (i:=0) (by simp)
  have e4:(leI 48 (qc6 c)&&leI (qc6 c) 57)=qh9 c:=by
   rw [qeU,qcp,qcp,qh9]
   congr 1 <;> exact decide_eq_decide.2 (by omega)
  rw [e1,e2,e3,hg,e4]
  simp only [Bool.or_true,Bool.and_self,cond_true]
  by_cases h:(c::r).length≤12
  ·simp only [h,decide_true,Bool.not_true,Bool.or_self,Bool.false_or]
   by_cases hd:qh9 c=true
   ·have hlow:qhr c=false:=by
     simp only [qh9,qhr,Bool.and_eq_true,decide_eq_true_eq] at hd⊢
     simp; omega
    rw [hd,cond_true,nameOk,hlow]
    simp
   ·have hd:qh9 c=false:=by simpa using hd
    rw [hd,cond_false]
    refine (qW (S:=Int×Unit) (R:=(Bool×Unit)×Unit) (fun i=>((i:Int),())) (c::r).length (fun i=>if h:i<(c::r).length then (if qhr (c::r)[i]||qh9 (c::r)[i] then none else some ()) else none) (fun _=>some ((false,()),())) (some ((true,()),())) rfl (fun i hi _ ih=> ?_) (fun _ ih=> ?_) hN).trans ?_
    rotate_left
    rotate_left
    ·have key:(qR (fun i=>if h:i<(c::r).length then (if qhr (c::r)[i]||qh9 (c::r)[i] then none else some ()) else none) (c::r).length).isNone=(c::r).all (fun c=>qhr c||qh9 c):=by
      rw [Bool.eq_iff_iff,List.all_eq_true]
      constructor
      ·intro hn x hx
       obtain ⟨i,hi,rfl⟩:=List.getElem_of_mem hx
       have:=qaq (Option.isNone_iff_eq_none.1 hn) i hi
       rw [dif_pos hi] at this
       by_cases hb:(qhr (c::r)[i]||qh9 (c::r)[i])=true
       ·exact hb
       ·rw [if_neg hb] at this; cases this
      ·intro ha
       rw [Option.isNone_iff_eq_none]
       cases hf:qR (fun i=>if h:i<(c::r).length then (if qhr (c::r)[i]||qh9 (c::r)[i] then none else some ()) else none) (c::r).length with
       |none=>rfl
       |some u=>
        obtain ⟨i,hi,hg,_⟩:=qbb hf
        rw [dif_pos hi,if_pos (ha _ (List.getElem_mem hi))] at hg
        cases hg
     rw [nameOk]
     simp only [h,decide_true,Bool.true_and]
     rw [List.all_cons,hd,Bool.or_false] at key
     rw [←key]
     cases qR (fun i=>if h:i<(c::r).length then (if qhr (c::r)[i]||qh9 (c::r)[i] then none else some ()) else none) (c::r).length <;> rfl
    ·have hlb:qr (qfi (c::r))=qr (c::r):=by rw [qt,qt,qdN,List.length_map]
     have hgi:qk (qfi (c::r)) (i:Int) 0=qc6 (c::r)[i]:=by
      rw [qdN]
      exact qiW (by rw [List.getElem?_map,List.getElem?_eq_getElem hi]; rfl)
     simp only
     rw [hlb,qJ (qav hi),qJ (qC hi),hgi,qtG,quI,qO (by omega),dif_pos hi]
     cases qhr (c::r)[i] <;> cases qh9 (c::r)[i] <;> rfl
    ·have hlb:qr (qfi (c::r))=qr (c::r):=by rw [qt,qt,qdN,List.length_map]
     simp only
     rw [hlb,qE (qac (Nat.lt_irrefl _))]
  ·have h':decide ((c::r).length≤12)=false:=decide_eq_false h
   rw [nameOk]
   simp only [h',Bool.not_false,Bool.false_and,Bool.false_or,Bool.true_or,cond_true]
end
end Go.Proofs.YtnlkfgdojfijpaaGreatDoor
namespace Go.Proofs.YtnlkfgdojfijpaaGreatDoor
open Go.Vi
noncomputable section
theorem qrS (N:Nat) (s:List UInt8) (h:(qfz s).length≤1099511627776):qbz N (s,())=some ((qfz s,()),()):=by
 have hl:(Lib.itoa (s.length:Int)).length+1+s.length≤1099511627776:=by
  unfold qfz at h
  simp only [List.length_append,List.length_cons] at h
  omega
 simp only [qbz,qbp,qp,qu,Bool.true_and,qt s,qbv]
 rw [quF (by omega) (by simp)]
 rw [←qt s,quF (by rw [qt]; simp only [List.length_append,List.length_cons,List.length_nil]; omega) (by omega)]
 rw [qt]
 simp [qfz]
theorem qoR {α:Type} (f:α→List UInt8) (l:List α) (i:Nat):(((l.take i).map f).flatten).length≤((l.map f).flatten).length:=by
 have e:l.map f=(l.take i).map f++(l.drop i).map f:=by rw [←List.map_append,List.take_append_drop]
 rw [e,List.flatten_append,List.length_append]
 omega
theorem qs0 {α:Type} (f:α→List UInt8) (l:List α) {i:Nat} (hi:i<l.length):((l.take (i+1)).map f).flatten=((l.take i).map f).flatten++f l[i]:=by
 rw [qbi hi,List.map_append,List.flatten_append,List.map_cons,List.map_nil,List.flatten_cons,List.flatten_nil,List.append_nil]
theorem qmK (N:Nat) (f:qc) (hN:f.2.1.length<N) (h:(fkC f).length≤1099511627776) (hb:f.2.1.length≤1099511627776):qbP N (f,())=some ((fkC f,()),()):=by
 obtain ⟨t,cs,r,⟨⟩⟩:=f
 simp only at hN hb
 have h0:(qfz t).length+(qfz r).length+(qi8 cs).length≤1099511627776:=by
  unfold fkC at h
  simp only [List.length_append] at h
  omega
 simp only [qbP,qK]
 rw [qrS N t (by omega),qrS N r (by omega)]
 simp only [qp,qu,Bool.true_and]
 rw [qJ (quF (by omega) (by omega))]
 refine qgx (S:=qbM) (fun i=>(qfz t++(qfz r++qi8 (cs.take i)),((i:Int),()))) cs.length _ (by simp [qbv,qi8]) (fun i hi ih=> ?_) (fun ih=> ?_) hN
 ·have h1:(qi8 (cs.take (i+1))).length≤(qi8 cs).length:=qoR _ _ _
  have e1:qi8 (cs.take (i+1))=qi8 (cs.take i)++44::Lib.itoa cs[i]:=qs0 _ _ hi
  rw [e1,List.length_append,List.length_cons] at h1
  simp only
  rw [qJ (qav hi),qC hi,cond_true,qD _ hi]
  simp only [qbp,qp,qu,Bool.true_and,qbv]
  rw [quF (by simp) (by omega),quF (by simp only [List.length_append]; omega) (by simp only [List.length_append,List.length_cons,List.length_nil]; omega)]
  simp only [Bool.and_self,cond_true]
  rw [qO (by omega),e1]
  simp
 ·simp only
  rw [qE (qac (Nat.lt_irrefl _)),List.take_length]
  rfl
theorem qpS (N:Nat) (r:List qa) (h:(qe0 r).length≤1099511627776):qbH N (r,())=some ((qe0 r,()),()):=by
 rw [qbH,if_pos h]
set_option synthInstance.maxHeartbeats 400000 in
set_option synthInstance.maxSize 4000 in
instance decTable:DecidableEq qf:=inferInstance
set_option synthInstance.maxHeartbeats 400000 in
set_option synthInstance.maxSize 4000 in
instance dec0:DecidableEq qa:=inferInstance
set_option synthInstance.maxHeartbeats 400000 in
set_option synthInstance.maxSize 4000 in
instance dec1:DecidableEq qd:=inferInstance
instance dec2:DecidableEq qc:=inferInstance
instance dec3:DecidableEq (List qd×Unit):=instDecidableEqProd
instance dec4:DecidableEq (List qc×(List qd×Unit)):=instDecidableEqProd
instance decSch:DecidableEq qj:=instDecidableEqProd
theorem qs4 (N:Nat) (xs ys:List Int) (hN:xs.length<N) (hb:xs.length≤1099511627776):qcK N (xs,(ys,()))=some ((decide (xs=ys),()),()):=by
 simp only [qcK]
 by_cases hl:xs.length=ys.length
 ·rw [qE (by rw [qan,qt,qt,hl]; simp)]
  exact qpq (ne:=neI) (fun a b=>qan a b) xs ys 0 hl hb hN
 ·rw [qJ (by rw [qan,qt,qt]; simp; omega)]
  have:xs≠ys:=fun h=>hl (by rw [h])
  simp [this]
theorem qsd (N:Nat) (a b:qc) (hN:a.2.1.length<N) (hB:N≤1099511627776):qbt N (a,(b,()))=some ((decide (a=b),()),()):=by
 obtain ⟨a1,a2,a3,⟨⟩⟩:=a
 obtain ⟨b1,b2,b3,⟨⟩⟩:=b
 simp only at hN
 simp only [qbt,qs4 N a2 b2 hN (by omega),qp,qu,qbs,Bool.or_true,cond_true,Prod.mk.injEq,and_true,Bool.decide_and,Bool.and_assoc]
structure Small (N:Nat) (s:qj):Prop where
 n:N≤1099511627776
 t:s.1.length<N
 f:s.2.1.length<N
 c:s.2.2.1.length<N
 tc:∀t∈s.1,t.2.1.length<N
 tk:∀t∈s.1,t.2.2.1.length<N
 fc:∀f∈s.2.1,f.2.1.length<N
 tn:∀t∈s.1,t.1.length<N
 cn:∀t∈s.1,∀c∈t.2.1,c.1.length<N
end
end Go.Proofs.YtnlkfgdojfijpaaGreatDoor
namespace Go.Proofs.YtnlkfgdojfijpaaGreatDoor
open Go.Vi
noncomputable section
def atE {α:Type} (q:α→Bool) (xs:List α) (i:Nat):Option Nat:=match xs[i]? with
 |some x=>if q x=true then some i else none
 |none=>none
def qh6 {α:Type} (q:α→Bool) (xs:List α):Option Nat:=qR (atE q xs) xs.length
theorem qgU {α:Type} {q:α→Bool} {xs:List α} {i:Nat} (h:qh6 q xs=some i):∃hi:i<xs.length,q xs[i]=true∧∀j (hj:j<i),q (xs[j]'(by omega))=false:=by
 obtain ⟨k,h1,h2,h3⟩:=qbb h
 have hk:xs[k]? =some xs[k]:=List.getElem?_eq_getElem h1
 simp only [atE,hk] at h2
 split at h2
 ·rename_i hq
  injection h2 with h2
  subst h2
  refine ⟨h1,hq,fun j hj=> ?_⟩
  have:=qaq h3 j hj
  simp only [atE,List.getElem?_eq_getElem (show j<xs.length by omega)] at this
  split at this
  ·cases this
  ·rename_i hn; simpa using hn
 ·cases h2
theorem qm3 {α:Type} {q:α→Bool} {xs:List α} (h:qh6 q xs=none):∀x∈xs,q x=false:=fun x hx=>by
 obtain ⟨i,hi,rfl⟩:=List.getElem_of_mem hx
 have:=qaq h i hi
 simp only [atE,List.getElem?_eq_getElem hi] at this
 split at this
 ·cases this
 ·rename_i hn; simpa using hn
def qif {α:Type} (q:α→Bool) (xs:List α):Int:=match qh6 q xs with
 |some i=>(i:Int)
 |none=> -1
theorem qeL {α:Type} (f:(α×Unit)→Option (Bool×Unit)) (q:α→Bool) (xs:List α) (hf:∀a∈xs,f (a,())=some (q a,())) (d:α) (N:Nat) (hN:xs.length<N) (hb:xs.length≤1099511627776):
  (qad (S:=(Int×Unit)) (R:=((Int×Unit)×Unit)) N (fun ih0=>(fun p1=>(bif (ltI p1.1 (qr xs)) then (bif ((inB p1.1 (qr xs))&&(qB (f ((qk xs p1.1 d),())))) then (q7 (qx (f ((qk xs p1.1 d),())) (false,())).1 (fun y2=>(bif y2 then (some ((p1.1,()),())) else (ih0 ((qax .i64 p1.1 1),()))))) else none) else (some (((-1),()),()))))) (0,()))=some ((qif q xs,()),()):=by
 refine (qW (S:=Int×Unit) (fun i=>((i:Int),())) xs.length (atE q xs) (fun i=>some (((i:Int),()),())) (some ((-1,()),())) rfl (fun i hi _ ih=> ?_) (fun _ ih=> ?_) hN).trans ?_
 ·simp only [qK]
  rw [qJ (qav hi),qD _ hi,hf _ (List.getElem_mem hi),qp,qu,Bool.and_true,qJ (qC hi),qO (by omega)]
  simp only [atE,List.getElem?_eq_getElem hi]
  cases q xs[i] <;> rfl
 ·simp only
  rw [qE (qac (Nat.lt_irrefl _))]
 ·rw [qif,qh6]
  cases qR (atE q xs) xs.length <;> rfl
theorem qrZ {α:Type} (q:α→Bool) (xs:List α):qwy (qif q xs) 0=(((qh6 q xs).getD 0:Nat):Int):=by
 rw [qif,qoX]
 cases qh6 q xs with
 |none=>rfl
 |some i=>simp only [Option.getD_some]; split <;> omega
theorem qoD {α:Type} (q:α→Bool) (xs:List α):leI 0 (qif q xs)=(qh6 q xs).isSome:=by
 rw [qif,qcp]
 cases qh6 q xs with
 |none=>rfl
 |some i=>simp
def qnv (n:List UInt8) (c:qi):Bool:=decide (c.1=n)
def qcE (n:List UInt8) (t:qf):Bool:=decide (t.1=n)
theorem qos (N:Nat) (t:qf) (n:List UInt8) (hN:t.2.1.length<N) (hB:N≤1099511627776):qcw N (t,(n,()))=some (((((qh6 (qnv n) t.2.1).getD 0:Nat):Int),((qh6 (qnv n) t.2.1).isSome,())),()):=by
 simp only [qcw,qK]
 have h:=qeL (fun x0=>(qkf (fun y1:((Bool×Unit)×Unit)=>(y1.1.1,())) (qbI N (x0.1,(n,()))))) (qnv n) t.2.1 (fun a _=>by simp only [qbI,qd2,Option.map_some,qbs,qnv]) (([]:List UInt8),(0,(false,()))) N hN (by omega)
 rw [show qbx N (t.2.1,((fun x0=>(qkf (fun y1=>(y1.1.1,())) (qbI N (x0.1,(n,()))))),()))=some ((qif (qnv n) t.2.1,()),()) from h]
 simp only [qp,qu,cond_true,qrZ,qoD]
theorem qc2 (N:Nat) (s:qj) (n:List UInt8) (hN:s.1.length<N) (hB:N≤1099511627776):qG N (s,(n,()))=some (((((qh6 (qcE n) s.1).getD 0:Nat):Int),((qh6 (qcE n) s.1).isSome,())),()):=by
 simp only [qG,qK]
 have h:=qeL (fun x0=>(qkf (fun y1:((Bool×Unit)×Unit)=>(y1.1.1,())) (qbU N (x0.1,(n,()))))) (qcE n) s.1 (fun a _=>by simp only [qbU,qd2,Option.map_some,qbs,qcE]) (([]:List UInt8),(([]:List qi),(([]:List Int),()))) N hN (by omega)
 rw [show qbL N (s.1,((fun x0=>(qkf (fun y1=>(y1.1.1,())) (qbU N (x0.1,(n,()))))),()))=some ((qif (qcE n) s.1,()),()) from h]
 simp only [qp,qu,cond_true,qrZ,qoD]
def qeu (s:qj) (n:List UInt8):Option qf:=(qh6 (qcE n) s.1).bind fun i=>s.1[i]?
theorem qfu (N:Nat) (s:qj) (n:List UInt8) (hN:s.1.length<N) (hB:N≤1099511627776):qw N (s,(n,()))=some ((qeu s n,()),()):=by
 simp only [qw]
 refine (qW (S:=Int×Unit) (fun i=>((i:Int),())) s.1.length (atE (qcE n) s.1) (fun i=>some ((s.1[i]?,()),())) (some ((none,()),())) rfl (fun i hi _ ih=> ?_) (fun _ ih=> ?_) hN).trans ?_
 ·simp only
  rw [qJ (qav hi),qC hi,qD _ hi,qO (by omega),qbs]
  simp only [atE,List.getElem?_eq_getElem hi,qcE,cond_true,decide_eq_true_eq]
  by_cases hq:(s.1[i]).1=n <;> simp [hq]
 ·simp only
  rw [qE (qac (Nat.lt_irrefl _))]
 ·rw [qeu,qh6]
  cases qR (atE (qcE n) s.1) s.1.length <;> rfl
structure qmJ (N:Nat) (t:qf):Prop where
 n:N≤1099511627776
 m:100<N
 nm:t.1.length<N
 c:t.2.1.length<N
 k:t.2.2.1.length<N
 cn:∀c∈t.2.1,c.1.length<N
open Classical in
def qvz (cs:List qi) (i:Nat):Option Int:=match cs[i]? with
 |none=>none
 |some c=>if nameOk c.1=false then some 23 else if c.1∈(cs.take i).map (fun c=>c.1) then some 5 else if c.2.1<1∨3<c.2.1 then some 7 else none
def qjl:qi:=(([]:List UInt8),(0,(false,())))
def pkE (cs:List qi) (ks:List Int) (i:Nat):Option Int:=match ks[i]? with
 |none=>none
 |some k=>if k<0∨(cs.length:Int)≤k∨(qk cs k qjl).2.2.1=true∨(0<i∧k≤ks.getD (i - 1) 0) then some 9 else none
def qnT (t:qf):Int:=if nameOk t.1=false then 23 else if t.2.1.length=0 then 3 else if 6<t.2.1.length then 2 else match qR (qvz t.2.1) t.2.1.length with
 |some e=>e
 |none=>match qR (pkE t.2.1 t.2.2.1) t.2.2.1.length with
  |some e=>e
  |none=>if t.2.2.1.length=0 then 9 else 0
theorem qv5 {cs:List qi} {i:Nat} (hi:i<cs.length):ltI (((qh6 (qnv (cs[i]).1) cs).getD 0:Nat):Int) (i:Int)=open Classical in decide ((cs[i]).1∈(cs.take i).map (fun c=>c.1)):=by
 rw [qaF]
 apply decide_eq_decide.2
 cases h:qh6 (qnv (cs[i]).1) cs with
 |none=>
  have:=qm3 h cs[i] (List.getElem_mem hi)
  simp [qnv] at this
 |some j=>
  obtain ⟨hj,h1,h2⟩:=qgU h
  simp only [Option.getD_some]
  constructor
  ·intro hlt
   refine List.mem_map.2 ⟨cs[j],?_,by simpa [qnv] using h1⟩
   exact List.mem_take_iff_getElem.2 ⟨j,by omega,rfl⟩
  ·intro hm
   obtain ⟨c,hc,he⟩:=List.mem_map.1 hm
   obtain ⟨k,hk,rfl⟩:=List.mem_take_iff_getElem.1 hc
   have hki:k<i:=by omega
   by_cases hjk:k<j
   ·have:=h2 k hjk
    simp [qnv,he] at this
   ·omega
theorem qom {α:Type} (xs:List α):eqI (qr xs) 0=decide (xs.length=0):=by
 rw [qaC,qt]; exact decide_eq_decide.2 (by omega)
theorem qjW {α:Type} (xs:List α) (n:Nat):ltI (n:Int) (qr xs)=decide (n<xs.length):=by
 rw [qbr,qt]; exact decide_eq_decide.2 (by omega)
theorem qrc (N:Nat) (t:qf) (h:qmJ N t):qb1 N (t,())=some ((qnT t,()),()):=by
 have hn:=h.n
 have hc:=h.c
 have hk:=h.k
 simp only [qb1,qK]
 rw [qlu N t.1 (by have:=h.nm; omega) h.nm]
 simp only [qp,qu,cond_true,qom,show ltI 6 (qr t.2.1)=decide (6<t.2.1.length) from qjW _ 6]
 unfold qnT
 cases h1:nameOk t.1 with
 |false=>rfl
 |true=>
  simp only [Bool.not_true,cond_false,if_false,Bool.true_eq_false]
  by_cases h2:t.2.1.length=0
  ·simp [h2]
  by_cases h3:6<t.2.1.length
  ·simp [h2,h3]
  simp only [h2,h3,decide_false,cond_false,if_false]
  refine (qW (S:=Int×Unit) (fun i=>((i:Int),())) t.2.1.length (qvz t.2.1) (fun e=>some ((e,()),())) (match qR (pkE t.2.1 t.2.2.1) t.2.2.1.length with
   |some e=>some ((e,()),())
   |none=>some ((if t.2.2.1.length=0 then 9 else 0,()),())) rfl (fun i hi _ ih=> ?_) (fun _ ih=> ?_) hc).trans ?_
  ·simp only
   have hm:(t.2.1[i]).1.length<N:=h.cn _ (List.getElem_mem hi)
   rw [qJ (qav hi),qJ (qC hi),qD _ hi,qlu N _ (by omega) hm,qos N t _ hc hn,qO (by omega)]
   simp only [qp,qu,cond_true,qv5 hi,qvz,List.getElem?_eq_getElem hi]
   cases nameOk (t.2.1[i]).1 with
   |false=>rfl
   |true=>
    simp only [Bool.not_true,cond_false,if_false,Bool.true_eq_false]
    by_cases h4:(t.2.1[i]).1∈(t.2.1.take i).map (fun c=>c.1)
    ·simp only [h4,decide_true,cond_true,if_true]
    ·simp only [h4,decide_false,cond_false,if_false]
     rw [qaF,qaF,←Bool.decide_or,qaJ]
     split <;> rfl
  ·simp only
   rw [qE (qac (Nat.lt_irrefl _))]
   refine (qW (S:=Int×Unit) (fun i=>((i:Int),())) t.2.2.1.length (pkE t.2.1 t.2.2.1) (fun e=>some ((e,()),())) (some ((if t.2.2.1.length=0 then 9 else 0,()),())) rfl (fun i hi _ ih=> ?_) (fun _ ih=> ?_) hk).trans ?_
   ·simp only
    rw [qJ (qav hi),qJ (qC hi),qD _ hi,qO (by omega)]
    simp only [pkE,List.getElem?_eq_getElem hi]
    have e1:ltI (t.2.2.1[i]) 0=decide (t.2.2.1[i]<0):=qaF _ _
    have e2:leI (qr t.2.1) (t.2.2.1[i])=decide ((t.2.1.length:Int)≤t.2.2.1[i]):=by rw [qcO,qt]
    have e3:inB (t.2.2.1[i]) (qr t.2.1)=(decide (0≤t.2.2.1[i])&&decide (t.2.2.1[i]<(t.2.1.length:Int))):=by rw [qdq,qt]
    have e4:ltI 0 (i:Int)=decide (0<i):=by rw [qaF]; exact decide_eq_decide.2 (by omega)
    rw [e1,e2,e3,e4]
    change (bif _ then (bif ((_||(qk t.2.1 (t.2.2.1[i]) qjl).2.2.1)||_) then _ else _) else _)=_
    by_cases h4:t.2.2.1[i]<0
    ·simp [h4]
    by_cases h5:(t.2.1.length:Int)≤t.2.2.1[i]
    ·simp [h4,h5]
    have h6:0≤t.2.2.1[i]:=by omega
    have h7:t.2.2.1[i]<(t.2.1.length:Int):=by omega
    by_cases h8:0<i
    ·have e5:inB (qbn .i64 (i:Int) 1) (qr t.2.2.1)=true:=by rw [qcP (by omega) (by omega),qdj,qt]; simp; omega
     have e6:qk t.2.2.1 (qbn .i64 (i:Int) 1) 0=t.2.2.1.getD (i - 1) 0:=by
      rw [qcP (by omega) (by omega),qdu,show ((i:Int) - 1).toNat=i - 1 by omega]
     rw [e5,e6,qcO]
     generalize (qk t.2.1 (t.2.2.1[i]) qjl).2.2.1=bb
     generalize t.2.2.1.getD (i - 1) 0=pv
     cases bb <;> by_cases h9:t.2.2.1[i]≤pv <;> simp [h4,h5,h6,h7,h8,h9]
    ·generalize (qk t.2.1 (t.2.2.1[i]) qjl).2.2.1=bb
     cases bb <;> simp [h4,h5,h6,h7,h8]
   ·simp only
    rw [qE (qac (Nat.lt_irrefl _)),qaJ]
    split <;> rfl
   ·cases qR (pkE t.2.1 t.2.2.1) t.2.2.1.length <;> rfl
  ·cases qR (qvz t.2.1) t.2.1.length with
   |some e=>rfl
   |none=>cases qR (pkE t.2.1 t.2.2.1) t.2.2.1.length <;> rfl
theorem qq5 (N:Nat) (t:qf) (h:qmJ N t):qbK N (t,())=some ((qnT t,()),()):=by
 have hn:=h.n
 have hc:=h.c
 have hk:=h.k
 have hm0:=h.m
 simp only [qbK,qK]
 rw [qnW N t.1 hm0]
 simp only [qp,qu,cond_true,qom,show ltI 6 (qr t.2.1)=decide (6<t.2.1.length) from qjW _ 6]
 unfold qnT
 cases h1:nameOk t.1 with
 |false=>rfl
 |true=>
  simp only [Bool.not_true,cond_false,if_false,Bool.true_eq_false]
  by_cases h2:t.2.1.length=0
  ·simp [h2]
  by_cases h3:6<t.2.1.length
  ·simp [h2,h3]
  simp only [h2,h3,decide_false,cond_false,if_false]
  refine (qW (S:=(List ((List UInt8)×Int))×(Int×Unit)) (fun i=>(qqi ((t.2.1.take i).map (fun c=>c.1)),((i:Int),()))) t.2.1.length (qvz t.2.1) (fun e=>some ((e,()),())) (match qR (pkE t.2.1 t.2.2.1) t.2.2.1.length with
   |some e=>some ((e,()),())
   |none=>some ((if t.2.2.1.length=0 then 9 else 0,()),())) rfl (fun i hi _ ih=> ?_) (fun _ ih=> ?_) hc).trans ?_
  ·simp only
   have hm:(t.2.1[i]).1.length<N:=h.cn _ (List.getElem_mem hi)
   have hlen:((t.2.1.take i).map (fun c=>c.1)).length<4611686018427387904:=by
    rw [List.length_map,List.length_take]; omega
   rw [qJ (qav hi),qJ (qC hi),qD _ hi,qnW N _ hm0,qnQ _ hlen,qO (by omega),←qmA]
   have e0:(t.2.1.take i).map (fun c=>c.1)++[(t.2.1[i]).1]=(t.2.1.take (i+1)).map (fun c=>c.1):=by rw [qbi hi,List.map_append]; rfl
   simp only [qp,qu,cond_true,qvz,List.getElem?_eq_getElem hi,e0]
   cases nameOk (t.2.1[i]).1 with
   |false=>rfl
   |true=>
    simp only [Bool.not_true,cond_false,if_false,Bool.true_eq_false]
    by_cases h4:(t.2.1[i]).1∈(t.2.1.take i).map (fun c=>c.1)
    ·simp only [h4,decide_true,cond_true,if_true]
    ·simp only [h4,decide_false,cond_false,if_false]
     rw [qaF,qaF,←Bool.decide_or,qaJ]
     split <;> rfl
  ·simp only
   rw [qE (qac (Nat.lt_irrefl _))]
   have hprev:∀i,i≤t.2.2.1.length→qR (pkE t.2.1 t.2.2.1) i=none→0<i→0≤t.2.2.1.getD (i - 1) 0:=fun i hi hf h0=>by
    have hlt:i - 1<t.2.2.1.length:=by omega
    have:=qaq hf (i - 1) (by omega)
    simp only [pkE,List.getElem?_eq_getElem hlt] at this
    split at this
    ·cases this
    ·rename_i hc
     simp only [not_or] at hc
     rw [List.getD_eq_getElem?_getD,List.getElem?_eq_getElem hlt]
     simp only [Option.getD_some]
     omega
   refine (qW (S:=qbj) (fun i=>(if i=0 then -1 else t.2.2.1.getD (i - 1) 0,((i:Int),()))) t.2.2.1.length (pkE t.2.1 t.2.2.1) (fun e=>some ((e,()),())) (some ((if t.2.2.1.length=0 then 9 else 0,()),())) rfl (fun i hi hf ih=> ?_) (fun hf ih=> ?_) hk).trans ?_
   ·simp only
    rw [qJ (qav hi),qJ (qC hi),qD _ hi,qO (by omega)]
    simp only [pkE,List.getElem?_eq_getElem hi]
    have e2:leI (qr t.2.1) (t.2.2.1[i])=decide ((t.2.1.length:Int)≤t.2.2.1[i]):=by rw [qcO,qt]
    have e3:inB (t.2.2.1[i]) (qr t.2.1)=(decide (0≤t.2.2.1[i])&&decide (t.2.2.1[i]<(t.2.1.length:Int))):=by rw [qdq,qt]
    have e5:t.2.2.1.getD (i+1 - 1) 0=t.2.2.1[i]:=by
     rw [List.getD_eq_getElem?_getD,Nat.add_sub_cancel,List.getElem?_eq_getElem hi]; rfl
    rw [e2,e3,qcO]
    have hp:=hprev i (Nat.le_of_lt hi) hf
    simp only [show ¬(i+1=0) by omega,if_false,e5]
    change (bif _ then (bif (_||(qk t.2.1 (t.2.2.1[i]) qjl).2.2.1) then _ else _) else _)=_
    generalize (qk t.2.1 (t.2.2.1[i]) qjl).2.2.1=bb
    by_cases h8:i=0
    ·subst h8
     by_cases h4:t.2.2.1[0]<0
     ·have h6:t.2.2.1[0]≤ -1:=by omega
      simp [h4,h6]
     ·have h6:¬t.2.2.1[0]≤ -1:=by omega
      have h7:(0:Int)≤t.2.2.1[0]:=by omega
      by_cases h5:(t.2.1.length:Int)≤t.2.2.1[0]
      ·simp [h4,h5]
      ·have h9:t.2.2.1[0]<(t.2.1.length:Int):=by omega
       cases bb <;> simp [h4,h5,h6,h7,h9]
    ·have h0:0<i:=by omega
     have hp:=hp h0
     generalize t.2.2.1.getD (i - 1) 0=pv at *
     by_cases h4:t.2.2.1[i]≤pv
     ·simp [h4,h8,h0]
     ·have h6:¬t.2.2.1[i]<0:=by omega
      have h7:0≤t.2.2.1[i]:=by omega
      by_cases h5:(t.2.1.length:Int)≤t.2.2.1[i]
      ·simp [h4,h5,h8]
      ·have h9:t.2.2.1[i]<(t.2.1.length:Int):=by omega
       cases bb <;> simp [h4,h5,h6,h7,h8,h9]
   ·simp only
    rw [qE (qac (Nat.lt_irrefl _)),qaF,qaJ]
    by_cases h0:t.2.2.1.length=0
    ·simp [h0]
    ·have:=hprev _ (Nat.le_refl _) hf (by omega)
     rw [if_neg h0,if_neg h0,if_neg (by omega)]
   ·cases qR (pkE t.2.1 t.2.2.1) t.2.2.1.length <;> rfl
  ·cases qR (qvz t.2.1) t.2.1.length with
   |some e=>rfl
   |none=>cases qR (pkE t.2.1 t.2.2.1) t.2.2.1.length <;> rfl
end
end Go.Proofs.YtnlkfgdojfijpaaGreatDoor
namespace Go.Proofs.YtnlkfgdojfijpaaGreatDoor
open Go.Vi
noncomputable section
theorem qop {α:Type} (q:α→Bool) (xs:List α):(qh6 q xs).isSome=xs.any q:=by
 cases h:qh6 q xs with
 |none=>
  have:=qm3 h
  rw [Option.isSome_none,eq_comm,Bool.eq_false_iff]
  simp only [ne_eq,List.any_eq_true,not_exists,not_and]
  intro x hx
  rw [this x hx]
  simp
 |some i=>
  obtain ⟨hi,h1,_⟩:=qgU h
  rw [Option.isSome_some,eq_comm,List.any_eq_true]
  exact ⟨_,List.getElem_mem hi,h1⟩
def qnG (s:qj):Prop:=∀t∈s.1,∀k∈t.2.2.1,0≤k∧k<(t.2.1.length:Int)
theorem qcs {s:qj} {n:List UInt8} {t:qf} (h:qeu s n=some t):t∈s.1:=by
 unfold qeu at h
 cases hi:qh6 (qcE n) s.1 with
 |none=>rw [hi] at h; cases h
 |some i=>
  rw [hi] at h
  exact List.mem_of_getElem? h
theorem qc7 (s:qj) (n:List UInt8):(qh6 (qcE n) s.1=none∧qeu s n=none)∨∃i t,qh6 (qcE n) s.1=some i∧qeu s n=some t∧i<s.1.length∧∀d,qk s.1 (i:Int) d=t:=by
 unfold qeu
 cases h:qh6 (qcE n) s.1 with
 |none=>exact .inl ⟨rfl,rfl⟩
 |some i=>
  obtain ⟨hi,_⟩:=qgU h
  exact .inr ⟨i,s.1[i],rfl,by simp [hi],hi,fun d=>qD d hi⟩
def fkE (t r:qf) (cs:List Int) (j:Nat):Option Int:=match cs[j]? with
 |none=>none
 |some c=>if c<0∨(t.2.1.length:Int)≤c then some 3 else if (qk t.2.1 c qjl).2.1≠(qk r.2.1 (r.2.2.1.getD j 0) qjl).2.1 then some 7 else none
def vFk (s:qj) (f:qc):Int:=match qeu s f.1,qeu s f.2.2.1 with
 |some t,some r=>if f.2.1.length≠r.2.2.1.length then 3 else match qR (fkE t r f.2.1) f.2.1.length with
  |some e=>e
  |none=>0
 |_,_=>4
theorem qdQ {α β:Type} (xs:List α) (ys:List β):neI (qr xs) (qr ys)=decide (xs.length≠ys.length):=by
 rw [qan,qt,qt,←decide_not]; exact decide_eq_decide.2 (by omega)
theorem qvr (N:Nat) (s:qj) (f:qc) (hB:N≤1099511627776) (ht:s.1.length<N) (hf:f.2.1.length<N) (hv:qnG s):qba N (s,(f,()))=some ((vFk s f,()),()):=by
 simp only [qba,qK]
 rw [qc2 N s f.1 ht hB,qc2 N s f.2.2.1 ht hB]
 simp only [qp,qu,cond_true,vFk]
 rcases qc7 s f.1 with ⟨h1,h2⟩|⟨i,t,h1,h2,h3,h4⟩
 ·rw [h1,h2]; rfl
 rcases qc7 s f.2.2.1 with ⟨g1,g2⟩|⟨k,r,g1,g2,g3,g4⟩
 ·rw [g1,g2,h1,h2]; rfl
 rw [h1,h2,g1,g2]
 simp only [Option.isSome_some,Bool.not_true,Bool.or_self,cond_false,Option.getD_some,qC h3,qC g3,Bool.and_self,cond_true,h4,g4,qdQ,qaJ]
 by_cases hl:f.2.1.length≠r.2.2.1.length
 ·rw [if_pos hl,if_pos hl]
 rw [if_neg hl,if_neg hl]
 have hl:f.2.1.length=r.2.2.1.length:=by omega
 have hr:=hv r (qcs g2)
 refine (qW (S:=Int×Unit) (fun i=>((i:Int),())) f.2.1.length (fkE t r f.2.1) (fun e=>some ((e,()),())) (some ((0,()),())) rfl (fun j hj _ ih=> ?_) (fun _ ih=> ?_) hf).trans ?_
 ·simp only
  have hjr:j<r.2.2.1.length:=by omega
  have e0:r.2.2.1.getD j 0=r.2.2.1[j]:=by rw [List.getD_eq_getElem?_getD,List.getElem?_eq_getElem hjr]; rfl
  rw [qJ (qav hj),qJ (qC hj),qD _ hj,qO (by omega),qC hjr,qD _ hjr]
  simp only [fkE,List.getElem?_eq_getElem hj,e0]
  obtain ⟨q1,q2⟩:=hr _ (List.getElem_mem hjr)
  have e1:ltI (f.2.1[j]) 0=decide (f.2.1[j]<0):=qaF _ _
  have e2:leI (qr t.2.1) (f.2.1[j])=decide ((t.2.1.length:Int)≤f.2.1[j]):=by rw [qcO,qt]
  have e3:inB (f.2.1[j]) (qr t.2.1)=(decide (0≤f.2.1[j])&&decide (f.2.1[j]<(t.2.1.length:Int))):=by rw [qdq,qt]
  have e4:inB (r.2.2.1[j]) (qr r.2.1)=true:=by rw [qdj,qt]; simp [q1,q2]
  rw [e1,e2,e3,e4]
  change (bif _ then _ else (bif _ then (bif neI (qk t.2.1 (f.2.1[j]) qjl).2.1 (qk r.2.1 (r.2.2.1[j]) qjl).2.1 then _ else _) else _))=_
  by_cases h5:f.2.1[j]<0
  ·simp [h5]
  by_cases h6:(t.2.1.length:Int)≤f.2.1[j]
  ·simp [h6]
  have h7:0≤f.2.1[j]:=by omega
  have h8:f.2.1[j]<(t.2.1.length:Int):=by omega
  simp only [h5,h6,h7,h8,decide_false,decide_true,Bool.or_self,Bool.and_self,cond_false,cond_true,or_self,if_false,qan,←decide_not,qaJ]
  split <;> rename_i hq <;> simp [hq]
 ·simp only
  rw [qE (qac (Nat.lt_irrefl _))]
 ·cases qR (fkE t r f.2.1) f.2.1.length <;> rfl
theorem qvK (N:Nat) (s:qj) (f:qc) (hB:N≤1099511627776) (ht:s.1.length<N) (hf:f.2.1.length<N) (hv:qnG s):qaX N (s,(f,()))=some ((vFk s f,()),()):=by
 simp only [qaX,qK]
 rw [qfu N s f.1 ht hB,qfu N s f.2.2.1 ht hB]
 simp only [qp,qu,Bool.and_self,cond_true,vFk]
 cases h2:qeu s f.1 with
 |none=>rw [qiR]; rfl
 |some t=>
 cases g2:qeu s f.2.2.1 with
 |none=>rw [qiR,qp]; rfl
 |some r=>
 simp only [qp,qu,Bool.not_true,Bool.or_self,cond_false,cond_true,qdQ,qaJ]
 by_cases hl:f.2.1.length≠r.2.2.1.length
 ·rw [if_pos hl,if_pos hl]
 rw [if_neg hl,if_neg hl]
 have hl:f.2.1.length=r.2.2.1.length:=by omega
 have hr:=hv r (qcs g2)
 refine (qW (S:=Int×Unit) (fun i=>((i:Int),())) f.2.1.length (fkE t r f.2.1) (fun e=>some ((e,()),())) (some ((0,()),())) rfl (fun j hj _ ih=> ?_) (fun _ ih=> ?_) hf).trans ?_
 ·simp only
  have hjr:j<r.2.2.1.length:=by omega
  have e0:r.2.2.1.getD j 0=r.2.2.1[j]:=by rw [List.getD_eq_getElem?_getD,List.getElem?_eq_getElem hjr]; rfl
  rw [qJ (qav hj),qJ (qC hj),qD _ hj,qO (by omega),qC hjr,qD _ hjr]
  simp only [fkE,List.getElem?_eq_getElem hj,e0]
  obtain ⟨q1,q2⟩:=hr _ (List.getElem_mem hjr)
  have e1:ltI (f.2.1[j]) 0=decide (f.2.1[j]<0):=qaF _ _
  have e2:leI (qr t.2.1) (f.2.1[j])=decide ((t.2.1.length:Int)≤f.2.1[j]):=by rw [qcO,qt]
  have e3:inB (f.2.1[j]) (qr t.2.1)=(decide (0≤f.2.1[j])&&decide (f.2.1[j]<(t.2.1.length:Int))):=by rw [qdq,qt]
  have e4:inB (r.2.2.1[j]) (qr r.2.1)=true:=by rw [qdj,qt]; simp [q1,q2]
  rw [e1,e2,e3,e4]
  change (bif _ then (bif _ then _ else (bif _ then (bif neI (qk t.2.1 (f.2.1[j]) qjl).2.1 (qk r.2.1 (r.2.2.1[j]) qjl).2.1 then _ else _) else _)) else _)=_
  by_cases h5:f.2.1[j]<0
  ·simp [h5]
  by_cases h6:(t.2.1.length:Int)≤f.2.1[j]
  ·simp [h6]
  have h7:0≤f.2.1[j]:=by omega
  have h8:f.2.1[j]<(t.2.1.length:Int):=by omega
  simp only [h5,h6,h7,h8,decide_false,decide_true,Bool.or_self,Bool.and_self,Bool.or_true,cond_false,cond_true,or_self,if_false,qan,←decide_not,qaJ]
  split <;> rename_i hq <;> simp [hq]
 ·simp only
  rw [qE (qac (Nat.lt_irrefl _))]
 ·cases qR (fkE t r f.2.1) f.2.1.length <;> rfl
def qjF (v:qa):Int:=
 if v.1<0∨3<v.1 then 7 else if (v.1≠3∧v.2.2.1≠[])∨((v.1=0∨v.1=3)∧v.2.1≠0) then 3
 else if (v.1=2∧(v.2.1<0∨1<v.2.1))∨1000000000000<v.2.1∨v.2.1< -1000000000000 then 1 else if 24<v.2.2.1.length then 2 else 0
theorem qkE (N:Nat) (v:qa):qN N (v,())=some ((qjF v,()),()):=by
 obtain ⟨k,n,s,⟨⟩⟩:=v
 simp only [qN,qK,qjF,qaF,qan,qaC,qbs,qt]
 simp only [quW,Bool.or_eq_true,Bool.and_eq_true,decide_eq_true_eq,Bool.not_eq_true',decide_eq_false_iff_not]
 grind
theorem qkl (N:Nat) (v:qa):qaV N (v,())=some ((qjF v,()),()):=by
 obtain ⟨k,n,s,⟨⟩⟩:=v
 simp only [qaV,qK,qjF,qaF,qan,qaC,qbs,qt]
 simp only [quW,Bool.or_eq_true,Bool.and_eq_true,decide_eq_true_eq,Bool.not_eq_true',decide_eq_false_iff_not]
 by_cases k0:k=0
 ·subst k0; grind
 by_cases k1:k=1
 ·subst k1; grind
 by_cases k2:k=2
 ·subst k2; grind
 by_cases k3:k=3
 ·subst k3; grind
 grind
def quU (o:List UInt8):Bool:=decide (o=[61])||(decide (o=[60])||decide (o=[60,61]))
def qhU (v:qa):Bool:=decide (v.1=0)&&(decide (v.2.1=0)&&decide (v.2.2.1=[]))
def quS (s:qj) (c:qd):Int:=match qeu s c.1 with
 |none=>4
 |some t=>if c.2.1<0∨(t.2.1.length:Int)≤c.2.1∨quU c.2.2.1=false∨c.2.2.2.1< -1∨(t.2.1.length:Int)≤c.2.2.2.1∨(0≤c.2.2.2.1∧qhU c.2.2.2.2.1=false) then 3
  else if 0≤c.2.2.2.1 then (if (qk t.2.1 c.2.1 qjl).2.1≠(qk t.2.1 c.2.2.2.1 qjl).2.1 then 7 else 0)
  else if c.2.2.2.2.1.1≠(qk t.2.1 c.2.1 qjl).2.1 then 7 else qjF c.2.2.2.2.1
theorem qpe (N:Nat) (o:List UInt8):∃b,qcZ N ((0,(0,(([]:List UInt8),()))),(o,((0,(0,(([]:List UInt8),()))),())))=some ((b,(if quU o=true then 0 else 3,())),()):=by
 simp only [qcZ,qK,qbs,qaC,quU]
 by_cases h1:o=[61]
 ·exact ⟨true,by simp [h1]⟩
 by_cases h2:o=[60]
 ·exact ⟨true,by simp [h2]⟩
 by_cases h3:o=[60,61]
 ·exact ⟨true,by simp [h3]⟩
 ·exact ⟨false,by simp [h1,h2,h3]⟩
theorem quM (N:Nat) (s:qj) (c:qd) (hB:N≤1099511627776) (ht:s.1.length<N):qa9 N (s,(c,()))=some ((quS s c,()),()):=by
 obtain ⟨b,hb⟩:=qpe N c.2.2.1
 simp only [qa9,qK]
 rw [qc2 N s c.1 ht hB,hb,qkl]
 simp only [qp,qu,cond_true,quS]
 rcases qc7 s c.1 with ⟨h1,h2⟩|⟨i,t,h1,h2,h3,h4⟩
 ·rw [h1,h2]; rfl
 rw [h1,h2]
 simp only [Option.isSome_some,Bool.not_true,cond_false,Option.getD_some,qC h3,cond_true,h4]
 obtain ⟨c1,l,o,r,v,⟨⟩⟩:=c
 simp only at *
 have e1:ltI l 0=decide (l<0):=qaF _ _
 have e2:leI (qr t.2.1) l=decide ((t.2.1.length:Int)≤l):=by rw [qcO,qt]
 have e3:neI (if quU o=true then 0 else 3) 0= !quU o:=by rw [qan]; cases quU o <;> simp
 have e4:ltI r (-1)=decide (r< -1):=qaF _ _
 have e5:leI (qr t.2.1) r=decide ((t.2.1.length:Int)≤r):=by rw [qcO,qt]
 have e6:leI 0 r=decide (0≤r):=qcO _ _
 have e7:(eqI v.1 0&&(eqI v.2.1 0&&eqS v.2.2.1 []))=qhU v:=by simp only [qaC,qbs,qhU]
 have e8:inB l (qr t.2.1)=(decide (0≤l)&&decide (l<(t.2.1.length:Int))):=by rw [qdq,qt]
 have e9:inB r (qr t.2.1)=(decide (0≤r)&&decide (r<(t.2.1.length:Int))):=by rw [qdq,qt]
 rw [e1,e2,e3,e4,e5,e6,e7,e8,e9]
 change (bif _ then _ else (bif _ then (bif _ then (bif neI (qk t.2.1 l qjl).2.1 (qk t.2.1 r qjl).2.1 then _ else _) else _) else (bif _ then (bif neI v.1 (qk t.2.1 l qjl).2.1 then _ else _) else _)))=_
 rw [qan,qan]
 generalize (qk t.2.1 l qjl).2.1=kl
 generalize (qk t.2.1 r qjl).2.1=kr
 simp only [quW,Bool.or_eq_true,Bool.and_eq_true,decide_eq_true_eq,Bool.not_eq_true',decide_eq_false_iff_not]
 generalize qjF v=vv
 generalize qhU v=vz
 generalize quU o=oo
 cases vz <;> cases oo <;> grind
theorem quH (N:Nat) (s:qj) (c:qd) (hB:N≤1099511627776) (ht:s.1.length<N):qaU N (s,(c,()))=some ((quS s c,()),()):=by
 have hop:qcI N (c.2.2.1,())=some ((quU c.2.2.1,()),()):=by
  simp only [qcI,qbs,quU,Bool.or_assoc]
 simp only [qaU,qK]
 rw [qfu N s c.1 ht hB,hop,qkE]
 simp only [qp,qu,cond_true,quS]
 cases h2:qeu s c.1 with
 |none=>rw [qiR]; rfl
 |some t=>
 simp only [qp,qu,Bool.not_true,cond_false,cond_true,Bool.or_true]
 obtain ⟨c1,l,o,r,v,⟨⟩⟩:=c
 simp only at *
 have e1:ltI l 0=decide (l<0):=qaF _ _
 have e2:leI (qr t.2.1) l=decide ((t.2.1.length:Int)≤l):=by rw [qcO,qt]
 have e4:ltI r (-1)=decide (r< -1):=qaF _ _
 have e5:leI (qr t.2.1) r=decide ((t.2.1.length:Int)≤r):=by rw [qcO,qt]
 have e6:neI r (-1)= !decide (r= -1):=qan _ _
 have e7:(eqI v.1 0&&(eqI v.2.1 0&&eqS v.2.2.1 []))=qhU v:=by simp only [qaC,qbs,qhU]
 have e8:inB l (qr t.2.1)=(decide (0≤l)&&decide (l<(t.2.1.length:Int))):=by rw [qdq,qt]
 have e9:inB r (qr t.2.1)=(decide (0≤r)&&decide (r<(t.2.1.length:Int))):=by rw [qdq,qt]
 rw [e1,e2,e4,e5,e6,e7,e8,e9]
 change (bif _ then _ else (bif _ then (bif _ then (bif neI (bif _ then (qk t.2.1 r qjl).2.1 else v.1) (qk t.2.1 l qjl).2.1 then _ else _) else _) else _))=_
 rw [qan]
 generalize (qk t.2.1 l qjl).2.1=kl
 generalize (qk t.2.1 r qjl).2.1=kr
 simp only [quW,Bool.or_eq_true,Bool.and_eq_true,decide_eq_true_eq,Bool.not_eq_true',decide_eq_false_iff_not]
 generalize qjF v=vv
 generalize qhU v=vz
 generalize quU o=oo
 cases vz <;> cases oo <;> grind
def qqk (ts:List qf) (i:Nat):Option Int:=match ts[i]? with
 |none=>none
 |some t=>if qnT t≠0 then some (qnT t) else if 0<i∧qgf (qk ts ((i:Int) - 1) (([]:List UInt8),(([]:List qi),(([]:List Int),())))).1 t.1=false then some 6 else none
open Classical in
def fkL (s:qj) (i:Nat):Option Int:=match s.2.1[i]? with
 |none=>none
 |some f=>if vFk s f≠0 then some (vFk s f) else if f∈s.2.1.take i then some 5 else none
open Classical in
def qqP (s:qj) (i:Nat):Option Int:=match s.2.2.1[i]? with
 |none=>none
 |some c=>if quS s c≠0 then some (quS s c) else if c∈s.2.2.1.take i then some 5 else none
def qkN (s:qj):Int:=if 6<s.1.length∨8<s.2.1.length∨8<s.2.2.1.length then 2 else match qR (qqk s.1) s.1.length with
 |some e=>e
 |none=>match qR (fkL s) s.2.1.length with
  |some e=>e
  |none=>match qR (qqP s) s.2.2.1.length with
   |some e=>e
   |none=>0
theorem qig {s:qj} (h:qR (qqk s.1) s.1.length=none):qnG s:=fun t ht k hk=>by
 obtain ⟨i,hi,rfl⟩:=List.getElem_of_mem ht
 have:=qaq h i hi
 simp only [qqk,List.getElem?_eq_getElem hi] at this
 split at this
 ·cases this
 rename_i hv
 have hv:qnT s.1[i]=0:=by simpa using hv
 unfold qnT at hv
 split at hv
 ·cases hv
 split at hv
 ·cases hv
 split at hv
 ·cases hv
 split at hv
 ·rename_i e he
  obtain ⟨j,h1,h2,_⟩:=qbb he
  simp only [qvz,List.getElem?_eq_getElem h1] at h2
  subst hv
  split at h2
  ·cases h2
  split at h2
  ·cases h2
  split at h2 <;> cases h2
 split at hv
 ·rename_i e he
  obtain ⟨j,h1,h2,_⟩:=qbb he
  simp only [pkE,List.getElem?_eq_getElem h1] at h2
  subst hv
  split at h2 <;> cases h2
 rename_i hpk
 obtain ⟨j,hj,rfl⟩:=List.getElem_of_mem hk
 have:=qaq hpk j hj
 simp only [pkE,List.getElem?_eq_getElem hj] at this
 split at this
 ·cases this
 ·rename_i hc
  simp only [not_or] at hc
  omega
structure qcU (N:Nat) (s:qj):Prop where
 sm:Small N s
 m:100<N
theorem qcU.tab {N:Nat} {s:qj} (h:qcU N s) {t:qf} (ht:t∈s.1):qmJ N t:=
 ⟨h.sm.n,h.m,h.sm.tn t ht,h.sm.tc t ht,h.sm.tk t ht,h.sm.cn t ht⟩
theorem gt3 (s:qj):((ltI 6 (qr s.1)||ltI 8 (qr s.2.1))||ltI 8 (qr s.2.2.1))=decide (6<s.1.length∨8<s.2.1.length∨8<s.2.2.1.length):=by
 rw [show ltI 6 (qr s.1)=decide (6<s.1.length) from qjW _ 6,show ltI 8 (qr s.2.1)=decide (8<s.2.1.length) from qjW _ 8,show ltI 8 (qr s.2.2.1)=decide (8<s.2.2.1.length) from qjW _ 8,←Bool.decide_or,←Bool.decide_or]
 exact decide_eq_decide.2 or_assoc
theorem qus (N:Nat) (xs:List qd) (c:qd) (hN:xs.length<N) (hb:xs.length≤1099511627776):qaW N (xs,(c,()))=some ((qif (fun x=>decide (c=x)) xs,()),()):=by
 simp only [qaW]
 refine (qW (S:=Int×Unit) (fun i=>((i:Int),())) xs.length (atE (fun x=>decide (c=x)) xs) (fun i=>some (((i:Int),()),())) (some ((-1,()),())) rfl (fun i hi _ ih=> ?_) (fun _ ih=> ?_) hN).trans ?_
 ·simp only
  rw [qJ (qav hi),qJ (qC hi),qD _ hi,qO (by omega)]
  simp only [atE,List.getElem?_eq_getElem hi]
  generalize xs[i]=x
  obtain ⟨a1,a2,a3,a4,⟨a5,a6,a7,⟨⟩⟩,⟨⟩⟩:=c
  obtain ⟨b1,b2,b3,b4,⟨b5,b6,b7,⟨⟩⟩,⟨⟩⟩:=x
  simp only [qbs,qaC,Prod.mk.injEq,and_true,←Bool.decide_and,qaJ,decide_eq_true_eq]
  split <;> rename_i hq <;> simp [hq]
 ·simp only
  rw [qE (qac (Nat.lt_irrefl _))]
 ·rw [qif,qh6]
  cases qR (atE (fun x=>decide (c=x)) xs) xs.length <;> rfl
theorem qp5 (N:Nat) (xs:List qd) (c:qd) (hN:xs.length<N) (hb:xs.length≤1099511627776):qaI N (xs,(c,()))=some ((decide (c∈xs),()),()):=by
 simp only [qaI,qus N xs c hN hb,qp,qu,cond_true,qoD,qop]
 congr 3
 rw [Bool.eq_iff_iff]
 simp
theorem qq2 (N:Nat) (xs:List qc) (f:qc) (hN:xs.length<N) (hB:N≤1099511627776) (hc:∀x∈xs,x.2.1.length<N):
  qau N (xs,((fun x6=>(qkf (fun y7=>(y7.1.1,())) (qbB N (x6.1,(f,()))))),()))=some ((decide (f∈xs),()),()):=by
 simp only [qau]
 have h:=qeL (fun x6=>(qkf (fun y7:((Bool×Unit)×Unit)=>(y7.1.1,())) (qbB N (x6.1,(f,()))))) (fun x=>decide (x=f)) xs (fun a ha=>by simp only [qbB,qsd N a f (hc a ha) hB,qp,qu,cond_true,qd2,Option.map_some]) (([]:List UInt8),(([]:List Int),(([]:List UInt8),()))) N hN (by omega)
 rw [show qa6 N (xs,((fun x6=>(qkf (fun y7=>(y7.1.1,())) (qbB N (x6.1,(f,()))))),()))=some ((qif (fun x=>decide (x=f)) xs,()),()) from h]
 simp only [qp,qu,cond_true,qoD,qop]
 congr 3
 rw [Bool.eq_iff_iff]
 simp
theorem qpJ (N:Nat) (s:qj) (h:qcU N s):qb4 N (s,())=some ((qkN s,()),()):=by
 have hn:=h.sm.n
 have ht:=h.sm.t
 have hf:=h.sm.f
 have hc:=h.sm.c
 simp only [qb4,qK,gt3,qaJ]
 unfold qkN
 by_cases h0:6<s.1.length∨8<s.2.1.length∨8<s.2.2.1.length
 ·rw [if_pos h0,if_pos h0]
 rw [if_neg h0,if_neg h0]
 refine (qW (S:=Int×Unit) (fun i=>((i:Int),())) s.1.length (qqk s.1) (fun e=>some ((e,()),())) (some ((match qR (fkL s) s.2.1.length with
  |some e=>e
  |none=>match qR (qqP s) s.2.2.1.length with
   |some e=>e
   |none=>0,()),())) rfl (fun i hi _ ih=> ?_) (fun hk ih=> ?_) ht).trans ?_
 ·simp only
  rw [qJ (qav hi),qJ (qC hi),qD _ hi,qrc N _ (h.tab (List.getElem_mem hi)),qO (by omega)]
  simp only [qp,qu,cond_true,qqk,List.getElem?_eq_getElem hi,qan,←decide_not,qaJ]
  by_cases h1:qnT s.1[i]=0
  ·have e4:ltI 0 (i:Int)=decide (0<i):=by rw [qaF]; exact decide_eq_decide.2 (by omega)
   rw [if_neg (by simp [h1]),if_neg (by simp [h1]),e4]
   by_cases h8:0<i
   ·have e5:qbn .i64 (i:Int) 1=(i:Int) - 1:=qcP (by omega) (by omega)
    have e6:inB ((i:Int) - 1) (qr s.1)=true:=by rw [qdj,qt]; simp; omega
    rw [e5,e6,qqy]
    cases qgf (qk s.1 ((i:Int) - 1) (([]:List UInt8),(([]:List qi),(([]:List Int),())))).1 (s.1[i]).1 <;> simp [h8]
   ·simp [h8]
  ·rw [if_pos h1,if_pos h1]
 ·simp only
  have hv:=qig hk
  rw [qE (qac (Nat.lt_irrefl _))]
  refine (qW (S:=Int×Unit) (fun i=>((i:Int),())) s.2.1.length (fkL s) (fun e=>some ((e,()),())) (some ((match qR (qqP s) s.2.2.1.length with
   |some e=>e
   |none=>0,()),())) rfl (fun i hi _ ih=> ?_) (fun _ ih=> ?_) hf).trans ?_
  ·simp only
   rw [qJ (qav hi),qJ (qC hi),qD _ hi,qvr N s _ hn ht (h.sm.fc _ (List.getElem_mem hi)) hv,qO (by omega),ql4,qq2 N (s.2.1.take i) _ (by rw [List.length_take]; omega) hn (fun x hx=>h.sm.fc x (List.mem_of_mem_take hx))]
   have e5:inS 0 (i:Int) (qr s.2.1)=true:=by rw [qlb,qt]; simp; omega
   simp only [qp,qu,cond_true,fkL,List.getElem?_eq_getElem hi,qan,←decide_not,qaJ,e5,Bool.and_self]
   by_cases h1:vFk s s.2.1[i]=0
   ·simp only [h1,ne_eq,not_true_eq_false,if_false]
    by_cases h2:s.2.1[i]∈s.2.1.take i
    ·rw [if_pos h2,if_pos h2]
    ·rw [if_neg h2,if_neg h2]
   ·rw [if_pos h1,if_pos h1]
  ·simp only
   rw [qE (qac (Nat.lt_irrefl _))]
   refine (qW (S:=Int×Unit) (fun i=>((i:Int),())) s.2.2.1.length (qqP s) (fun e=>some ((e,()),())) (some ((0,()),())) rfl (fun i hi _ ih=> ?_) (fun _ ih=> ?_) hc).trans ?_
   ·simp only
    rw [qJ (qav hi),qJ (qC hi),qD _ hi,quM N s _ hn ht,qO (by omega),ql4,qp5 N (s.2.2.1.take i) _ (by rw [List.length_take]; omega) (by rw [List.length_take]; omega)]
    have e5:inS 0 (i:Int) (qr s.2.2.1)=true:=by rw [qlb,qt]; simp; omega
    simp only [qp,qu,cond_true,qqP,List.getElem?_eq_getElem hi,qan,←decide_not,qaJ,e5,Bool.and_self]
    by_cases h1:quS s s.2.2.1[i]=0
    ·simp only [h1,ne_eq,not_true_eq_false,if_false]
     by_cases h2:s.2.2.1[i]∈s.2.2.1.take i
     ·rw [if_pos h2,if_pos h2]
     ·rw [if_neg h2,if_neg h2]
    ·rw [if_pos h1,if_pos h1]
   ·simp only
    rw [qE (qac (Nat.lt_irrefl _))]
   ·cases qR (qqP s) s.2.2.1.length <;> rfl
  ·cases qR (fkL s) s.2.1.length <;> rfl
 ·cases qR (qqk s.1) s.1.length <;> rfl
theorem fk_ids (xs:List qc) (f:qc):fkC f∈xs.map fkC↔f∈xs:=by
 constructor
 ·intro h
  obtain ⟨x,hx,he⟩:=List.mem_map.1 h
  rw [qw4 he] at hx
  exact hx
 ·exact fun h=>List.mem_map_of_mem h
theorem qo9 (N:Nat) (s:qj) (h:qcU N s) (hid:∀f∈s.2.1,(fkC f).length≤1099511627776):qaH N (s,())=some ((qkN s,()),()):=by
 have hn:=h.sm.n
 have ht:=h.sm.t
 have hf:=h.sm.f
 have hc:=h.sm.c
 simp only [qaH,qK,gt3,qaJ]
 unfold qkN
 by_cases h0:6<s.1.length∨8<s.2.1.length∨8<s.2.2.1.length
 ·rw [if_pos h0,if_pos h0]
 rw [if_neg h0,if_neg h0]
 refine (qW (S:=Int×Unit) (fun i=>((i:Int),())) s.1.length (qqk s.1) (fun e=>some ((e,()),())) (some ((match qR (fkL s) s.2.1.length with
  |some e=>e
  |none=>match qR (qqP s) s.2.2.1.length with
   |some e=>e
   |none=>0,()),())) rfl (fun i hi _ ih=> ?_) (fun hk ih=> ?_) ht).trans ?_
 ·simp only
  rw [qJ (qav hi),qJ (qC hi),qD _ hi,qq5 N _ (h.tab (List.getElem_mem hi)),qO (by omega)]
  simp only [qp,qu,cond_true,qqk,List.getElem?_eq_getElem hi,qan,←decide_not,qaJ]
  by_cases h1:qnT s.1[i]=0
  ·have e4:ltI 0 (i:Int)=decide (0<i):=by rw [qaF]; exact decide_eq_decide.2 (by omega)
   rw [if_neg (by simp [h1]),if_neg (by simp [h1]),e4]
   by_cases h8:0<i
   ·have e5:qbn .i64 (i:Int) 1=(i:Int) - 1:=qcP (by omega) (by omega)
    have e6:inB ((i:Int) - 1) (qr s.1)=true:=by rw [qdj,qt]; simp; omega
    rw [e5,e6]
    cases qgf (qk s.1 ((i:Int) - 1) (([]:List UInt8),(([]:List qi),(([]:List Int),())))).1 (s.1[i]).1 <;> simp [h8]
   ·simp [h8]
  ·rw [if_pos h1,if_pos h1]
 ·simp only
  have hv:=qig hk
  rw [qE (qac (Nat.lt_irrefl _))]
  refine (qW (S:=(List ((List UInt8)×Int))×(Int×Unit)) (fun i=>(qqi ((s.2.1.take i).map fkC),((i:Int),()))) s.2.1.length (fkL s) (fun e=>some ((e,()),())) (some ((match qR (qqP s) s.2.2.1.length with
   |some e=>e
   |none=>0,()),())) rfl (fun i hi _ ih=> ?_) (fun _ ih=> ?_) hf).trans ?_
  ·simp only
   have hm:=List.getElem_mem hi
   have hlen:((s.2.1.take i).map fkC).length<4611686018427387904:=by rw [List.length_map,List.length_take]; omega
   have q:=h.sm.fc _ hm
   rw [qJ (qav hi),qJ (qC hi),qD _ hi,qvK N s _ hn ht q hv,qO (by omega),qmK N _ q (hid _ hm) (by omega)]
   simp only [qp,qu,cond_true]
   rw [qnQ _ hlen,←qmA]
   have e0:(s.2.1.take i).map fkC++[fkC s.2.1[i]]=(s.2.1.take (i+1)).map fkC:=by rw [qbi hi,List.map_append]; rfl
   simp only [fkL,List.getElem?_eq_getElem hi,qan,←decide_not,qaJ,e0,fk_ids]
   by_cases h1:vFk s s.2.1[i]=0
   ·simp only [h1,ne_eq,not_true_eq_false,if_false]
    by_cases h2:s.2.1[i]∈s.2.1.take i
    ·rw [if_pos h2,if_pos h2]
    ·rw [if_neg h2,if_neg h2]
   ·rw [if_pos h1,if_pos h1]
  ·simp only
   rw [qE (qac (Nat.lt_irrefl _))]
   refine (qW (S:=Int×Unit) (fun i=>((i:Int),())) s.2.2.1.length (qqP s) (fun e=>some ((e,()),())) (some ((0,()),())) rfl (fun i hi _ ih=> ?_) (fun _ ih=> ?_) hc).trans ?_
   ·simp only
    rw [qJ (qav hi),qJ (qC hi),qD _ hi,quH N s _ hn ht,qO (by omega),ql4]
    have e5:inS 0 (i:Int) (qr s.2.2.1)=true:=by rw [qlb,qt]; simp; omega
    simp only [qp,qu,cond_true,qqP,List.getElem?_eq_getElem hi,qan,←decide_not,qaJ,e5]
    by_cases h1:quS s s.2.2.1[i]=0
    ·simp only [h1,ne_eq,not_true_eq_false,if_false]
     have hlt:(s.2.2.1.take i).length<N:=by rw [List.length_take]; omega
     refine (qW (S:=Int×Unit) (fun j=>((j:Int),())) (s.2.2.1.take i).length (atE (fun x=>decide (x=s.2.2.1[i])) (s.2.2.1.take i)) (fun _=>some ((5,()),())) (ih (((i+1:Nat):Int),())) rfl (fun j hj _ ih2=> ?_) (fun _ ih2=> ?_) hlt).trans ?_
     ·simp only
      rw [qJ (qav hj),qJ (qC hj),qD _ hj,qO (by omega)]
      simp only [atE,List.getElem?_eq_getElem hj]
      generalize (s.2.2.1.take i)[j]=x
      generalize s.2.2.1[i]=c
      obtain ⟨a1,a2,a3,a4,⟨a5,a6,a7,⟨⟩⟩,⟨⟩⟩:=c
      obtain ⟨b1,b2,b3,b4,⟨b5,b6,b7,⟨⟩⟩,⟨⟩⟩:=x
      simp only [qbs,qaC,Prod.mk.injEq,and_true,←Bool.decide_and,qaJ,decide_eq_true_eq]
      split <;> rename_i hq <;> simp [hq]
     ·simp only
      rw [qE (qac (Nat.lt_irrefl _))]
     ·have e6:=qop (fun x=>decide (x=s.2.2.1[i])) (s.2.2.1.take i)
      unfold qh6 at e6
      by_cases h2:s.2.2.1[i]∈s.2.2.1.take i
      ·have:(s.2.2.1.take i).any (fun x=>decide (x=s.2.2.1[i]))=true:=by simp only [List.any_eq_true,decide_eq_true_eq]; exact ⟨_,h2,rfl⟩
       rw [this] at e6
       obtain ⟨k,hk⟩:=Option.isSome_iff_exists.1 e6
       rw [hk,if_pos h2]
      ·have:(s.2.2.1.take i).any (fun x=>decide (x=s.2.2.1[i]))=false:=by
        rw [List.any_eq_false]
        intro x hx he
        rw [decide_eq_true_eq] at he
        subst he
        exact h2 hx
       rw [this] at e6
       have hk:qR (atE (fun x=>decide (x=s.2.2.1[i])) (s.2.2.1.take i)) (s.2.2.1.take i).length=none:=by simpa using e6
       rw [hk,if_neg h2]
    ·rw [if_pos h1,if_pos h1]
   ·simp only
    rw [qE (qac (Nat.lt_irrefl _))]
   ·cases qR (qqP s) s.2.2.1.length <;> rfl
  ·cases qR (fkL s) s.2.1.length <;> rfl
 ·cases qR (qqk s.1) s.1.length <;> rfl
end
end Go.Proofs.YtnlkfgdojfijpaaGreatDoor
namespace Go.Proofs.YtnlkfgdojfijpaaGreatDoor
open Go.Vi
noncomputable section
theorem qjh (N:Nat) (x y:Int):qaR N (x,(y,()))=some ((ic x y,()),()):=by
 simp only [qaR,qK,qbr,condO,decide_eq_true_eq,ic]
 split
 ·rfl
 ·split <;> rfl
theorem qsu (N:Nat) (a b:List UInt8):qcV N (a,(b,()))=some ((Lib.compareBytes a b,()),()):=by
 simp only [qcV,qa8,qK,qp,qu,cond_true]
theorem qsI (N:Nat) (a b:qa):qcv N (a,(b,()))=some ((vc a b,()),()):=by
 simp only [qcv,qK,qjh,qsu,qp,qu,cond_true,qan,condO,Bool.not_eq_true',decide_eq_false_iff_not,vc]
 split
 ·rfl
 ·split <;> rfl
theorem qwV (N:Nat) (a b:qa):qbl N (a,(b,()))=some ((decide (vc a b<0),()),()):=by
 simp only [qbl,qK,qan,qbr,qi0]
 have h1:=qbu a.1 b.1
 have h2:=qbu a.2.1 b.2.1
 by_cases e1:a.1=b.1
 ·have f1:ic a.1 b.1=0:=by omega
  by_cases e2:a.2.1=b.2.1
  ·have f2:ic a.2.1 b.2.1=0:=by omega
   have:vc a b=Lib.compareBytes a.2.2.1 b.2.2.1:=by simp [vc,f1,f2]
   simp [e1,e2,this]
  ·have f2:ic a.2.1 b.2.1≠0:=by omega
   have h3:vc a b=ic a.2.1 b.2.1:=by simp [vc,f1,f2]
   have h4:a.2.1<b.2.1↔vc a b<0:=by omega
   simp [e1,e2,h4]
 ·have f1:ic a.1 b.1≠0:=by omega
  have h3:vc a b=ic a.1 b.1:=by simp [vc,f1]
  have h4:a.1<b.1↔vc a b<0:=by omega
  simp [e1,h4]
theorem qjf (N:Nat) (xs ys:qam) (hN:xs.length<N) (hB:N≤1099511627776):qaG N (xs,(ys,()))=some ((qZ xs ys,()),()):=by
 simp only [qaG,qK,qjh,qsI,qp,qu,cond_true,Bool.and_true]
 refine qeC (S:=Int×Unit) (R:=(Int×Unit)×Unit) (fun p=>xs.length - p.1.toNat) (fun p=>∃i:Nat,p.1=(i:Int)∧i≤xs.length∧i≤ys.length∧qZ (xs.drop i) (ys.drop i)=qZ xs ys) (fun _=>((qZ xs ys,()),())) ?_ N _ ⟨0,rfl,Nat.zero_le _,Nat.zero_le _,rfl⟩ (by simp; omega)
 rintro ih ⟨_,_⟩ ⟨i,rfl,hx,hy,he⟩ hih
 simp only [Int.toNat_natCast] at hih⊢
 by_cases h:i<xs.length∧i<ys.length
 ·obtain ⟨h1,h2⟩:=h
  rw [qJ (by rw [qbr,qlT,qt,qt]; simp; omega),qC h1,qC h2,qD _ h1,qD _ h2]
  simp only [Bool.and_self,cond_true]
  rw [List.drop_eq_getElem_cons h1,List.drop_eq_getElem_cons h2,qZ] at he
  by_cases hv:vc xs[i] ys[i]=0
  ·rw [if_neg (fun h=>h hv)] at he
   rw [qE (by rw [qan,hv]; rfl),qO (by omega)]
   exact hih _ ⟨i+1,rfl,h1,h2,he⟩ (by simp only [Int.toNat_natCast]; omega)
  ·rw [if_pos hv] at he
   rw [qJ (by rw [qan]; simp [hv]),he]
 ·rw [qE (by rw [qbr,qlT,qt,qt]; simp; omega)]
  rw [qn7 xs ys i h hx hy] at he
  rw [qt,qt,he]
theorem qiE (N:Nat) (xs ys:qam) (hN:xs.length<N) (hB:N≤1099511627776):qay N (xs,(ys,()))=some ((qZ xs ys,()),()):=by
 simp only [qay,qK,qwV,qp,qu,cond_true,Bool.and_true]
 refine qeC (S:=Int×Unit) (R:=(Int×Unit)×Unit) (fun p=>xs.length - p.1.toNat) (fun p=>∃i:Nat,p.1=(i:Int)∧i≤xs.length∧i≤ys.length∧qZ (xs.drop i) (ys.drop i)=qZ xs ys) (fun _=>((qZ xs ys,()),())) ?_ N _ ⟨0,rfl,Nat.zero_le _,Nat.zero_le _,rfl⟩ (by simp; omega)
 rintro ih ⟨_,_⟩ ⟨i,rfl,hx,hy,he⟩ hih
 simp only [Int.toNat_natCast] at hih⊢
 by_cases h:i<xs.length∧i<ys.length
 ·obtain ⟨h1,h2⟩:=h
  rw [qav h1,qav h2,qC h1,qC h2,qD _ h1,qD _ h2]
  simp only [Bool.and_self,cond_true]
  rw [List.drop_eq_getElem_cons h1,List.drop_eq_getElem_cons h2,qZ] at he
  have hs:=quh xs[i] ys[i]
  rcases qr3 xs[i] ys[i] with hv|hv|hv
  ·rw [if_pos (by omega)] at he
   rw [qJ (by rw [hv]; rfl),←he,hv]
  ·rw [if_neg (fun h=>h hv)] at he
   rw [qE (by rw [hv]; rfl),qE (by rw [hs,hv]; rfl),qO (by omega)]
   exact hih _ ⟨i+1,rfl,h1,h2,he⟩ (by simp only [Int.toNat_natCast]; omega)
  ·rw [if_pos (by omega)] at he
   rw [qE (by rw [hv]; rfl),qJ (by rw [hs,hv]; rfl),←he,hv]
 ·rw [qE (by
   rw [qbr,qbr,qt,qt]
   simp only [Bool.and_eq_false_iff,decide_eq_false_iff_not]
   omega)]
  rw [qn7 xs ys i h hx hy] at he
  rw [qt,qt,←he]
  have:=qbu (xs.length:Int) (ys.length:Int)
  rcases this with ⟨h1,h2⟩|⟨h1,h2⟩|⟨h1,h2⟩
  ·rw [qJ (by rw [qbr]; simp; omega),h2]
  ·rw [qE (by rw [qbr]; simp; omega),qE (by rw [qbr]; simp; omega),h2]
  ·rw [qE (by rw [qbr]; simp; omega),qJ (by rw [qbr]; simp; omega),h2]
theorem qtZ (N:Nat) (pk:List Int) (row:qam) (hN:pk.length<N) (hb:pk.length≤1099511627776):
  qad (S:=((List qa)×(Int×Unit))) (R:=(((List qa)×Unit)×Unit)) N (fun ih0=>(fun p1=>(bif (ltI p1.2.1 (qr pk)) then (bif (inB p1.2.1 (qr pk)) then (q7 ((leI 0 (qk pk p1.2.1 0))&&(ltI (qk pk p1.2.1 0) (qr row))) (fun y2=>(bif (bif y2 then (inB (qk pk p1.2.1 0) (qr row)) else true) then (q7 (bif y2 then (qk row (qk pk p1.2.1 0) (0,(0,(([]:List UInt8),())))) else (0,(0,(([]:List UInt8),())))) (fun y3=>(bif (qcq (qr p1.1) (qr ([y3]:List qa)) 32) then (ih0 ((qem p1.1 ([y3]:List qa)),((qax .i64 p1.2.1 1),()))) else none))) else none))) else none) else (some ((p1.1,()),()))))) (([]:List qa),(0,()))=some ((qaY pk row,()),()):=by
 simp only [qK]
 refine qgx (S:=((List qa)×(Int×Unit))) (fun i=>(qaY (pk.take i) row,((i:Int),()))) pk.length _ (by simp [qaY]) (fun i hi ih=> ?_) (fun ih=> ?_) hN
 ·have e1:qaY (pk.take (i+1)) row=qaY (pk.take i) row++[qqr row pk[i]]:=by unfold qaY; rw [qbi hi,List.map_append]; rfl
  have e2:(bif (leI 0 pk[i]&&ltI pk[i] (qr row)) then qk row pk[i] (0,(0,(([]:List UInt8),()))) else (0,(0,(([]:List UInt8),()))))=qqr row pk[i]:=by
   unfold qqr
   by_cases h:0≤pk[i]∧pk[i]<(row.length:Int)
   ·rw [dif_pos h,qJ (by rw [qcp,qbr,qt]; simp; exact h)]
    obtain ⟨k,hk⟩:∃k:Nat,pk[i]=(k:Int):=⟨pk[i].toNat,by omega⟩
    have hk':k<row.length:=by omega
    simp only [hk,Int.toNat_natCast]
    exact qD _ hk'
   ·rw [dif_neg h,qE (by rw [qcp,qbr,qt]; simp; omega)]
  have e3:(bif (leI 0 pk[i]&&ltI pk[i] (qr row)) then inB pk[i] (qr row) else true)=true:=by
   cases hc:(leI 0 pk[i]&&ltI pk[i] (qr row)) with
   |false=>rfl
   |true=>
    rw [qcp,qbr,qt] at hc
    rw [cond_true,qdq,qt]
    simpa using hc
  simp only
  rw [qJ (qav hi),qC hi,cond_true,qD _ hi,e3,cond_true,e2,qJ (qc4 (by rw [qdf,List.length_take]; simp; omega)),qO (by omega),qbv,e1]
 ·simp only
  rw [qE (qac (Nat.lt_irrefl _)),List.take_length]
theorem qrz (N:Nat) (t:qf) (row:qam) (hN:t.2.2.1.length<N) (hB:N≤1099511627776):q6 N (t,(row,()))=some ((qaY t.2.2.1 row,()),()):=qtZ N t.2.2.1 row hN (by omega)
theorem qiX (N:Nat) (t:qf) (row:qam) (hN:t.2.2.1.length<N) (hB:N≤1099511627776):qI N (t,(row,()))=some ((qaY t.2.2.1 row,()),()):=by
 have h:qde N (row,(t.2.2.1,()))=some ((qaY t.2.2.1 row,()),()):=qtZ N t.2.2.1 row hN (by omega)
 simp only [qI,h,qp,qu,cond_true]
theorem qra (N:Nat) (t:qf) (rows:List qam) (key:qam) (hN:t.2.2.1.length<N) (hN2:rows.length<N) (hB:N≤1099511627776):
  q9 N (t,(rows,(key,())))=some ((((qdh (fun r=>qZ (qaY t.2.2.1 r) key) rows).1:Int),((qdh (fun r=>qZ (qaY t.2.2.1 r) key) rows).2,())),()):=by
 have hk:∀r,q6 N (t,(r,()))=some ((qaY t.2.2.1 r,()),()):=fun r=>qrz N t r hN hB
 have hc:∀r,qaG N (qaY t.2.2.1 r,(key,()))=some ((qZ (qaY t.2.2.1 r) key,()),()):=fun r=>qjf N _ _ (by rw [qdf]; exact hN) hB
 generalize hf:(fun r=>qZ (qaY t.2.2.1 r) key)=f
 have hfr:∀r,qZ (qaY t.2.2.1 r) key=f r:=fun r=>by rw [←hf]
 simp only [q9,qK,hk,hc,hfr,qp,qu,cond_true,Bool.and_self]
 refine qeC (S:=Int×Unit) (R:=(Int×(Bool×Unit))×Unit) (fun p=>rows.length - p.1.toNat) (fun p=>∃i:Nat,p.1=(i:Int)∧i≤rows.length∧qdh f rows=(i+(qdh f (rows.drop i)).1,(qdh f (rows.drop i)).2)) (fun _=>((((qdh f rows).1:Int),((qdh f rows).2,())),())) ?_ N _ ⟨0,rfl,Nat.zero_le _,by simp⟩ (by simp; omega)
 rintro ih ⟨_,_⟩ ⟨i,rfl,h2,h3⟩ hih
 simp only [Int.toNat_natCast] at hih⊢
 by_cases hi:i<rows.length
 ·rw [qJ (qav hi),qC hi,cond_true,qD _ hi]
  rw [List.drop_eq_getElem_cons hi,qdh] at h3
  by_cases h:0≤f rows[i]
  ·rw [if_pos h] at h3
   rw [qJ (by rw [qcp]; simp [h]),h3,qaC]
   simp
  ·rw [if_neg h] at h3
   rw [qE (by rw [qcp]; simp; omega),qO (by omega)]
   exact hih _ ⟨i+1,rfl,hi,by rw [h3]; simp; omega⟩ (by simp only [Int.toNat_natCast]; omega)
 ·rw [qE (qac hi),qt]
  rw [List.drop_of_length_le (by omega)] at h3
  rw [h3]
  simp [qdh]
  omega
theorem qkm (N:Nat) (xs:qam) (h:xs.length≤1099511627776):qaa N (xs,())=some ((xs,()),()):=qpI xs 32 (by omega)
theorem qjx (N:Nat) (rows:List qam) (hN:rows.length<N) (hB:N≤1099511627776) (hr:∀r∈rows,r.length≤1099511627776):qbc N (rows,())=some ((rows,()),()):=by
 simp only [qbc]
 refine qgx (S:=((List qam)×(Int×Unit))) (fun i=>(rows.take i,((i:Int),()))) rows.length _ (by simp) (fun i hi ih=> ?_) (fun ih=> ?_) hN
 ·simp only
  rw [qJ (qav hi),qC hi,cond_true,qD _ hi,qkm N _ (hr _ (List.getElem_mem hi))]
  simp only [qp,qu,Bool.true_and]
  rw [qJ (qc4 (by rw [List.length_take]; simp; omega)),qO (by omega),qbv,qbi hi]
 ·simp only
  rw [qE (qac (Nat.lt_irrefl _)),List.take_length]
theorem qvZ (N:Nat) (xs ys:qam) (hN:xs.length<N) (hb:xs.length≤1099511627776):qaL N (xs,(ys,()))=some ((decide (xs=ys),()),()):=by
 simp only [qaL]
 by_cases hl:xs.length=ys.length
 ·rw [qE (by rw [qan,qt,qt,hl]; simp)]
  refine qpq (ne:=fun (a b:qa)=> !((eqI a.1 b.1)&&((eqI a.2.1 b.2.1)&&(eqS a.2.2.1 b.2.2.1)))) (fun a b=> ?_) xs ys (0,(0,(([]:List UInt8),()))) hl hb hN
  obtain ⟨a1,a2,a3,⟨⟩⟩:=a
  obtain ⟨b1,b2,b3,⟨⟩⟩:=b
  simp only [qbs,qaC,Prod.mk.injEq,and_true,Bool.decide_and]
 ·rw [qJ (by rw [qan,qt,qt]; simp; omega)]
  have:xs≠ys:=fun h=>hl (by rw [h])
  simp [this]
end
end Go.Proofs.YtnlkfgdojfijpaaGreatDoor
namespace Go.Proofs.YtnlkfgdojfijpaaGreatDoor
open Go.Vi
noncomputable section
theorem qeA {g:Nat→Option Int} {n:Nat} (h:∀i e,g i=some e→e≠0) {z:Int} (hz:(match qR g n with
  |some e=>e
  |none=>z)=0):qR g n=none∧z=0:=by
 cases hf:qR g n with
 |none=>rw [hf] at hz; exact ⟨rfl,hz⟩
 |some e=>
  rw [hf] at hz
  obtain ⟨i,_,h2,_⟩:=qbb hf
  exact absurd hz (h i e h2)
theorem quA (ts:List qf):∀i e,qqk ts i=some e→e≠0:=fun i e h=>by
 unfold qqk at h
 split at h
 ·cases h
 split at h
 ·rename_i hv; injection h with h; subst h; exact hv
 split at h
 ·injection h with h; subst h; decide
 ·cases h
theorem quZ (s:qj):∀i e,fkL s i=some e→e≠0:=fun i e h=>by
 unfold fkL at h
 split at h
 ·cases h
 split at h
 ·rename_i hv; injection h with h; subst h; exact hv
 split at h
 ·injection h with h; subst h; decide
 ·cases h
theorem qtD (s:qj):∀i e,qqP s i=some e→e≠0:=fun i e h=>by
 unfold qqP at h
 split at h
 ·cases h
 split at h
 ·rename_i hv; injection h with h; subst h; exact hv
 split at h
 ·injection h with h; subst h; decide
 ·cases h
theorem qvg (t r:qf) (cs:List Int):∀i e,fkE t r cs i=some e→e≠0:=fun i e h=>by
 unfold fkE at h
 split at h
 ·cases h
 split at h
 ·injection h with h; subst h; decide
 split at h
 ·injection h with h; subst h; decide
 ·cases h
structure qhV (s:qj):Prop where
 tabs:qR (qqk s.1) s.1.length=none
 few:s.1.length≤6
 fks:∀f∈s.2.1,vFk s f=0
 cons:∀c∈s.2.2.1,quS s c=0
theorem qfm {s:qj} (h:qkN s=0):qhV s:=by
 unfold qkN at h
 split at h
 ·cases h
 rename_i h0
 obtain ⟨h1,h⟩:=qeA (quA s.1) h
 obtain ⟨h2,h⟩:=qeA (quZ s) h
 obtain ⟨h3,_⟩:=qeA (qtD s) h
 refine ⟨h1,by omega,fun f hf=> ?_,fun c hc=> ?_⟩
 ·obtain ⟨i,hi,rfl⟩:=List.getElem_of_mem hf
  have:=qaq h2 i hi
  simp only [fkL,List.getElem?_eq_getElem hi] at this
  split at this
  ·cases this
  ·rename_i hv; simpa using hv
 ·obtain ⟨i,hi,rfl⟩:=List.getElem_of_mem hc
  have:=qaq h3 i hi
  simp only [qqP,List.getElem?_eq_getElem hi] at this
  split at this
  ·cases this
  ·rename_i hv; simpa using hv
theorem qrh {a b c:List UInt8} (h1:qgf a b=true) (h2:qgf b c=true):qgf a c=true:=by
 rw [qi0,decide_eq_true_eq] at *
 exact qoz a b c h1 h2
theorem qqd (a:List UInt8):qgf a a=false:=by
 rw [qi0,(qoN a a).2 rfl]; rfl
theorem qhV.names {s:qj} (h:qhV s):s.1.Pairwise (fun a b=>qgf a.1 b.1=true):=
 qm0 (fun a b:qf=>qgf a.1 b.1=true) (fun _ _ _ h1 h2=>qrh h1 h2) s.1 fun i hi=>by
  have:=qaq h.tabs (i+1) hi
  simp only [qqk,List.getElem?_eq_getElem hi] at this
  split at this
  ·cases this
  split at this
  ·cases this
  rename_i hq
  have e:((i+1:Nat):Int) - 1=(i:Int):=by omega
  rw [e,qD _ (show i<s.1.length by omega)] at hq
  simpa using hq
theorem qhV.fk {s:qj} (h:qhV s) {f:qc} (hf:f∈s.2.1):∃t r,qeu s f.1=some t∧qeu s f.2.2.1=some r∧f.2.1.length=r.2.2.1.length∧∀c∈f.2.1,0≤c∧c<(t.2.1.length:Int):=by
 have:=h.fks f hf
 unfold vFk at this
 split at this
 ·rename_i t r h1 h2
  split at this
  ·cases this
  rename_i hl
  obtain ⟨h3,_⟩:=qeA (qvg t r f.2.1) this
  refine ⟨t,r,h1,h2,by omega,fun c hc=> ?_⟩
  obtain ⟨j,hj,rfl⟩:=List.getElem_of_mem hc
  have:=qaq h3 j hj
  simp only [fkE,List.getElem?_eq_getElem hj] at this
  split at this
  ·cases this
  ·omega
 ·cases this
abbrev qcg:Type:=List UInt8×(List qam×Unit)
def qlM (t:qf) (row:qam) (i:Nat):Option Int:=match row[i]? with
 |none=>none
 |some v=>if qjF v≠0 then some (qjF v) else if v.1=0∧(qk t.2.1 (i:Int) qjl).2.2.1=false then some 8 else if v.1≠0∧v.1≠(qk t.2.1 (i:Int) qjl).2.1 then some 7 else none
def qny (t:qf) (row:qam):Int:=if row.length≠t.2.1.length then 3 else match qR (qlM t row) row.length with
 |some e=>e
 |none=>0
theorem qqf (N:Nat) (t:qf) (row:qam) (hN:row.length<N) (hB:N≤1099511627776):qa2 N (t,(row,()))=some ((qny t row,()),()):=by
 simp only [qa2,qK,qdQ,qaJ]
 unfold qny
 by_cases h0:row.length≠t.2.1.length
 ·rw [if_pos h0,if_pos h0]
 rw [if_neg h0,if_neg h0]
 have hl:row.length=t.2.1.length:=by omega
 refine (qW (S:=Int×Unit) (fun i=>((i:Int),())) row.length (qlM t row) (fun e=>some ((e,()),())) (some ((0,()),())) rfl (fun i hi _ ih=> ?_) (fun _ ih=> ?_) hN).trans ?_
 ·simp only
  have hit:i<t.2.1.length:=by omega
  rw [qJ (qav hi),qJ (qC hi),qD _ hi,qkl,qO (by omega),qC hit]
  simp only [qp,qu,cond_true,qlM,List.getElem?_eq_getElem hi,qD _ hit,qan,qaC,←decide_not,Bool.or_true]
  generalize qjF row[i]=vv
  generalize (t.2.1[i]).2.2.1=nb
  generalize (t.2.1[i]).2.1=ck
  generalize (row[i]).1=rk
  by_cases q1:vv=0 <;> by_cases q2:rk=0 <;> by_cases q3:rk=ck <;> cases nb <;> first|(simp [q1,q2,q3]; done)|(subst q3; simp [q1,q2])
 ·simp only
  rw [qE (qac (Nat.lt_irrefl _))]
 ·cases qR (qlM t row) row.length <;> rfl
theorem qqe (N:Nat) (t:qf) (row:qam) (hN:row.length<N) (hB:N≤1099511627776):qa4 N (t,(row,()))=some ((qny t row,()),()):=by
 simp only [qa4,qK,qdQ,qaJ]
 unfold qny
 by_cases h0:row.length≠t.2.1.length
 ·rw [if_pos h0,if_pos h0]
 rw [if_neg h0,if_neg h0]
 have hl:row.length=t.2.1.length:=by omega
 refine (qW (S:=Int×Unit) (fun i=>((i:Int),())) row.length (qlM t row) (fun e=>some ((e,()),())) (some ((0,()),())) rfl (fun i hi _ ih=> ?_) (fun _ ih=> ?_) hN).trans ?_
 ·simp only
  have hit:i<t.2.1.length:=by omega
  rw [qJ (qav hi),qJ (qC hi),qD _ hi,qkE,qO (by omega),qC hit]
  simp only [qp,qu,cond_true,qlM,List.getElem?_eq_getElem hi,qD _ hit,qan,qaC,←decide_not,Bool.or_true]
  generalize qjF row[i]=vv
  generalize (t.2.1[i]).2.2.1=nb
  generalize (t.2.1[i]).2.1=ck
  generalize (row[i]).1=rk
  by_cases q1:vv=0 <;> by_cases q2:rk=0 <;> by_cases q3:rk=ck <;> cases nb <;> first|(simp [q1,q2,q3]; done)|(subst q3; simp [q1,q2])
 ·simp only
  rw [qE (qac (Nat.lt_irrefl _))]
 ·cases qR (qlM t row) row.length <;> rfl
abbrev qun:qcg:=(([]:List UInt8),(([]:List qam),()))
abbrev quz:qf:=(([]:List UInt8),(([]:List qi),(([]:List Int),())))
def qk6 (t:qf) (rows:List qam) (i:Nat):Option Int:=match rows[i]? with
 |none=>none
 |some row=>if qny t row≠0 then some (qny t row) else if 0<i∧qZ (qaY t.2.2.1 (qk rows ((i:Int) - 1) [])) (qaY t.2.2.1 row)=0 then some 9 else if 0<i∧0<qZ (qaY t.2.2.1 (qk rows ((i:Int) - 1) [])) (qaY t.2.2.1 row) then some 6 else none
def qrD (ts:List qf) (rels:List qcg) (i:Nat):Option Int:=match rels[i]? with
 |none=>none
 |some r=>if r.1≠(qk ts (i:Int) quz).1 then some 3 else if 24<r.2.1.length then some 2 else qR (qk6 (qk ts (i:Int) quz) r.2.1) r.2.1.length
def qeo (s:qj) (rels:List qcg):Int:=if rels.length≠s.1.length then 3 else match qR (qrD s.1 rels) rels.length with
 |some e=>e
 |none=>0
structure qgs (N:Nat) (rels:List qcg):Prop where
 n:rels.length<N
 rows:∀r∈rels,r.2.1.length<N
 row:∀r∈rels,∀x∈r.2.1,x.length<N
 enc:∀r∈rels,∀x∈r.2.1,(qe0 x).length≤1099511627776
theorem qmq {α:Type} (xs:List α):ltI 24 (qr xs)=decide (24<xs.length):=qjW xs 24
theorem qim:(a b:qam)→qZ a b= -1∨qZ a b=0∨qZ a b=1
 |[],ys=>by have:=qbu 0 (ys.length:Int); simp only [qZ]; omega
 |_::xs,[]=>by have:=qbu ((xs.length:Int)+1) 0; simp only [qZ]; omega
 |x::xs,y::ys=>by
  have h1:=qr3 x y
  have h2:=qim xs ys
  simp only [qZ]
  split <;> assumption
theorem qn5 (N:Nat) (s:qj) (rels:List qcg) (hs:qcU N s) (hr:qgs N rels):qbC N (s,(rels,()))=some ((qeo s rels,()),()):=by
 have hn:=hs.sm.n
 have hrn:=hr.n
 simp only [qbC,qK,qdQ,qaJ]
 unfold qeo
 by_cases h0:rels.length≠s.1.length
 ·rw [if_pos h0,if_pos h0]
 rw [if_neg h0,if_neg h0]
 have hl:rels.length=s.1.length:=by omega
 refine (qW (S:=Int×Unit) (fun i=>((i:Int),())) rels.length (qrD s.1 rels) (fun e=>some ((e,()),())) (some ((0,()),())) rfl (fun i hi _ ih=> ?_) (fun _ ih=> ?_) hr.n).trans ?_
 ·have hit:i<s.1.length:=by omega
  have hm:=List.getElem_mem hi
  have ht:qmJ N s.1[i]:=hs.tab (List.getElem_mem hit)
  have hrows:=hr.rows _ hm
  have hrow:=hr.row _ hm
  simp only [qD _ hi,qD _ hit,qav hi,qC hi,qC hit,cond_true,qrD,List.getElem?_eq_getElem hi,qO (show i<4611686018427387904 by omega)]
  generalize hrel:rels[i]=rel at *
  generalize htab:s.1[i]=t at *
  simp only [qbs,←decide_not,qaJ,qmq]
  by_cases h1:rel.1=t.1
  ·have h1':¬(rel.1≠t.1):=fun h=>h h1
   rw [if_neg h1']; try rw [if_neg h1']
   by_cases h2:24<rel.2.1.length
   ·rw [if_pos h2]; try rw [if_pos h2]
   rw [if_neg h2]; try rw [if_neg h2]
   refine qW (S:=Int×Unit) (fun k=>((k:Int),())) rel.2.1.length (qk6 t rel.2.1) (fun e=>some ((e,()),())) _ rfl (fun k hk _ ih2=> ?_) (fun _ ih2=> ?_) hrows
   ·have hrk:=hrow _ (List.getElem_mem hk)
    have hcmp:∀a b:qam,qaG N (qaY t.2.2.1 a,(qaY t.2.2.1 b,()))=some ((qZ (qaY t.2.2.1 a) (qaY t.2.2.1 b),()),()):=fun a b=>qjf N _ _ (by rw [qdf]; exact ht.k) hn
    simp only [qD _ hk,qav hk,qC hk,cond_true,qqf N t _ hrk hn,qp,qu,qan,qaC,qaF,qrz N t _ ht.k hn,hcmp,qO (show k<4611686018427387904 by omega),qk6,List.getElem?_eq_getElem hk,qaJ,Bool.and_true]
    by_cases h3:qny t rel.2.1[k]=0
    ·simp only [h3,decide_true,Bool.not_true,cond_false,ne_eq,not_true_eq_false,if_false]
     by_cases h8:0<k
     ·have e5:qbn .i64 (k:Int) 1=(k:Int) - 1:=qcP (by omega) (by omega)
      have e6:inB ((k:Int) - 1) (qr rel.2.1)=true:=by rw [qdj,qt]; simp; omega
      rw [e5,e6,if_neg (by omega),cond_true]
      have c:=qim (qaY t.2.2.1 (qk rel.2.1 ((k:Int) - 1) [])) (qaY t.2.2.1 rel.2.1[k])
      generalize qZ (qaY t.2.2.1 (qk rel.2.1 ((k:Int) - 1) [])) (qaY t.2.2.1 rel.2.1[k])=cc at *
      by_cases c0:cc=0
      ·simp [c0,h8]
      ·by_cases c1:0<cc
       ·simp [c0,c1,h8]
       ·simp [c0,c1,h8]
     ·rw [if_pos (by omega)]
      simp [h8]
    ·simp only [h3,decide_false,Bool.not_false,cond_true,ne_eq,not_false_eq_true,if_true]
   ·simp only
    rw [qE (qac (Nat.lt_irrefl _))]
  ·rw [if_pos h1]; try rw [if_pos h1]
 ·simp only
  rw [qE (qac (Nat.lt_irrefl _))]
 ·cases qR (qrD s.1 rels) rels.length <;> rfl
theorem qnO (N:Nat) (s:qj) (rels:List qcg) (hs:qcU N s) (hr:qgs N rels):qbD N (s,(rels,()))=some ((qeo s rels,()),()):=by
 have hn:=hs.sm.n
 have hrn:=hr.n
 simp only [qbD,qK,qdQ,qaJ]
 unfold qeo
 by_cases h0:rels.length≠s.1.length
 ·rw [if_pos h0,if_pos h0]
 rw [if_neg h0,if_neg h0]
 have hl:s.1.length=rels.length:=by omega
 rw [←hl]
 refine (qW (S:=Int×Unit) (fun i=>((i:Int),())) s.1.length (qrD s.1 rels) (fun e=>some ((e,()),())) (some ((0,()),())) rfl (fun i hit _ ih=> ?_) (fun _ ih=> ?_) hs.sm.t).trans ?_
 ·have hi:i<rels.length:=by omega
  have hm:=List.getElem_mem hi
  have ht:qmJ N s.1[i]:=hs.tab (List.getElem_mem hit)
  have hrows:=hr.rows _ hm
  have hrow:=hr.row _ hm
  simp only [qD _ hi,qD _ hit,qav hit,qC hi,qC hit,cond_true,qrD,List.getElem?_eq_getElem hi,qO (show i<4611686018427387904 by omega)]
  generalize hrel:rels[i]=rel at *
  generalize htab:s.1[i]=t at *
  simp only [qbs,←decide_not,qaJ,qmq]
  by_cases h1:rel.1=t.1
  ·have h1':¬(rel.1≠t.1):=fun h=>h h1
   rw [if_neg h1']; try rw [if_neg h1']
   by_cases h2:24<rel.2.1.length
   ·rw [if_pos h2]; try rw [if_pos h2]
   rw [if_neg h2]; try rw [if_neg h2]
   refine qW (S:=qam×(Int×Unit)) (fun k=>((if 0<k then qaY t.2.2.1 (qk rel.2.1 ((k:Int) - 1) []) else []),((k:Int),()))) rel.2.1.length (qk6 t rel.2.1) (fun e=>some ((e,()),())) _ rfl (fun k hk _ ih2=> ?_) (fun _ ih2=> ?_) hrows
   ·have hrk:=hrow _ (List.getElem_mem hk)
    have hnx:(if 0<k+1 then qaY t.2.2.1 (qk rel.2.1 (((k+1:Nat):Int) - 1) []) else [])=qaY t.2.2.1 rel.2.1[k]:=by
     rw [if_pos (by omega),show ((k+1:Nat):Int) - 1=(k:Int) by omega,qD _ hk]
    rw [hnx]
    simp only [qD _ hk,qav hk,qC hk,cond_true,qqe N t _ hrk hn,qp,qu,qan,qaC,qaF,qiX N t _ ht.k hn,qO (show k<4611686018427387904 by omega),qk6,List.getElem?_eq_getElem hk,qaJ,Bool.and_true]
    by_cases h3:qny t rel.2.1[k]=0
    ·simp only [h3,decide_true,Bool.not_true,cond_false,ne_eq,not_true_eq_false,if_false]
     by_cases h8:0<k
     ·rw [if_pos h8,if_pos (show (0:Int)<(k:Int) by omega)]
      have hcmp:∀a b:qam,qay N (qaY t.2.2.1 a,(qaY t.2.2.1 b,()))=some ((qZ (qaY t.2.2.1 a) (qaY t.2.2.1 b),()),()):=fun a b=>qiE N _ _ (by rw [qdf]; exact ht.k) hn
      simp only [hcmp,qp,qu,cond_true]
      have c:=qim (qaY t.2.2.1 (qk rel.2.1 ((k:Int) - 1) [])) (qaY t.2.2.1 rel.2.1[k])
      generalize qZ (qaY t.2.2.1 (qk rel.2.1 ((k:Int) - 1) [])) (qaY t.2.2.1 rel.2.1[k])=cc at *
      by_cases c0:cc=0
      ·simp [c0,h8]
      ·by_cases c1:cc=1
       ·simp [c1,h8]
       ·have:¬0<cc:=by omega
        simp [c0,c1,this]
     ·rw [if_neg (show ¬(0:Int)<(k:Int) by omega)]
      simp [h8]
    ·simp only [h3,decide_false,Bool.not_false,cond_true,ne_eq,not_false_eq_true,if_true]
   ·simp only
    rw [qE (qac (Nat.lt_irrefl _))]
  ·rw [if_pos h1]; try rw [if_pos h1]
 ·simp only
  rw [qE (qac (Nat.lt_irrefl _))]
 ·cases qR (qrD s.1 rels) s.1.length <;> rfl
theorem qi1 {t:qf} {row:qam} (h:qny t row=0):row.length=t.2.1.length:=by
 unfold qny at h
 split at h
 ·cases h
 ·omega
theorem qss (t:qf) (rows:List qam):∀i e,qk6 t rows i=some e→e≠0:=fun i e h=>by
 unfold qk6 at h
 split at h
 ·cases h
 split at h
 ·rename_i hv; injection h with h; subst h; exact hv
 split at h
 ·injection h with h; subst h; decide
 split at h
 ·injection h with h; subst h; decide
 ·cases h
theorem qpN (ts:List qf) (rels:List qcg):∀i e,qrD ts rels i=some e→e≠0:=fun i e h=>by
 unfold qrD at h
 split at h
 ·cases h
 split at h
 ·injection h with h; subst h; decide
 split at h
 ·injection h with h; subst h; decide
 ·obtain ⟨j,_,h2,_⟩:=qbb h
  exact qss _ _ j e h2
structure Form (s:qj) (rels:List qcg):Prop where
 len:rels.length=s.1.length
 name:∀i (hi:i<rels.length) (ht:i<s.1.length),(rels[i]).1=(s.1[i]).1
 row:∀i (hi:i<rels.length) (ht:i<s.1.length),∀r∈(rels[i]).2.1,r.length=(s.1[i]).2.1.length
 sorted:∀i (hi:i<rels.length) (ht:i<s.1.length),(rels[i]).2.1.Pairwise (fun a b=>qZ (qaY (s.1[i]).2.2.1 a) (qaY (s.1[i]).2.2.1 b)<0)
theorem qwx {s:qj} {rels:List qcg} (h:qeo s rels=0):Form s rels:=by
 unfold qeo at h
 split at h
 ·cases h
 rename_i h0
 obtain ⟨h1,_⟩:=qeA (qpN s.1 rels) h
 have key:∀i (hi:i<rels.length) (ht:i<s.1.length),(rels[i]).1=(s.1[i]).1∧qR (qk6 s.1[i] (rels[i]).2.1) (rels[i]).2.1.length=none:=fun i hi ht=>by
  have:=qaq h1 i hi
  simp only [qrD,List.getElem?_eq_getElem hi,qD _ ht] at this
  split at this
  ·cases this
  rename_i hq
  split at this
  ·cases this
  exact ⟨by simpa using hq,this⟩
 refine ⟨by omega,fun i hi ht=>(key i hi ht).1,fun i hi ht r hr=> ?_,fun i hi ht=> ?_⟩
 ·obtain ⟨k,hk,rfl⟩:=List.getElem_of_mem hr
  have:=qaq (key i hi ht).2 k hk
  simp only [qk6,List.getElem?_eq_getElem hk] at this
  split at this
  ·cases this
  rename_i hv
  exact qi1 (by simpa using hv)
 ·refine qm0 (fun a b:qam=>qZ (qaY (s.1[i]).2.2.1 a) (qaY (s.1[i]).2.2.1 b)<0) (fun _ _ _ h1 h2=>qg2 _ _ _ h1 h2) (rels[i]).2.1 fun k hk=> ?_
  have:=qaq (key i hi ht).2 (k+1) hk
  simp only [qk6,List.getElem?_eq_getElem hk] at this
  rw [show ((k+1:Nat):Int) - 1=(k:Int) by omega,qD _ (show k<(rels[i]).2.1.length by omega)] at this
  split at this
  ·cases this
  split at this
  ·cases this
  rename_i h3
  split at this
  ·cases this
  rename_i h4
  have c:=qim (qaY (s.1[i]).2.2.1 (rels[i]).2.1[k]) (qaY (s.1[i]).2.2.1 (rels[i]).2.1[k+1])
  have h3':=fun h=>h3 ⟨Nat.succ_pos _,h⟩
  have h4':=fun h=>h4 ⟨Nat.succ_pos _,h⟩
  omega
def qsv (s:qj) (rels:List qcg) (n:List UInt8):List qam:=match qh6 (qcE n) s.1 with
 |none=>[]
 |some i=>match rels[i]? with
  |none=>[]
  |some r=>r.2.1
def qca (s:qj) (n:List UInt8):qf:=(qeu s n).getD quz
theorem Form.at {s:qj} {rels:List qcg} (h:Form s rels) {n:List UInt8} {t:qf} (ht:qeu s n=some t):∃(i:Nat) (hi:i<s.1.length) (hr:i<rels.length),qh6 (qcE n) s.1=some i∧s.1[i]=t∧qsv s rels n=(rels[i]).2.1∧qca s n=t:=by
 rcases qc7 s n with ⟨_,h2⟩|⟨i,t',h1,h2,hi,h3⟩
 ·rw [h2] at ht; cases ht
 ·rw [h2] at ht
  injection ht with ht
  subst ht
  have hr:i<rels.length:=by rw [h.len]; exact hi
  refine ⟨i,hi,hr,h1,?_,?_,?_⟩
  ·have:=h3 quz; rwa [qD _ hi] at this
  ·unfold qsv; rw [h1]; simp only [List.getElem?_eq_getElem hr]
  ·unfold qca; rw [h2]; rfl
end
end Go.Proofs.YtnlkfgdojfijpaaGreatDoor
namespace Go.Proofs.YtnlkfgdojfijpaaGreatDoor
open Go.Vi
noncomputable section
structure KSmall (s:qj) (rels:List qcg):Prop where
 kt:∀r∈rels,∀row∈r.2.1,∀t∈s.1,(qe0 (qaY t.2.2.1 row)).length≤1099511627776
 kf:∀r∈rels,∀row∈r.2.1,∀f∈s.2.1,(qe0 (qaY f.2.1 row)).length≤1099511627776
theorem qqn {pk:List Int} {rows:List qam} (h:rows.Pairwise (fun a b=>qZ (qaY pk a) (qaY pk b)<0)) (key:qam):(qdh (fun r=>qZ (qaY pk r) key) rows).2=rows.any (fun r=>decide (qaY pk r=key)):=by
 rw [qrs _ rows (h.imp fun {a b} hab h0=> ?_)]
 ·have e:(fun r=>decide (qZ (qaY pk r) key=0))=fun r=>decide (qaY pk r=key):=funext fun r=>decide_eq_decide.2 (qdt _ _)
  rw [e]
 ·have c:=qim (qaY pk b) key
  rcases c with c|c|c
  ·have:=qg2 _ _ _ hab (show qZ (qaY pk b) key<0 by omega)
   omega
  ·have:=(qdt _ _).1 c
   rw [this] at hab
   omega
  ·omega
end
end Go.Proofs.YtnlkfgdojfijpaaGreatDoor
namespace Go.Proofs.YtnlkfgdojfijpaaGreatDoor
open Go.Vi
noncomputable section
theorem qli (N:Nat) (xs:List qcg) (hx:qgs N xs) (hB:N≤1099511627776):qcj N (xs,())=some ((xs,()),()):=by
 have hn:=hx.n
 simp only [qcj]
 refine qgx (S:=(List qcg)×(Int×Unit)) (fun i=>(xs.take i,((i:Int),()))) xs.length _ (by simp) (fun i hi ih=> ?_) (fun ih=> ?_) hn
 ·have hm:=List.getElem_mem hi
  have e5:qcq (qr (xs.take i)) (qr ([((xs[i]).1,((xs[i]).2.1,()))]:List qcg)) 40=true:=qc4 (by rw [List.length_take]; simp; omega)
  simp only [qav hi,qC hi,cond_true,qD _ hi,qjx N _ (hx.rows _ hm) hB (fun r h=>by have:=hx.row _ hm r h; omega),qp,qu,e5,Bool.and_self,qbv,qO (show i<4611686018427387904 by omega)]
  rw [qbi hi]
 ·simp only
  rw [qE (qac (Nat.lt_irrefl _)),List.take_length]
def qhF (s:qj):List qcg:=s.1.map fun t=>(t.1,(([]:List qam),()))
theorem qp8 (N:Nat) (s:qj) (hs:qcU N s):qab N (s,())=some ((qhF s,()),()):=by
 have hn:=hs.sm.n
 have ht:=hs.sm.t
 have e1:((leI 0 (qr s.1))&&((leI (qr s.1) (qr s.1))&&(qwf (qr s.1) 40)))=true:=by
  rw [qcp,qcp,qon,qt]; simp; omega
 simp only [qab,qK,e1,cond_true]
 refine qgx (S:=(List qcg)×(Int×Unit)) (fun i=>((s.1.take i).map (fun t=>(t.1,(([]:List qam),())))++List.replicate (s.1.length - i) qun,((i:Int),()))) s.1.length _ (by rw [qf4,qt]; simp) (fun i hi ih=> ?_) (fun ih=> ?_) ht
 ·have hrep:List.replicate (s.1.length - i) qun=qun::List.replicate (s.1.length - (i+1)) qun:=by
   rw [show s.1.length - i=(s.1.length - (i+1))+1 by omega,List.replicate_succ]
  have hl:i<((s.1.take i).map (fun t=>((t.1,(([]:List qam),())):qcg))++List.replicate (s.1.length - i) qun).length:=by
   rw [List.length_append,List.length_map,List.length_take,List.length_replicate]; omega
  have hg:((s.1.take i).map (fun t=>((t.1,(([]:List qam),())):qcg))++List.replicate (s.1.length - i) qun)[i]=qun:=by
   rw [List.getElem_append_right (by rw [List.length_map,List.length_take]; omega)]
   simp
  simp only [qav hi,qC hi,qC hl,cond_true,qD _ hi,qD _ hl,hg,qO (show i<4611686018427387904 by omega),qbm,Int.toNat_natCast]
  have e2:(((s.1.take i).map (fun t=>((t.1,(([]:List qam),())):qcg))++List.replicate (s.1.length - i) qun).set i ((s.1[i]).1,qun.2))=(s.1.take (i+1)).map (fun t=>((t.1,(([]:List qam),())):qcg))++List.replicate (s.1.length - (i+1)) qun:=by
   rw [hrep,List.set_append_right _ _ (by rw [List.length_map,List.length_take]; omega),qbi hi,List.map_append,List.length_map,List.length_take,show i - min i s.1.length=0 by omega,List.set_cons_zero,List.append_assoc]
   rfl
  rw [e2]
 ·simp only
  rw [qE (qac (Nat.lt_irrefl _)),List.take_length,Nat.sub_self]
  simp [qhF]
theorem findIdx (s:qj) (rels:List qcg) (n:List UInt8):
  (bif ((leI 0 (qif (qcE n) s.1))&&(ltI (qif (qcE n) s.1) (qr rels))) then inB (qif (qcE n) s.1) (qr rels) else true)=true∧
  (bif (leI 0 (qif (qcE n) s.1)) then inB (qif (qcE n) s.1) (qr s.1) else true)=true∧
  (bif ((leI 0 (qif (qcE n) s.1))&&(ltI (qif (qcE n) s.1) (qr rels))) then (qk rels (qif (qcE n) s.1) qun).2.1 else ([]:List qam))=qsv s rels n∧
  (bif (leI 0 (qif (qcE n) s.1)) then qk s.1 (qif (qcE n) s.1) quz else quz)=qca s n:=by
 rcases qc7 s n with ⟨h1,h2⟩|⟨i,t,h1,h2,hi,h3⟩
 ·have e:qif (qcE n) s.1= -1:=by rw [qif,h1]
  have e0:leI 0 (-1)=false:=by rw [qcp]; rfl
  simp only [e,e0,Bool.false_and,cond_false,qsv,h1,qca,h2,Option.getD_none,and_self]
 ·have e:qif (qcE n) s.1=(i:Int):=by rw [qif,h1]
  have e0:leI 0 (i:Int)=true:=by rw [qcp]; simp
  by_cases hl:i<rels.length
  ·simp only [e,e0,qav hl,qC hl,qC hi,Bool.and_self,cond_true,h3,qD _ hl,qsv,h1,List.getElem?_eq_getElem hl,qca,h2,Option.getD_some,and_self]
  ·simp only [e,e0,qac hl,qC hi,Bool.true_and,Bool.and_false,cond_true,cond_false,h3,qsv,h1,List.getElem?_eq_none (show rels.length≤i by omega),qca,h2,Option.getD_some,and_self]
end
end Go.Proofs.YtnlkfgdojfijpaaGreatDoor
namespace Go.Proofs.YtnlkfgdojfijpaaGreatDoor
open Go.Vi
noncomputable section
theorem qe5 {α:Type} (f:α→Nat): {l:List α} → {x:α} →x∈l→f x≤(l.map f).sum
 |y::l,x,h=>by
  rw [List.map_cons,List.sum_cons]
  rcases List.mem_cons.1 h with rfl|h
  ·omega
  ·have:=qe5 f h; omega
theorem qhm {α:Type} (f:α→Nat):(l:List α)→(∀x∈l,1≤f x)→l.length≤(l.map f).sum
 |[],_=>Nat.zero_le _
 |x::l,h=>by
  have h1:=h x List.mem_cons_self
  have h2:=qhm f l fun y hy=>h y (List.mem_cons_of_mem _ hy)
  rw [List.map_cons,List.sum_cons,List.length_cons]; omega
theorem qou (t:qf):qtE.bulk t=t.1.length+1+((t.2.1.map TCol.bulk).sum+1+((t.2.2.1.map (Ty.bulk (.int .i64))).sum+1+1)):=by
 obtain ⟨t1,t2,t3,⟨⟩⟩:=t; rfl
theorem qvm (c:qi):TCol.bulk c=c.1.length+1+(1+(1+1)):=by
 obtain ⟨c1,c2,c3,⟨⟩⟩:=c; rfl
theorem qwC (f:qc):TFk.bulk f=f.1.length+1+((f.2.1.map (Ty.bulk (.int .i64))).sum+1+(f.2.2.1.length+1+1)):=by
 obtain ⟨f1,f2,f3,⟨⟩⟩:=f; rfl
theorem qtm {t:qf} (h:qtE.bulk t≤1048576):qmJ 2000000 t:=by
 rw [qou,qiH] at h
 have h1:=qhm TCol.bulk t.2.1 fun c _=>qfT TCol c
 refine ⟨by omega,by omega,by omega,by omega,by omega,fun c hc=> ?_⟩
 have:=qe5 TCol.bulk hc
 rw [qvm] at this
 omega
theorem qpG {s:qj} (h:TSch.bulk s≤1048576):qcU 2000000 s:=by
 obtain ⟨a,b,c,⟨⟩⟩:=s
 rw [qlZ] at h
 have h1:=qhm qtE.bulk a fun x _=>qfT qtE x
 have h2:=qhm TFk.bulk b fun x _=>qfT TFk x
 have h3:=qhm TCon.bulk c fun x _=>qfT TCon x
 have ht:∀t∈a,qmJ 2000000 t:=fun t ht=>qtm (by have:=qe5 qtE.bulk ht; omega)
 have hf:∀f∈b,f.2.1.length<2000000:=fun f hf=>by
  have:=qe5 TFk.bulk hf
  rw [qwC,qiH] at this
  omega
 exact ⟨⟨by omega,by simp only; omega,by simp only; omega,by simp only; omega,fun t h=>(ht t h).c,fun t h=>(ht t h).k,hf,fun t h=>(ht t h).nm,fun t h=>(ht t h).cn⟩,by omega⟩
theorem qxc {a b:Nat} (h:a+b≤1048576):a * (67+b)≤1000000000000:=by
 rcases Nat.le_total a 524288 with h1|h1
 ·have:=Nat.mul_le_mul h1 (show 67+b≤67+1048576 by omega)
  omega
 ·have:=Nat.mul_le_mul (show a≤1048576 by omega) (show 67+b≤67+524288 by omega)
  omega
theorem qs3 {M:Nat} :(r:qam)→(∀v∈r,(qlv v).length≤M)→((r.map qlv).flatten).length≤r.length * M
 |[],_=>by simp
 |v::r,h=>by
  have h1:=h v List.mem_cons_self
  have h2:=qs3 r fun u hu=>h u (List.mem_cons_of_mem _ hu)
  simp only [List.map_cons,List.flatten_cons,List.length_append,List.length_cons,Nat.add_mul,Nat.one_mul] at h2⊢
  omega
theorem qiZ {r:qam} {a b:Nat} (ha:r.length≤a) (hab:a+b≤1048576) (h:∀v∈r,qhT.good v∧v.2.2.1.length≤b):(qe0 r).length≤1099511627776:=by
 have h1:=qs3 (M:=67+b) r fun v hv=>by
  obtain ⟨⟨g1,g2,g3,_⟩,g4⟩:=h v hv
  have:=qv7 (v:=v) ⟨g1,g2,g3⟩
  omega
 have h2:=Nat.mul_le_mul_right (67+b) ha
 have h3:=qxc hab
 have h4:=qil (n:=r.length) (by unfold maxLen; omega)
 unfold qe0
 rw [List.length_append]
 omega
theorem ql1:(r:qam)→∀v∈r,v.2.2.1.length+r.length≤(r.map qhT.bulk).sum
 |[],v,hv=>by cases hv
 |u::r,v,hv=>by
  have hu:qhT.bulk u=1+(1+(u.2.2.1.length+1+1)):=rfl
  have hr:r.length≤(r.map qhT.bulk).sum:=by
   have:=qgZ qhT r
   have e:(Ty.slice qhT).bulk r=(r.map qhT.bulk).sum+1:=rfl
   omega
  simp only [List.map_cons,List.sum_cons,List.length_cons]
  rcases List.mem_cons.1 hv with rfl|hv
  ·omega
  ·have:=ql1 r v hv
   omega
theorem qpT:(rows:List qam)→∀r∈rows,(r.map qhT.bulk).sum+1≤(rows.map (Ty.slice qhT).bulk).sum
 |[],r,hr=>by cases hr
 |q::rows,r,hr=>by
  simp only [List.map_cons,List.sum_cons]
  have e:(Ty.slice qhT).bulk q=(q.map qhT.bulk).sum+1:=rfl
  rcases List.mem_cons.1 hr with rfl|hr
  ·omega
  ·have:=qpT rows r hr
   omega
abbrev qrO:Ty:= .pair .str (.pair (.slice (.slice qhT)) .unit)
theorem qvH (r:qcg):qrO.bulk r=r.1.length+1+((r.2.1.map (Ty.slice qhT).bulk).sum+1+1):=by
 obtain ⟨r1,r2,⟨⟩⟩:=r; rfl
theorem qpm (row:qam) (i:Int):qqr row i∈row∨qqr row i=zV:=by
 unfold qqr
 split
 ·exact .inl (List.getElem_mem _)
 ·exact .inr rfl
structure RIn (b:Nat) (rels:List qcg):Prop where
 good:∀r∈rels,∀row∈r.2.1,∀v∈row,qhT.good v
 bulk:(rels.map qrO.bulk).sum≤b
theorem rin_of {rels:List qcg} {b:Nat} (hg:(Ty.slice qrO).good rels) (hb:(Ty.slice qrO).bulk rels≤b+1):RIn b rels:=by
 have e:(Ty.slice qrO).bulk rels=(rels.map qrO.bulk).sum+1:=rfl
 refine ⟨fun r hr row hrow v hv=> ?_,by omega⟩
 have h:=hg.2 r hr
 obtain ⟨r1,r2,⟨⟩⟩:=r
 exact (h.2.1.2 row hrow).2 v hv
theorem rlen (r:qam):r.length≤(r.map qhT.bulk).sum:=by
 have:=qgZ qhT r
 have e:(Ty.slice qhT).bulk r=(r.map qhT.bulk).sum+1:=rfl
 omega
theorem RIn.rows {b:Nat} {rels:List qcg} (h:RIn b rels) {r:qcg} (hr:r∈rels):r.2.1.length≤b∧∀row∈r.2.1,(row.map qhT.bulk).sum≤b:=by
 have h1:=qe5 qrO.bulk hr
 have h2:=h.bulk
 rw [qvH] at h1
 refine ⟨?_,fun row hrow=> ?_⟩
 ·have:=qgZ (.slice qhT) r.2.1
  have e:(Ty.slice (.slice qhT)).bulk r.2.1=(r.2.1.map (Ty.slice qhT).bulk).sum+1:=rfl
  omega
 ·have:=qpT r.2.1 row hrow
  omega
theorem qtf {b:Nat} {rels:List qcg} (h:RIn b rels) (hb:b≤1048576):qgs 2000000 rels:=by
 refine ⟨?_,fun r hr=> ?_,fun r hr row hrow=> ?_,fun r hr row hrow=> ?_⟩
 ·have h1:=qhm qrO.bulk rels fun x _=>qfT qrO x
  have:=h.bulk
  omega
 ·have:=(h.rows hr).1; omega
 ·have:=(h.rows hr).2 row hrow
  have:=rlen row
  omega
 ·have h2:=(h.rows hr).2 row hrow
  have h3:=rlen row
  exact qiZ (a:=row.length) (b:=1048576 - row.length) (Nat.le_refl _) (by omega) fun v hv=>⟨h.good r hr row hrow v hv,by have:=ql1 row v hv; omega⟩
end
end Go.Proofs.YtnlkfgdojfijpaaGreatDoor
namespace Go.Proofs.YtnlkfgdojfijpaaGreatDoor
open Go.Vi
noncomputable section
abbrev qbV:Type:=Int×(List UInt8×(qam×(qam×Unit)))
def qwM (t:qf) (key:qam) (i:Nat):Option Int:=match key[i]? with
 |none=>none
 |some v=>if qjF v≠0 then some (qjF v) else if v.1≠(qk t.2.1 (qk t.2.2.1 (i:Int) 0) qjl).2.1 then some 7 else none
def vKey (t:qf) (key:qam):Int:=if key.length≠t.2.2.1.length then 3 else match qR (qwM t key) key.length with
 |some e=>e
 |none=>0
def qwj (c:qbV):Bool:=((decide (c.1=1)&&decide (0<c.2.2.1.length))||(decide (c.1=2)&&decide (0<c.2.2.2.1.length)))||(!decide (c.1=1)&& !decide (c.1=2))
def qnE (s:qj) (c:qbV):Int:=if qwj c=true then 3 else match qeu s c.2.1 with
 |none=>4
 |some t=>if c.1=1 then qny t c.2.2.2.1 else vKey t c.2.2.1
theorem qth {α:Type} (xs:List α):ltI 0 (qr xs)=decide (0<xs.length):=qjW xs 0
theorem qt1 (N:Nat) (t:qf) (key:qam) (hk:∀k∈t.2.2.1,0≤k∧k<(t.2.1.length:Int)) (hN:key.length<N) (hB:N≤1099511627776):qcm N (t,(key,()))=some ((vKey t key,()),()):=by
 simp only [qcm,qK,qdQ,qaJ]
 unfold vKey
 by_cases h0:key.length≠t.2.2.1.length
 ·rw [if_pos h0,if_pos h0]
 rw [if_neg h0,if_neg h0]
 have hl:key.length=t.2.2.1.length:=by omega
 refine (qW (S:=Int×Unit) (fun i=>((i:Int),())) key.length (qwM t key) (fun e=>some ((e,()),())) (some ((0,()),())) rfl (fun i hi _ ih=> ?_) (fun _ ih=> ?_) hN).trans ?_
 ·have hip:i<t.2.2.1.length:=by omega
  obtain ⟨c1,c2⟩:=hk _ (List.getElem_mem hip)
  have b3:inB (t.2.2.1[i]) (qr t.2.1)=true:=by rw [qdj,qt]; simp; omega
  simp only [qav hi,qC hi,cond_true,qD _ hi,qC hip,qD _ hip,b3,qkl,qp,qu,Bool.and_self,qO (show i<4611686018427387904 by omega),qwM,List.getElem?_eq_getElem hi,qan,←decide_not,qaJ,qjl]
  by_cases h1:qjF key[i]=0
  ·simp only [h1,not_true_eq_false,ne_eq,if_false]
   split <;> rfl
  ·simp only [h1,not_false_eq_true,ne_eq,if_true]
 ·simp only
  rw [qE (qac (Nat.lt_irrefl _))]
 ·cases qR (qwM t key) key.length <;> rfl
theorem qs6 (N:Nat) (s:qj) (c:qbV) (hs:qcU N s) (hk:qnG s) (h1:c.2.2.1.length<N) (h2:c.2.2.2.1.length<N):qcS N (s,(c,()))=some ((qnE s c,()),()):=by
 have hn:=hs.sm.n
 have e0:((((eqI c.1 1)&&(ltI 0 (qr c.2.2.1)))||((eqI c.1 2)&&(ltI 0 (qr c.2.2.2.1))))||((neI c.1 1)&&(neI c.1 2)))=qwj c:=by
  simp only [qaC,qan,qth,qwj]
 simp only [qcS,qK,e0,qc2 N s c.2.1 hs.sm.t hn,qp,qu,cond_true]
 unfold qnE
 by_cases hb:qwj c=true
 ·rw [if_pos hb,hb]; rfl
 rw [if_neg hb,qE (by simpa using hb)]
 rcases qc7 s c.2.1 with ⟨g1,g2⟩|⟨i,t,g1,g2,hi,g3⟩
 ·simp only [g1,g2,Option.isSome_none,Bool.not_false,cond_true]
 ·have hm:=qcs g2
  simp only [g1,g2,Option.isSome_some,Option.getD_some,Bool.not_true,cond_false,qC hi,g3,qqf N t _ h2 hn,qt1 N t _ (hk t hm) h1 hn,qp,qu,Bool.and_self,cond_true,qaC,qaJ]
  split <;> rfl
theorem qtr (N:Nat) (s:qj) (c:qbV) (hs:qcU N s) (hk:qnG s) (h1:c.2.2.1.length<N) (h2:c.2.2.2.1.length<N):qbo N (s,(c,()))=some ((qnE s c,()),()):=by
 have hn:=hs.sm.n
 have e0:((((neI c.1 1)&&(neI c.1 2))||((eqI c.1 1)&&(ltI 0 (qr c.2.2.1))))||((eqI c.1 2)&&(ltI 0 (qr c.2.2.2.1))))=qwj c:=by
  simp only [qaC,qan,qth,qwj]
  rw [Bool.or_assoc,Bool.or_comm]
 simp only [qbo,qK,e0,qfu N s c.2.1 hs.sm.t hn,qp,qu,cond_true]
 unfold qnE
 by_cases hb:qwj c=true
 ·rw [if_pos hb,hb]; rfl
 rw [if_neg hb,qE (by simpa using hb)]
 rcases qc7 s c.2.1 with ⟨g1,g2⟩|⟨i,t,g1,g2,hi,g3⟩
 ·simp only [g2,qiR,Bool.not_false,cond_true]
 ·have hm:=qcs g2
  simp only [g2,qp,qu,Bool.not_true,cond_false,qqe N t _ h2 hn,Bool.and_self,cond_true,qaC,qaJ,Bool.true_and]
  by_cases hq:c.1=1
  ·rw [if_pos hq,if_pos hq]
  rw [if_neg hq,if_neg hq]
  simp only [qdQ,qaJ]
  unfold vKey
  generalize c.2.2.1=key at *
  by_cases h0:key.length≠t.2.2.1.length
  ·rw [if_pos h0,if_pos h0]
  rw [if_neg h0,if_neg h0]
  have hl:key.length=t.2.2.1.length:=by omega
  refine (qW (S:=Int×Unit) (fun i=>((i:Int),())) key.length (qwM t key) (fun e=>some ((e,()),())) (some ((0,()),())) rfl (fun i hi _ ih=> ?_) (fun _ ih=> ?_) h1).trans ?_
  ·have hip:i<t.2.2.1.length:=by omega
   obtain ⟨c1,c2⟩:=hk t hm _ (List.getElem_mem hip)
   have b3:inB (t.2.2.1[i]) (qr t.2.1)=true:=by rw [qdj,qt]; simp; omega
   simp only [qav hi,qC hi,cond_true,qD _ hi,qC hip,qD _ hip,b3,qkE,qp,qu,Bool.and_self,qO (show i<4611686018427387904 by omega),qwM,List.getElem?_eq_getElem hi,qan,←decide_not,qaJ,qjl]
   by_cases h1:qjF key[i]=0
   ·simp only [h1,not_true_eq_false,ne_eq,if_false]
    split <;> rfl
   ·simp only [h1,not_false_eq_true,ne_eq,if_true]
  ·simp only
   rw [qE (qac (Nat.lt_irrefl _))]
  ·cases qR (qwM t key) key.length <;> rfl
def qlk (t:qf) (c:qbV):qam:=if c.1=1 then qaY t.2.2.1 c.2.2.2.1 else c.2.2.1
def tgtS (s:qj) (c:qbV):qam:=qlk (qca s c.2.1) c
theorem qqB (N:Nat) (s:qj) (c:qbV) (hs:qcU N s) {t:qf} (ht:qeu s c.2.1=some t):qa1 N (s,(c,()))=some ((tgtS s c,()),()):=by
 have hn:=hs.sm.n
 have e:qca s c.2.1=t:=by unfold qca; rw [ht]; rfl
 simp only [qa1,qK,qfu N s c.2.1 hs.sm.t hn,ht,qp,qu,cond_true,qiX N t _ (hs.tab (qcs ht)).k hn,Bool.and_true,Bool.and_self,qaC,qaJ,tgtS,qlk,e]
 split <;> rfl
structure qfV (N:Nat) (s:qj) (cs:List qbV):Prop where
 n:2 * cs.length+100<N
 key:∀c∈cs,c.2.2.1.length<N
 row:∀c∈cs,c.2.2.2.1.length<N
 ek:∀c∈cs,(qe0 c.2.2.1).length≤1099511627776
 er:∀c∈cs,(qe0 c.2.2.2.1).length≤1099511627776
 et:∀c∈cs,∀t∈s.1,(qe0 (qlk t c)).length≤1099511627776
 nm:∀c∈cs,c.2.1.length≤1048576
theorem qpK {s:qj} {c:qbV} (h:qnE s c=0):∃(i:Nat) (t:qf) (hi:i<s.1.length),qh6 (qcE c.2.1) s.1=some i∧qeu s c.2.1=some t∧s.1[i]=t∧t.1=c.2.1∧qca s c.2.1=t:=by
 rcases qc7 s c.2.1 with ⟨g1,g2⟩|⟨i,t,g1,g2,hi,g3⟩
 ·unfold qnE at h
  rw [g2] at h
  split at h <;> cases h
 ·have e:s.1[i]=t:=by have:=g3 quz; rwa [qD _ hi] at this
  obtain ⟨hj,k1,_⟩:=qgU g1
  refine ⟨i,t,hi,g1,g2,e,?_,by unfold qca; rw [g2]; rfl⟩
  rw [←e]
  simpa [qcE] using k1
theorem qhV.nameOk {s:qj} (h:qhV s) {t:qf} (ht:t∈s.1):nameOk t.1=true:=by
 obtain ⟨i,hi,rfl⟩:=List.getElem_of_mem ht
 have:=qaq h.tabs i hi
 simp only [qqk,List.getElem?_eq_getElem hi] at this
 split at this
 ·cases this
 rename_i hv
 have hv:qnT s.1[i]=0:=by simpa using hv
 unfold qnT at hv
 split at hv
 ·cases hv
 ·rename_i hq; simpa using hq
end
end Go.Proofs.YtnlkfgdojfijpaaGreatDoor
namespace Go.Proofs.YtnlkfgdojfijpaaGreatDoor
open Go.Vi
noncomputable section
theorem encEq (x y:qam):decide (qe0 x=qe0 y)=decide (x=y):=by
 by_cases h:x=y
 ·simp [h]
 ·have:qe0 x≠qe0 y:=fun e=>h (qvn e)
  simp [h,this]
structure ESmall (cs:List qbV):Prop where
 ek:∀c∈cs,(qe0 c.2.2.1).length≤1099511627776
 er:∀c∈cs,(qe0 c.2.2.2.1).length≤1099511627776
abbrev qsX:Ty:= .pair (.int .i64) (.pair .str (.pair (.slice qhT) (.pair (.slice qhT) .unit)))
theorem qiT (c:qbV):qsX.bulk c=1+(c.2.1.length+1+((c.2.2.1.map qhT.bulk).sum+1+((c.2.2.2.1.map qhT.bulk).sum+1+1))):=by
 obtain ⟨c1,c2,c3,c4,⟨⟩⟩:=c; rfl
theorem qtV {r:qam} (hg:∀v∈r,qhT.good v) (hb:(r.map qhT.bulk).sum≤1048576):(qe0 r).length≤1099511627776:=by
 have h3:=rlen r
 exact qiZ (a:=r.length) (b:=1048576 - r.length) (Nat.le_refl _) (by omega) fun v hv=>⟨hg v hv,by have:=ql1 r v hv; omega⟩
theorem qtl {s:qj} {cs:List qbV} (hg:(Ty.slice qsX).good cs) (hb:TSch.bulk s+(Ty.slice qsX).bulk cs≤1048577):qfV 5000000 s cs:=by
 have e:(Ty.slice qsX).bulk cs=(cs.map qsX.bulk).sum+1:=rfl
 have hl:=qhm qsX.bulk cs fun x _=>qfT qsX x
 have hone:∀c∈cs,qsX.bulk c≤(cs.map qsX.bulk).sum:=fun c hc=>qe5 qsX.bulk hc
 have good:∀c∈cs,(∀v∈c.2.2.1,qhT.good v)∧∀v∈c.2.2.2.1,qhT.good v:=fun c hc=>by
  have h:=hg.2 c hc
  obtain ⟨c1,c2,c3,c4,⟨⟩⟩:=c
  exact ⟨h.2.2.1.2,h.2.2.2.1.2⟩
 refine ⟨by omega,fun c hc=> ?_,fun c hc=> ?_,fun c hc=> ?_,fun c hc=> ?_,fun c hc t ht=> ?_,fun c hc=> ?_⟩
 ·have:=hone c hc; rw [qiT] at this; have:=rlen c.2.2.1; omega
 ·have:=hone c hc; rw [qiT] at this; have:=rlen c.2.2.2.1; omega
 ·have:=hone c hc; rw [qiT] at this; exact qtV (good c hc).1 (by omega)
 ·have:=hone c hc; rw [qiT] at this; exact qtV (good c hc).2 (by omega)
 ·have h1:=hone c hc
  rw [qiT] at h1
  unfold qlk
  split
  ·have h2:qtE.bulk t≤TSch.bulk s:=by
    obtain ⟨x,y,z,⟨⟩⟩:=s
    rw [qlZ]
    have:=qe5 qtE.bulk ht
    simp only at this
    omega
   refine qiZ (a:=qtE.bulk t) (b:=(c.2.2.2.1.map qhT.bulk).sum) (by rw [qdf,qou,qiH]; omega) (by omega) fun v hv=> ?_
   obtain ⟨i,_,rfl⟩:=List.mem_map.1 hv
   rcases qpm c.2.2.2.1 i with hm|hm
   ·exact ⟨(good c hc).2 _ hm,by have:=ql1 c.2.2.2.1 _ hm; omega⟩
   ·rw [hm]; exact ⟨⟨qrm,qrm,Nat.zero_le _,trivial⟩,Nat.zero_le _⟩
  ·exact qtV (good c hc).1 (by omega)
 ·have:=hone c hc; rw [qiT] at this; omega
theorem qcU.mono {N M:Nat} {s:qj} (h:qcU N s) (hNM:N≤M) (hM:M≤1099511627776):qcU M s:=by
 obtain ⟨⟨_,t,f,c,tc,tk,fc,tn,cn⟩,m⟩:=h
 exact ⟨⟨hM,by omega,by omega,by omega,fun x hx=>Nat.lt_of_lt_of_le (tc x hx) hNM,fun x hx=>Nat.lt_of_lt_of_le (tk x hx) hNM,fun x hx=>Nat.lt_of_lt_of_le (fc x hx) hNM,fun x hx=>Nat.lt_of_lt_of_le (tn x hx) hNM,fun x hx y hy=>Nat.lt_of_lt_of_le (cn x hx y hy) hNM⟩,by omega⟩
theorem qfV.enc {N:Nat} {s:qj} {cs xs:List qbV} (h:qfV N s cs) (hx:∀c∈xs,c∈cs):ESmall xs:=
 ⟨fun c hc=>h.ek c (hx c hc),fun c hc=>h.er c (hx c hc)⟩
end
end Go.Proofs.YtnlkfgdojfijpaaGreatDoor
namespace Go.Proofs.YtnlkfgdojfijpaaGreatDoor
open Go.Vi
noncomputable section
end
end Go.Proofs.YtnlkfgdojfijpaaGreatDoor
namespace Go.Proofs.YtnlkfgdojfijpaaGreatDoor
open Go.Vi
noncomputable section
def diffAt (s:qj) (a b:List qcg) (i:Nat):List qbV:=match s.1[i]?,a[i]?,b[i]? with
 |some t,some x,some y=>qsj t.1 t.2.2.1 x.2.1 y.2.1
 |_,_,_=>[]
def diffS (s:qj) (a b:List qcg):Nat→List qbV
 |0=>[]
 |n+1=>diffS s a b n++diffAt s a b n
structure DSmall (N:Nat) (s:qj) (a b:List qcg):Prop where
 ss:qcU N s
 ra:qgs N a
 rb:qgs N b
 ka:∀r∈a,∀row∈r.2.1,∀t∈s.1,(qe0 (qaY t.2.2.1 row)).length≤1099511627776
 kb:∀r∈b,∀row∈r.2.1,∀t∈s.1,(qe0 (qaY t.2.2.1 row)).length≤1099511627776
 hB:N≤1000000000
 out:∀n,(diffS s a b n).length≤10000000000
 sum:∀(i:Nat) (x y:qcg),a[i]? =some x→b[i]? =some y→x.2.1.length+y.2.1.length+100<N
theorem qxd (x y:qam):eqS (qe0 x) (qe0 y)=decide (x=y):=by rw [qbs]; exact encEq x y
theorem qgs.mono {N M:Nat} {rels:List qcg} (h:qgs N rels) (hNM:N≤M):qgs M rels:=
 ⟨Nat.lt_of_lt_of_le h.n hNM,fun r hr=>Nat.lt_of_lt_of_le (h.rows r hr) hNM,fun r hr x hx=>Nat.lt_of_lt_of_le (h.row r hr x hx) hNM,h.enc⟩
end
end Go.Proofs.YtnlkfgdojfijpaaGreatDoor
namespace Go.Proofs.YtnlkfgdojfijpaaGreatDoor
open Go.Vi
noncomputable section
def quw (t:qf) (rows:List qam):Prop:=rows.length≤24∧(∀r∈rows,qny t r=0)∧qew t.2.2.1 rows
structure qnr (s:qj) (rels:List qcg):Prop where
 len:rels.length=s.1.length
 name:∀i (hi:i<rels.length) (ht:i<s.1.length),(rels[i]).1=(s.1[i]).1
 ok:∀i (hi:i<rels.length) (ht:i<s.1.length),quw s.1[i] (rels[i]).2.1
theorem qkV {E:Type} {g:Nat→Option E} : {n:Nat} →(∀i,i<n→g i=none)→qR g n=none
 |0,_=>rfl
 |n+1,h=>by simp only [qR,qkV (n:=n) fun i hi=>h i (by omega),h n (by omega)]
theorem qme {s:qj} {rels:List qcg} (h:qeo s rels=0):qnr s rels:=by
 have F:=qwx h
 refine ⟨F.len,F.name,fun i hi ht=> ?_⟩
 unfold qeo at h
 split at h
 ·cases h
 obtain ⟨h1,_⟩:=qeA (qpN s.1 rels) h
 have:=qaq h1 i hi
 simp only [qrD,List.getElem?_eq_getElem hi,qD _ ht] at this
 split at this
 ·cases this
 split at this
 ·cases this
 rename_i h24
 refine ⟨by omega,fun r hr=> ?_,F.sorted i hi ht⟩
 obtain ⟨k,hk,rfl⟩:=List.getElem_of_mem hr
 have:=qaq this k hk
 simp only [qk6,List.getElem?_eq_getElem hk] at this
 split at this
 ·cases this
 rename_i hv
 simpa using hv
theorem qnr.vconf {s:qj} {rels:List qcg} (h:qnr s rels):qeo s rels=0:=by
 unfold qeo
 rw [if_neg (by rw [h.len]; simp)]
 have:qR (qrD s.1 rels) rels.length=none:=qkV fun i hi=>by
  have ht:i<s.1.length:=by rw [←h.len]; exact hi
  obtain ⟨h1,h2,h3⟩:=h.ok i hi ht
  simp only [qrD,List.getElem?_eq_getElem hi,qD _ ht]
  rw [if_neg (by simp [h.name i hi ht]),if_neg (by omega)]
  refine qkV fun k hk=> ?_
  simp only [qk6,List.getElem?_eq_getElem hk]
  rw [if_neg (by simp [h2 _ (List.getElem_mem hk)])]
  by_cases hk0:0<k
  ·have hp:=List.pairwise_iff_getElem.1 h3 (k - 1) k (by omega) hk (by omega)
   have e:qk (rels[i]).2.1 ((k:Int) - 1) ([]:qam)=(rels[i]).2.1[k - 1]'(by omega):=by
    rw [show (k:Int) - 1=((k - 1:Nat):Int) by omega,qD _ (by omega)]
   rw [e,if_neg (by omega),if_neg (by omega)]
  ·rw [if_neg (by omega),if_neg (by omega)]
 rw [this]
abbrev relZ:qcg:=(([]:List UInt8),(([]:List qam),()))
def qdl (rels:List qcg) (i:Nat):List qam:=(qk rels (i:Int) relZ).2.1
def setI (rels:List qcg) (i:Nat) (rows:List qam):List qcg:=qgW rels (i:Int) ((qk rels (i:Int) relZ).1,(rows,(qk rels (i:Int) relZ).2.2))
def ixT (s:qj) (c:qbV):Nat:=(qh6 (qcE c.2.1) s.1).getD 0
def qpj (t:qf) (c:qbV) (P:List qam):List qam:=if c.1=1 then qo6 t.2.2.1 c.2.2.2.1 P else qiU t.2.2.1 c.2.2.1 P
def qoJ (t:qf) (c:qbV) (P:List qam):Option Int:=if c.1=1 then (if 24<(qpj t c P).length then some 2 else none) else if P.any (fun r=>decide (qaY t.2.2.1 r=c.2.2.1))=true then none else some 9
def qfK (s:qj) (c:qbV) (rels:List qcg):Option Int:=if qnE s c≠0 then some (qnE s c) else qoJ (qca s c.2.1) c (qdl rels (ixT s c))
def qga (s:qj) (c:qbV) (rels:List qcg):List qcg:=setI rels (ixT s c) (qpj (qca s c.2.1) c (qdl rels (ixT s c)))
def stA (s:qj) (inst:List qcg) (cs:List qbV):Nat→List qcg
 |0=>inst
 |n+1=>match cs[n]? with
  |none=>stA s inst cs n
  |some c=>if qfK s c (stA s inst cs n)=none then qga s c (stA s inst cs n) else stA s inst cs n
def cdA (s:qj) (inst:List qcg) (cs:List qbV) (n:Nat):Option Int:=match cs[n]? with
 |none=>none
 |some c=>qfK s c (stA s inst cs n)
theorem qrE {s:qj} {inst:List qcg} {cs:List qbV} {n:Nat} (hn:n<cs.length):stA s inst cs (n+1)=if qfK s cs[n] (stA s inst cs n)=none then qga s cs[n] (stA s inst cs n) else stA s inst cs n:=by
 simp only [stA,List.getElem?_eq_getElem hn]
theorem qpg {s:qj} {inst:List qcg} {cs:List qbV} {n:Nat} (hn:n<cs.length):cdA s inst cs n=qfK s cs[n] (stA s inst cs n):=by
 simp only [cdA,List.getElem?_eq_getElem hn]
theorem qiO (rels:List qcg) (i:Nat) (rows:List qam):(setI rels i rows).length=rels.length:=by unfold setI; rw [qbm,List.length_set]
theorem qcR {rels:List qcg} {i:Nat} (h:i<rels.length):qdl rels i=(rels[i]).2.1:=by unfold qdl; rw [qD _ h]
theorem qov {rels:List qcg} {i:Nat} (rows:List qam) (h:i<rels.length) {j:Nat} (hj:j<rels.length):(setI rels i rows)[j]'(by rw [qiO]; exact hj)=if i=j then ((rels[i]).1,(rows,())) else rels[j]:=by
 simp only [setI,qbm,qD _ h]
 rw [List.getElem_set]
 simp
theorem qoo {s:qj} {c:qbV} (h:qnE s c=0):c.1=1∨c.1=2:=by
 unfold qnE at h
 split at h
 ·cases h
 rename_i hb
 by_cases h1:c.1=1
 ·exact .inl h1
 ·by_cases h2:c.1=2
  ·exact .inr h2
  ·exact absurd (by simp [qwj,h1,h2]) hb
theorem qwq {s:qj} {c:qbV} (h:qnE s c=0) (h1:c.1=1):qny (qca s c.2.1) c.2.2.2.1=0:=by
 obtain ⟨i,t,hi,a1,a2,a3,a4,a5⟩:=qpK h
 unfold qnE at h
 split at h
 ·cases h
 rw [a2] at h
 simp only [h1,if_true] at h
 rw [a5]; exact h
theorem qw6 {t:qf} {c:qbV} {P:List qam} (hP:quw t P) (hc:qoJ t c P=none) (hk:c.1=1∨c.1=2) (hr:c.1=1→qny t c.2.2.2.1=0):quw t (qpj t c P):=by
 obtain ⟨h1,h2,h3⟩:=hP
 by_cases q:c.1=1
 ·have e:qpj t c P=qo6 t.2.2.1 c.2.2.2.1 P:=by unfold qpj; rw [if_pos q]
  unfold qoJ at hc
  rw [if_pos q,e] at hc
  rw [e]
  by_cases h24:24<(qo6 t.2.2.1 c.2.2.2.1 P).length
  ·rw [if_pos h24] at hc; cases hc
  refine ⟨by omega,fun r hr'=> ?_,qmr h3⟩
  rcases ql0 r hr' with rfl|hm
  ·exact hr q
  ·exact h2 r hm
 ·have e:qpj t c P=qiU t.2.2.1 c.2.2.1 P:=by unfold qpj; rw [if_neg q]
  rw [e]
  exact ⟨Nat.le_trans (List.length_filter_le _ _) h1,fun r hr'=>h2 r (List.mem_filter.1 hr').1,qqM h3⟩
theorem qnK {s:qj} {c:qbV} (h:qnE s c=0):∃hi:ixT s c<s.1.length,s.1[ixT s c]=qca s c.2.1∧qeu s c.2.1=some (qca s c.2.1)∧qh6 (qcE c.2.1) s.1=some (ixT s c)∧(qca s c.2.1).1=c.2.1:=by
 obtain ⟨i,t,hi,a1,a2,a3,a4,a5⟩:=qpK h
 have e:ixT s c=i:=by unfold ixT; rw [a1]; rfl
 rw [e,a5]
 exact ⟨hi,a3,a2,a1,a4⟩
theorem qsB {s:qj} {c:qbV} {rels:List qcg} (h:qnr s rels) (hc:qfK s c rels=none):qnr s (qga s c rels):=by
 unfold qfK at hc
 split at hc
 ·cases hc
 rename_i hv
 have hv:qnE s c=0:=by simpa using hv
 obtain ⟨hi,e1,e2,e3,e4⟩:=qnK hv
 have hir:ixT s c<rels.length:=by rw [h.len]; exact hi
 have hok:=h.ok _ hir hi
 rw [e1,←qcR hir] at hok
 have hn:=qw6 hok hc (qoo hv) (qwq hv)
 refine ⟨by rw [qga,qiO]; exact h.len,fun j hj ht=> ?_,fun j hj ht=> ?_⟩
 ·have hj':j<rels.length:=by rw [qga,qiO] at hj; exact hj
  simp only [qga,qov _ hir hj']
  by_cases q:ixT s c=j
  ·subst q; rw [if_pos rfl]; exact h.name _ hir hi
  ·rw [if_neg q]; exact h.name j hj' ht
 ·have hj':j<rels.length:=by rw [qga,qiO] at hj; exact hj
  simp only [qga,qov _ hir hj']
  by_cases q:ixT s c=j
  ·subst q; rw [if_pos rfl,e1]; exact hn
  ·rw [if_neg q]; exact h.ok j hj' ht
theorem qfX {s:qj} {inst:List qcg} {cs:List qbV} (h:qnr s inst):(n:Nat)→qnr s (stA s inst cs n)
 |0=>h
 |n+1=>by
  have ih:=qfX (cs:=cs) h n
  simp only [stA]
  split
  ·exact ih
  ·split
   ·rename_i hc; exact qsB ih hc
   ·exact ih
def From (inst:List qcg) (cs:List qbV) (r:qam):Prop:=(∃q∈inst,r∈q.2.1)∨∃c∈cs,c.1=1∧r=c.2.2.2.1
theorem qt6 {t:qf} {c:qbV} {P:List qam} {r:qam} (h:r∈qpj t c P):r∈P∨(c.1=1∧r=c.2.2.2.1):=by
 unfold qpj at h
 split at h
 ·rename_i h1
  rcases ql0 r h with h|h
  ·exact .inr ⟨h1,h⟩
  ·exact .inl h
 ·exact .inl (List.mem_filter.1 h).1
theorem ql2 {s:qj} {inst:List qcg} {cs:List qbV} (hC:qnr s inst):(n:Nat)→∀q∈stA s inst cs n,∀r∈q.2.1,From inst cs r
 |0,q,hq,r,hr=> .inl ⟨q,hq,hr⟩
 |n+1,q,hq,r,hr=>by
  have ih:=ql2 (cs:=cs) hC n
  have hCn:=qfX (cs:=cs) hC n
  simp only [stA] at hq
  split at hq
  ·exact ih q hq r hr
  ·rename_i c hc
   split at hq
   ·rename_i hcode
    obtain ⟨j,hj,rfl⟩:=List.getElem_of_mem hq
    have hj':j<(stA s inst cs n).length:=by rw [qga,qiO] at hj; exact hj
    unfold qfK at hcode
    split at hcode
    ·cases hcode
    rename_i hv
    obtain ⟨hi,_⟩:=qnK (s:=s) (c:=c) (by simpa using hv)
    have hir:ixT s c<(stA s inst cs n).length:=by rw [hCn.len]; exact hi
    simp only [qga,qov _ hir hj'] at hr
    by_cases e:ixT s c=j
    ·rw [if_pos e] at hr
     rcases qt6 hr with h|⟨h1,h2⟩
     ·rw [qcR hir] at h
      exact ih _ (List.getElem_mem hir) r h
     ·exact .inr ⟨c,List.mem_of_getElem? hc,h1,h2⟩
    ·rw [if_neg e] at hr
     exact ih _ (List.getElem_mem hj') r hr
   ·exact ih q hq r hr
structure qmU (N:Nat) (s:qj) (inst:List qcg) (cs:List qbV):Prop where
 ss:qcU N s
 ri:qgs N inst
 ki:KSmall s inst
 cc:qfV N s cs
 hB:N≤1000000000
 hN:1000<N
theorem qmU.row {N:Nat} {s:qj} {inst:List qcg} {cs:List qbV} (h:qmU N s inst cs) {r:qam} (hr:From inst cs r):r.length<N∧(qe0 r).length≤1099511627776∧∀t∈s.1,(qe0 (qaY t.2.2.1 r)).length≤1099511627776:=by
 rcases hr with ⟨q,hq,hr⟩|⟨c,hc,h1,rfl⟩
 ·exact ⟨h.ri.row q hq r hr,h.ri.enc q hq r hr,h.ki.kt q hq r hr⟩
 ·refine ⟨h.cc.row c hc,h.cc.er c hc,fun t ht=> ?_⟩
  have:=h.cc.et c hc t ht
  unfold qlk at this
  rwa [if_pos h1] at this
theorem qmU.rsm {N:Nat} {s:qj} {inst:List qcg} {cs:List qbV} (h:qmU N s inst cs) (hC:qnr s inst) (n:Nat):qgs N (stA s inst cs n):=by
 have hCn:=qfX (cs:=cs) hC n
 have hm:=h.ss.m
 refine ⟨by rw [hCn.len]; exact h.ss.sm.t,fun q hq=> ?_,fun q hq r hr=>(h.row (ql2 hC n q hq r hr)).1,fun q hq r hr=>(h.row (ql2 hC n q hq r hr)).2.1⟩
 obtain ⟨j,hj,rfl⟩:=List.getElem_of_mem hq
 have:=(hCn.ok j hj (by rw [←hCn.len]; exact hj)).1
 omega
theorem qtH (N:Nat) (rows:List qam) (i:Nat) (row:qam) (hi:i≤rows.length) (hb:rows.length≤1000000000):qbS N (rows,((i:Int),([row],())))=some ((rows.take i++[row]++rows.drop i,()),()):=by
 simp only [qbS]
 rw [if_pos ⟨by omega,by omega,by simp; omega⟩]
 simp
theorem quc (N:Nat) (rows:List qam) (i:Nat) (hi:i<rows.length) (hb:rows.length≤1000000000):qbR N (rows,((i:Int),(qax .i64 (i:Int) 1,())))=some ((rows.take i++rows.drop (i+1),()),()):=by
 rw [qO (by omega)]
 simp only [qbR]
 rw [if_pos ⟨by omega,by omega,by omega⟩]
 simp
theorem qpB (N:Nat) (t:qf) (rows:List qam) (key:qam) (hN:t.2.2.1.length<N) (hN2:rows.length<N) (hB:N≤1000000000) (hr:∀r∈rows,r.length≤1099511627776) (hs:qew t.2.2.1 rows):
  qct N (t,(rows,(key,())))=some ((qiU t.2.2.1 key rows,(rows.any (fun r=>decide (qaY t.2.2.1 r=key)),())),()):=by
 have hB':N≤1099511627776:=by omega
 obtain ⟨s1,s2,s3⟩:=qlf (fun r=>qZ (qaY t.2.2.1 r) key) rows
 have hrem:=qtc t.2.2.1 key rows hs
 have hany:=qqn (pk:=t.2.2.1) hs key
 simp only [qct,qK,qjx N rows hN2 hB' hr,qp,qu,cond_true,qra N t rows key hN hN2 hB']
 rw [←hrem,←hany]
 generalize qdh (fun r=>qZ (qaY t.2.2.1 r) key) rows=q at *
 obtain ⟨i,b⟩:=q
 simp only at s1 s2 s3⊢
 cases b with
 |false=>simp [qwt]
 |true=>
  have hi:i<rows.length:=by
   rcases Nat.lt_or_ge i rows.length with h|h
   ·exact h
   ·have:=s2 (by omega); cases this
  simp [quc N rows i hi (by omega),qp,qu,qwt]
theorem qtn (N:Nat) (t:qf) (rows:List qam) (row:qam) (hN:t.2.2.1.length<N) (hN2:rows.length<N) (hB:N≤1000000000) (hr:∀r∈rows,r.length≤1099511627776) (hrow:row.length≤1099511627776):
  qb2 N (t,(rows,(row,())))=some ((qo6 t.2.2.1 row rows,()),()):=by
 have hB':N≤1099511627776:=by omega
 obtain ⟨s1,s2,s3⟩:=qlf (fun r=>qZ (qaY t.2.2.1 r) (qaY t.2.2.1 row)) rows
 have hins:=qto t.2.2.1 row rows
 simp only [qb2,qK,qjx N rows hN2 hB' hr,qkm N row hrow,qrz N t row hN hB',qp,qu,cond_true,Bool.true_and,qra N t rows _ hN hN2 hB']
 rw [←hins]
 generalize qdh (fun r=>qZ (qaY t.2.2.1 r) (qaY t.2.2.1 row)) rows=q at *
 obtain ⟨i,b⟩:=q
 simp only at s1 s2 s3⊢
 cases b with
 |false=>simp [qtH N rows i row s1 (by omega),qp,qu,qwr]
 |true=>
  have hi:i<rows.length:=by
   rcases Nat.lt_or_ge i rows.length with h|h
   ·exact h
   ·have:=s2 (by omega); cases this
  simp [qC hi,qwr]
def qlh (s:qj) (inst:List qcg) (cs:List qbV):Int:=if qkN s≠0 then qkN s else if qeo s inst≠0 then qeo s inst else if 24<cs.length then 2 else match qR (cdA s inst cs) cs.length with
 |some e=>e
 |none=>0
def qnh (s:qj) (inst:List qcg) (cs:List qbV):List qcg:=if qlh s inst cs=0 then stA s inst cs cs.length else []
theorem qva {s:qj} {c:qbV} {rels:List qcg} {e:Int} (h:qfK s c rels=some e):e≠0:=by
 unfold qfK at h
 split at h
 ·rename_i hv; injection h with h; rw [←h]; exact hv
 ·unfold qoJ at h
  split at h
  ·split at h
   ·injection h with h; omega
   ·cases h
  ·split at h
   ·cases h
   ·injection h with h; omega
theorem qvv (s:qj) (inst:List qcg) (cs:List qbV):∀i e,cdA s inst cs i=some e→e≠0:=fun i e h=>by
 unfold cdA at h
 split at h
 ·cases h
 ·exact qva h
theorem qgV (s:qj) (inst:List qcg) (cs:List qbV) (h0:qkN s=0) (h1:qeo s inst=0) (h2:¬24<cs.length):
  (qR (cdA s inst cs) cs.length=none∧qlh s inst cs=0∧qnh s inst cs=stA s inst cs cs.length)∨∃e,qR (cdA s inst cs) cs.length=some e∧qlh s inst cs=e∧e≠0∧qnh s inst cs=[]:=by
 have hv:qlh s inst cs=match qR (cdA s inst cs) cs.length with
  |some e=>e
  |none=>0:=by
  unfold qlh
  rw [if_neg (by omega),if_neg (by omega),if_neg h2]
 cases hf:qR (cdA s inst cs) cs.length with
 |none=>
  rw [hf] at hv
  exact .inl ⟨rfl,hv,by unfold qnh; rw [if_pos hv]⟩
 |some e=>
  rw [hf] at hv
  obtain ⟨i,_,hi,_⟩:=qbb hf
  have hne:=qvv s inst cs i e hi
  exact .inr ⟨e,rfl,hv,hne,by unfold qnh; rw [if_neg (by rw [hv]; exact hne)]⟩
theorem qvW (N:Nat) (s:qj) (inst:List qcg) (cs:List qbV) (h:qmU N s inst cs):qb8 N (s,(inst,(cs,())))=some ((qnh s inst cs,(qlh s inst cs,())),()):=by
 have hB:=h.hB
 have hB':N≤1099511627776:=by omega
 have hcn:=h.cc.n
 simp only [qb8,qK,qpJ N s h.ss,qn5 N s inst h.ss h.ri,qli N inst h.ri hB',qp,qu,cond_true,qmq]
 by_cases h0:qkN s≠0
 ·have e1:qlh s inst cs=qkN s:=by unfold qlh; rw [if_pos h0]
  have e2:qnh s inst cs=[]:=by unfold qnh; rw [e1,if_neg h0]
  rw [e1,e2,neT h0]; rfl
 rw [neF (by omega:qkN s=0),cond_false]
 by_cases h1:qeo s inst≠0
 ·have e1:qlh s inst cs=qeo s inst:=by unfold qlh; rw [if_neg h0,if_pos h1]
  have e2:qnh s inst cs=[]:=by unfold qnh; rw [e1,if_neg h1]
  rw [e1,e2,neT h1]; rfl
 rw [neF (by omega:qeo s inst=0),cond_false]
 by_cases h2:24<cs.length
 ·have e1:qlh s inst cs=2:=by unfold qlh; rw [if_neg h0,if_neg h1,if_pos h2]
  have e2:qnh s inst cs=[]:=by unfold qnh; rw [e1]; rfl
  rw [e1,e2,decide_eq_true h2]; rfl
 rw [decide_eq_false h2,cond_false]
 have hv:=qfm (s:=s) (by omega)
 have hk:=qig hv.tabs
 have hC:=qme (s:=s) (rels:=inst) (by omega)
 have hst:=h.ss.sm.t
 refine (qW (S:=List qcg×(Int×Unit)) (fun i=>(stA s inst cs i,((i:Int),()))) cs.length (cdA s inst cs) (fun e=>some ((([]:List qcg),(e,())),())) (some ((stA s inst cs cs.length,(0,())),())) rfl (fun i hi hf ih=> ?_) (fun _ ih=> ?_) (by omega)).trans ?_
 ·have hm:=List.getElem_mem hi
  have hCi:=qfX (cs:=cs) hC i
  have hRi:=h.rsm hC i
  rw [qrE hi,qpg hi]
  simp only [qav hi,qC hi,cond_true,qD _ hi,qO (show i<4611686018427387904 by omega),qs6 N s _ h.ss hk (h.cc.key _ hm) (h.cc.row _ hm),qp,qu]
  have hcr:=h.cc.row _ hm
  generalize cs[i]=c at *
  unfold qfK
  by_cases hv0:qnE s c≠0
  ·rw [if_pos hv0,neT hv0]; rfl
  rw [if_neg hv0,neF (by omega:qnE s c=0),cond_false]
  obtain ⟨hi2,e1,e2,e3,e4⟩:=qnK (s:=s) (c:=c) (by omega)
  have hir:ixT s c<(stA s inst cs i).length:=by rw [hCi.len]; exact hi2
  have ht:=h.ss.tab (qcs e2)
  have g:∀d,qk s.1 ((ixT s c:Nat):Int) d=qca s c.2.1:=fun d=>by rw [qD _ hi2,e1]
  have hrl:(qdl (stA s inst cs i) (ixT s c)).length<N:=by rw [qcR hir]; exact hRi.rows _ (List.getElem_mem hir)
  have hrr:∀r∈qdl (stA s inst cs i) (ixT s c),r.length≤1099511627776:=fun r hr=>by
   rw [qcR hir] at hr
   have:=hRi.row _ (List.getElem_mem hir) r hr
   omega
  have hok:=hCi.ok _ hir hi2
  rw [e1,←qcR hir] at hok
  have erow:∀d,d=relZ→(qk (stA s inst cs i) ((ixT s c:Nat):Int) d).2.1=qdl (stA s inst cs i) (ixT s c):=fun d hd=>by rw [hd]; rfl
  have erow':=erow relZ rfl
  have hins:∀z:qcg,inB ((ixT s c:Nat):Int) (qr (qgW (stA s inst cs i) ((ixT s c:Nat):Int) z))=true:=fun z=>qC (by rw [qbm,List.length_set]; exact hir)
  have hget:∀z d:qcg,qk (qgW (stA s inst cs i) ((ixT s c:Nat):Int) z) ((ixT s c:Nat):Int) d=z:=fun z d=>by
   rw [qD _ (by rw [qbm,List.length_set]; exact hir)]
   simp [qbm]
  have up:=qtn N (qca s c.2.1) (qdl (stA s inst cs i) (ixT s c)) c.2.2.2.1 ht.k hrl hB hrr (by omega)
  have de:=qpB N (qca s c.2.1) (qdl (stA s inst cs i) (ixT s c)) c.2.2.1 ht.k hrl hB hrr hok.2.2
  simp only [qc2 N s c.2.1 hst hB',e3,Option.getD_some,qp,qu,cond_true,qC hi2,qC hir,g,erow',up,de,hins,hget,Bool.and_self,Bool.true_and,qmq]
  unfold qoJ qpj qga
  by_cases q:c.1=1
  ·simp only [q,eqT (rfl:(1:Int)=1),cond_true,if_true]
   by_cases h24:24<(qo6 (qca s c.2.1).2.2.1 c.2.2.2.1 (qdl (stA s inst cs i) (ixT s c))).length
   ·simp only [h24,decide_true,cond_true,if_true]
   ·simp only [h24,decide_false,cond_false,if_false,if_true,qpj,q]
    rfl
  ·simp only [eqF q,cond_false,if_neg q]
   by_cases ha:(qdl (stA s inst cs i) (ixT s c)).any (fun r=>decide (qaY (qca s c.2.1).2.2.1 r=c.2.2.1))=true
   ·simp only [ha,Bool.not_true,cond_false,if_true,qpj,if_neg q]
    rfl
   ·have ha':(qdl (stA s inst cs i) (ixT s c)).any (fun r=>decide (qaY (qca s c.2.1).2.2.1 r=c.2.2.1))=false:=by simpa using ha
    simp only [ha',Bool.not_false,cond_true,Bool.false_eq_true,if_false]
 ·simp only
  rw [qE (qac (Nat.lt_irrefl _))]
 ·rcases qgV s inst cs (by omega) (by omega) h2 with ⟨f1,f2,f3⟩|⟨e,f1,f2,_,f3⟩
  ·rw [f1,f2,f3]
  ·rw [f1,f2,f3]
end
end Go.Proofs.YtnlkfgdojfijpaaGreatDoor
namespace Go.Proofs.YtnlkfgdojfijpaaGreatDoor
open Go.Vi
noncomputable section
theorem qoi (N:Nat) (xs:List qam) (φ:(qam×Unit)→Option (Bool×Unit)) (q:qam→Bool) (hφ:∀a∈xs,φ (a,())=some (q a,())) (hN:xs.length<N) (hB:N≤1000000000):
  qaM N (xs,(φ,()))=some ((xs.filter (fun r=> !q r),()),()):=by
 have hix:qbY N (xs,(φ,()))=some ((qif q xs,()),()):=qeL φ q xs hφ ([]:qam) N hN (by omega)
 simp only [qaM,hix,qK,qp,qu,cond_true]
 unfold qif
 cases hq:qh6 q xs with
 |none=>
  have:=qm3 hq
  simp only [eqT (rfl:(-1:Int)= -1),cond_true]
  rw [List.filter_eq_self.2 fun r hr=>by simp [this r hr]]
 |some i0=>
  obtain ⟨hi0,h1,h2⟩:=qgU hq
  simp only [eqF (show ¬((i0:Int)= -1) by omega),cond_false]
  have htk:xs.take i0=(xs.take i0).filter (fun r=> !q r):=(List.filter_eq_self.2 fun r hr=>by
   obtain ⟨j,hj,rfl⟩:=List.getElem_of_mem hr
   rw [List.length_take] at hj
   rw [List.getElem_take,h2 j (by omega)]; rfl).symm
  refine qcG (S:=List qam×(Int×(Int×Unit))) (fun p=>xs.length - p.2.2.1.toNat) (fun p=>∃i j:Nat,p.2.1=(i:Int)∧p.2.2.1=(j:Int)∧i<j∧j≤xs.length∧p.1.length=xs.length∧p.1.take i=(xs.take j).filter (fun r=> !q r)∧p.1.drop j=xs.drop j)
   (fun r=>r=some ((xs.filter (fun r=> !q r),()),())) ?_ N _ ⟨i0,i0+1,rfl,by rw [qO (by omega)],by omega,by omega,rfl,?_,rfl⟩ (by rw [qO (by omega)]; simp only [Int.toNat_natCast]; omega)
  ·rintro ih ⟨ys,_,_,⟨⟩⟩ ⟨i,j,rfl,rfl,hij,hj,hl,ht,hd⟩ hih
   simp only at hl ht hd hih⊢
   by_cases hjl:j<xs.length
   ·have hjy:j<ys.length:=by omega
    have hyj:ys[j]=xs[j]:=by
     have e1:=List.drop_eq_getElem_cons hjy
     have e2:=List.drop_eq_getElem_cons hjl
     rw [hd,e2] at e1
     injection e1 with e1 _
     exact e1.symm
    have hdd:ys.drop (j+1)=xs.drop (j+1):=by
     have:=congrArg (List.drop 1) hd
     rwa [List.drop_drop,List.drop_drop] at this
    have hiy:i<ys.length:=by omega
    have hm:=List.getElem_mem hjl
    simp only [qav hjy,qC hjy,qC hiy,cond_true,qD _ hjy,hyj,hφ _ hm,qp,qu,qO (show i<4611686018427387904 by omega),qO (show j<4611686018427387904 by omega),qbm,Int.toNat_natCast]
    cases hqj:q xs[j] with
    |true=>
     simp only [Bool.not_true,cond_false,cond_true]
     refine hih _ ⟨i,j+1,rfl,rfl,by omega,by omega,hl,?_,hdd⟩ (by simp only [Int.toNat_natCast]; omega)
     simp only
     rw [ht,qbi hjl,List.filter_append]
     simp [hqj]
    |false=>
     simp only [Bool.not_false,cond_true]
     refine hih _ ⟨i+1,j+1,rfl,rfl,by omega,by omega,by simp only [List.length_set]; exact hl,?_,?_⟩ (by simp only [Int.toNat_natCast]; omega)
     ·simp only
      rw [qbi (by rw [List.length_set]; exact hiy),qbi hjl,List.filter_append,←ht]
      have e3:(ys.set i xs[j]).take i=ys.take i:=by rw [List.take_set]; exact List.set_eq_of_length_le (by rw [List.length_take]; omega)
      rw [e3]
      simp [hqj]
     ·simp only
      rw [List.drop_set_of_lt (by omega)]
      exact hdd
   ·have hje:j=xs.length:=by omega
    subst hje
    have hly:qr ys=(xs.length:Int):=by rw [qt,hl]
    have e4:qaB (qem (qaB ys 0 (i:Int)) (qem (qrn (α:=qam) (qbn .i64 (qr ys) (i:Int)) ([]:qam)) (qaB ys (qr ys) (qr ys)))) 0 (i:Int)=ys.take i:=by
     rw [hly,qcP (by omega) (by omega)]
     simp only [qcF,qbv,qf4,Int.toNat_natCast,Int.toNat_zero,List.drop_zero]
     rw [List.take_append_of_le_length (by rw [List.length_take]; omega),List.take_take,Nat.min_self]
    have e5:inS (i:Int) (qr ys) (qr ys)=true:=qrL (by omega)
    have e6:inS 0 (i:Int) (qr (qem (qaB ys 0 (i:Int)) (qem (qrn (α:=qam) (qbn .i64 (qr ys) (i:Int)) ([]:qam)) (qaB ys (qr ys) (qr ys)))))=true:=by
     rw [hly,qcP (by omega) (by omega),qlb,qt]
     simp only [qcF,qbv,qf4,Int.toNat_natCast,List.length_append,List.length_drop,List.length_take,List.length_replicate]
     refine decide_eq_true ?_
     omega
    have e7:ltI ((xs.length:Nat):Int) (qr ys)=false:=by rw [hly]; exact ltF (by omega)
    simp only [e7,cond_false,e5,e6,cond_true,e4]
    rw [ht,List.take_length]
  ·simp only
   rw [qbi hi0,List.filter_append,←htk]
   simp [h1]
abbrev phiS (N:Nat) (t:qf):(qam×(qam×Unit))→Option (Int×Unit):=fun x2=>(qkf (fun y3:((Int×Unit)×Unit)=>(y3.1.1,())) (qbJ N (x2.1,(x2.2.1,(t,())))))
theorem cmpS (N:Nat) (t:qf) (hk:t.2.2.1.length<N) (hB:N≤1099511627776):Cmp (fun _:qam=>True) (phiS N t) (fun a b=>¬qZ (qaY t.2.2.1 b) (qaY t.2.2.1 a)<0) where
 ans a b _ _:=by
  have hl:∀r,(qaY t.2.2.1 r).length<N:=fun r=>by rw [qdf]; exact hk
  refine ⟨qZ (qaY t.2.2.1 a) (qaY t.2.2.1 b),?_,by simp⟩
  simp only [phiS,qbJ,qiX N t _ hk hB,qiE N _ _ (hl a) hB,qp,qu,Bool.and_self,cond_true,qd2,Option.map_some]
 tot a b _ _:=by
  by_cases h:qZ (qaY t.2.2.1 b) (qaY t.2.2.1 a)<0
  ·right; intro h2; exact qm2 _ (qg2 _ _ _ h h2)
  ·exact .inl h
 trans a b c _ _ _ h1 h2 h3:=by
  by_cases e:qZ (qaY t.2.2.1 b) (qaY t.2.2.1 a)<0
  ·exact h1 e
  ·by_cases e2:qZ (qaY t.2.2.1 a) (qaY t.2.2.1 b)<0
   ·exact h2 (qg2 _ _ _ h3 e2)
   ·rw [cmp_eq e2 e] at h3; exact h2 h3
theorem qqb (N:Nat) (xs:List qam) (h:xs.length≤1099511627776):qa3 N (xs,())=some ((xs,()),()):=qpI xs 24 (by omega)
theorem qqH (N:Nat) (t:qf) (R P:List qam) (hk:t.2.2.1.length<N) (hB:N≤1099511627776) (hl:2 * R.length+100<N) (hp:R.Perm P) (hs:qew t.2.2.1 P):qcu N (t,(R,()))=some ((P,()),()):=by
 obtain ⟨out,o1,o2,o3⟩:=qsi ([]:qam) (cmpS N t hk hB) (xs:=R) (by omega) hl (fun _ _=>trivial)
 have e:out=P:=qm1 (o2.trans hp) (List.pairwise_iff_getElem.2 fun i j hi hj hij=>by
  have h:=o3 i j (by omega) (by omega) (by rw [←o2.length_eq]; omega)
  rw [qD _ hi,qD _ hj] at h
  exact h) hs
 subst e
 have o1':qbh N (R,((fun x2=>(qkf (fun y3:((Int×Unit)×Unit)=>(y3.1.1,())) (qbJ N (x2.1,(x2.2.1,(t,())))))),()))=some ((),(out,())):=o1
 simp only [qcu,qqb N R (by omega),qK,qp,qu,cond_true,o1']
abbrev RMap:Type:=List (List UInt8×List qam)
def qvj (rels:List qcg):Nat→RMap
 |0=>[]
 |n+1=>match rels[n]? with
  |none=>qvj rels n
  |some r=>qlW (qvj rels n) r.1 r.2.1
def qwd (t:qf) (c:qbV) (R:List qam):List qam:=if c.1=1 then qiU t.2.2.1 (qlk t c) R++[c.2.2.2.1] else qiU t.2.2.1 (qlk t c) R
def mA (s:qj) (inst:List qcg) (cs:List qbV):Nat→RMap
 |0=>qvj inst inst.length
 |n+1=>match cs[n]? with
  |none=>mA s inst cs n
  |some c=>if qfK s c (stA s inst cs n)=none then qlW (mA s inst cs n) c.2.1 (qwd (qca s c.2.1) c (qf7 (mA s inst cs n) c.2.1 [])) else mA s inst cs n
def RelM (s:qj) (rels:List qcg) (M:RMap):Prop:=∀i (hi:i<s.1.length),(qf7 M (s.1[i]).1 []).Perm (qdl rels i)
theorem qrl {s:qj} (hv:qhV s) {i j:Nat} (hi:i<s.1.length) (hj:j<s.1.length) (h:i≠j):(s.1[i]).1≠(s.1[j]).1:=fun e=>by
 rcases Nat.lt_or_gt_of_ne h with q|q
 ·have:=List.pairwise_iff_getElem.1 hv.names i j hi hj q
  rw [e,qqd] at this; cases this
 ·have:=List.pairwise_iff_getElem.1 hv.names j i hj hi q
  rw [e,qqd] at this; cases this
theorem qrN {s:qj} {rels:List qcg} (hv:qhV s) (hC:qnr s rels):(n:Nat)→n≤rels.length→∀i (hi:i<s.1.length),i<n→qf7 (qvj rels n) (s.1[i]).1 []=qdl rels i
 |0,_,_,_,h=>by omega
 |n+1,hn,i,hi,h=>by
  have hnr:n<rels.length:=by omega
  have hns:n<s.1.length:=by rw [←hC.len]; exact hnr
  simp only [qvj,List.getElem?_eq_getElem hnr]
  rw [qky,hC.name n hnr hns]
  by_cases e:n=i
  ·subst e
   rw [if_pos rfl,qcR hnr]
  ·rw [if_neg (qrl hv hns hi e)]
   exact qrN hv hC n (by omega) i hi (by omega)
theorem qrp {t:qf} {c:qbV} {P R:List qam} (hp:R.Perm P) (hs:qew t.2.2.1 P):(qwd t c R).Perm (qpj t c P):=by
 unfold qwd qpj qlk
 by_cases q:c.1=1
 ·rw [if_pos q,if_pos q,if_pos q]
  exact ((hp.filter _).append_right _).trans (qpW hs).symm
 ·rw [if_neg q,if_neg q,if_neg q]
  exact hp.filter _
theorem qua {s:qj} {inst:List qcg} {cs:List qbV} (hv:qhV s) (hC:qnr s inst):(n:Nat)→RelM s (stA s inst cs n) (mA s inst cs n)
 |0=>fun i hi=>by
  simp only [mA,stA]
  rw [qrN hv hC inst.length (Nat.le_refl _) i hi (by rw [hC.len]; exact hi)]
 |n+1=>by
  have ih:=qua (cs:=cs) hv hC n
  have hCn:=qfX (cs:=cs) hC n
  intro i hi
  simp only [mA,stA]
  cases hc:cs[n]? with
  |none=>exact ih i hi
  |some c=>
   simp only
   by_cases hcode:qfK s c (stA s inst cs n)=none
   ·rw [if_pos hcode,if_pos hcode]
    have hv0:qnE s c=0:=by
     unfold qfK at hcode
     split at hcode
     ·cases hcode
     ·rename_i h; simpa using h
    obtain ⟨hi2,e1,e2,e3,e4⟩:=qnK hv0
    have hir:ixT s c<(stA s inst cs n).length:=by rw [hCn.len]; exact hi2
    have hjr:i<(stA s inst cs n).length:=by rw [hCn.len]; exact hi
    have hok:=hCn.ok _ hir hi2
    rw [e1,←qcR hir] at hok
    rw [qky]
    rw [qcR (by rw [qga,qiO]; exact hjr)]
    simp only [qga,qov _ hir hjr]
    by_cases q:ixT s c=i
    ·subst q
     rw [if_pos (by rw [e1,e4]),if_pos rfl]
     have h2:=ih _ hi2
     rw [e1,e4] at h2
     exact qrp h2 hok.2.2
    ·rw [if_neg q,if_neg (fun e=>qrl hv hi2 hi q (by rw [e1,e4]; exact e))]
     have:=ih i hi
     rwa [qcR hjr] at this
   ·rw [if_neg hcode,if_neg hcode]
    exact ih i hi
theorem qvT {l P:List qam} (h:l.Perm P) (q:qam→Bool):l.any q=P.any q:=by
 rw [Bool.eq_iff_iff,List.any_eq_true,List.any_eq_true]
 exact ⟨fun ⟨x,hx,hq⟩=>⟨x,h.mem_iff.1 hx,hq⟩,fun ⟨x,hx,hq⟩=>⟨x,h.mem_iff.2 hx,hq⟩⟩
theorem qt7 (N:Nat) (s:qj) (inst:List qcg) (cs:List qbV) (h:qmU N s inst cs) (hid:∀f∈s.2.1,(fkC f).length≤1099511627776):qbf N (s,(inst,(cs,())))=some ((qnh s inst cs,(qlh s inst cs,())),()):=by
 have hB:=h.hB
 have hB':N≤1099511627776:=by omega
 have hcn:=h.cc.n
 have hmm:=h.hN
 simp only [qbf,qK,qo9 N s h.ss hid,qnO N s inst h.ss h.ri,qp,qu,cond_true,qmq]
 by_cases h0:qkN s≠0
 ·have e1:qlh s inst cs=qkN s:=by unfold qlh; rw [if_pos h0]
  have e2:qnh s inst cs=[]:=by unfold qnh; rw [e1,if_neg h0]
  rw [e1,e2,neT h0]; rfl
 rw [neF (by omega:qkN s=0),cond_false]
 by_cases h1:qeo s inst≠0
 ·have e1:qlh s inst cs=qeo s inst:=by unfold qlh; rw [if_neg h0,if_pos h1]
  have e2:qnh s inst cs=[]:=by unfold qnh; rw [e1,if_neg h1]
  rw [e1,e2,neT h1]; rfl
 rw [neF (by omega:qeo s inst=0),cond_false]
 by_cases h2:24<cs.length
 ·have e1:qlh s inst cs=2:=by unfold qlh; rw [if_neg h0,if_neg h1,if_pos h2]
  have e2:qnh s inst cs=[]:=by unfold qnh; rw [e1]; rfl
  rw [e1,e2,decide_eq_true h2]; rfl
 rw [decide_eq_false h2,cond_false]
 have hv:=qfm (s:=s) (by omega)
 have hk:=qig hv.tabs
 have hC:=qme (s:=s) (rels:=inst) (by omega)
 have hst:=h.ss.sm.t
 refine qc0 (S:=RMap×(Int×Unit)) (fun i=>(qvj inst i,((i:Int),()))) inst.length _ rfl (fun i hi ih=> ?_) (fun ih=> ?_) h.ri.n
 ·have e1:qvj inst (i+1)=qlW (qvj inst i) (inst[i]).1 (inst[i]).2.1:=by simp only [qvj,List.getElem?_eq_getElem hi]
  rw [e1]
  have hrn:=h.ri.n
  simp only [qav hi,qC hi,cond_true,qD _ hi,qO (show i<4611686018427387904 by omega)]
 simp only
 rw [qE (qac (Nat.lt_irrefl _))]
 refine (qW (S:=RMap×(Int×Unit)) (fun i=>(mA s inst cs i,((i:Int),()))) cs.length (cdA s inst cs) (fun e=>some ((([]:List qcg),(e,())),())) (some ((stA s inst cs cs.length,(0,())),())) rfl (fun i hi hf ih=> ?_) (fun _ ih=> ?_) (by omega)).trans ?_
 ·have hm:=List.getElem_mem hi
  have hCi:=qfX (cs:=cs) hC i
  have hRi:=h.rsm hC i
  have hrel:=qua (cs:=cs) hv hC i
  have hfrom:=ql2 (s:=s) (cs:=cs) hC i
  have e1:mA s inst cs (i+1)=if qfK s cs[i] (stA s inst cs i)=none then qlW (mA s inst cs i) (cs[i]).2.1 (qwd (qca s (cs[i]).2.1) cs[i] (qf7 (mA s inst cs i) (cs[i]).2.1 [])) else mA s inst cs i:=by
   simp only [mA,List.getElem?_eq_getElem hi]
  rw [e1,qpg hi]
  have hcr:=h.cc.row _ hm
  have hce:=h.cc.et _ hm
  simp only [qav hi,qC hi,cond_true,qD _ hi,qO (show i<4611686018427387904 by omega),qtr N s _ h.ss hk (h.cc.key _ hm) (h.cc.row _ hm),qp,qu]
  generalize cs[i]=c at *
  unfold qfK
  by_cases hv0:qnE s c≠0
  ·rw [if_pos hv0,neT hv0]; rfl
  have hv1:qnE s c=0:=by omega
  rw [if_neg hv0,neF hv1,cond_false]
  obtain ⟨hi2,e1,e2,e3,e4⟩:=qnK hv1
  have hir:ixT s c<(stA s inst cs i).length:=by rw [hCi.len]; exact hi2
  have ht:=h.ss.tab (qcs e2)
  have htm:=qcs e2
  have hok:=hCi.ok _ hir hi2
  rw [e1,←qcR hir] at hok
  have hp:=hrel _ hi2
  rw [e1,e4] at hp
  have etg:tgtS s c=qlk (qca s c.2.1) c:=rfl
  have hRl:(qf7 (mA s inst cs i) c.2.1 ([]:List qam)).length≤24:=by rw [hp.length_eq]; exact hok.1
  have hRe:∀r∈qf7 (mA s inst cs i) c.2.1 ([]:List qam),(qe0 (qaY (qca s c.2.1).2.2.1 r)).length≤1099511627776:=fun r hr=>by
   have hr2:=hp.mem_iff.1 hr
   rw [qcR hir] at hr2
   exact (h.row (hfrom _ (List.getElem_mem hir) r hr2)).2.2 _ htm
  have hany:=qvT hp (fun r=>decide (qaY (qca s c.2.1).2.2.1 r=qlk (qca s c.2.1) c))
  have hlen:=hp.length_eq
  have hnp:=(qrp (c:=c) hp hok.2.2).length_eq
  generalize qf7 (mA s inst cs i) c.2.1 ([]:List qam)=R at *
  generalize qdl (stA s inst cs i) (ixT s c)=P at *
  have af:=qqB N s c h.ss e2
  rw [etg] at af
  have en:=qpS N _ (hce _ htm)
  have df:qaM N (R,((fun x8=>(qkf (fun y9:((Bool×Unit)×Unit)=>(y9.1.1,())) (qbq N (x8.1,(some (qca s c.2.1),(qe0 (qlk (qca s c.2.1) c),())))))),()))=some ((qiU (qca s c.2.1).2.2.1 (qlk (qca s c.2.1) c) R,()),()):=
   qoi N R _ (fun r=>decide (qaY (qca s c.2.1).2.2.1 r=qlk (qca s c.2.1) c)) (fun a ha=>by
    simp only [qbq,qp,qu,qiX N _ _ ht.k hB',qpS N _ (hRe a ha),Bool.and_self,cond_true,qd2,Option.map_some,qxd]) (by omega) hB
  have hol:(qiU (qca s c.2.1).2.2.1 (qlk (qca s c.2.1) c) R).length≤R.length:=List.length_filter_le _ _
  have hlk:=qvO (pk:=(qca s c.2.1).2.2.1) (k:=qlk (qca s c.2.1) c) (rows:=R)
  have rm:qcq (qr (qiU (qca s c.2.1).2.2.1 (qlk (qca s c.2.1) c) R)) (qr ([c.2.2.2.1]:List qam)) 24=true:=qc4 (by simp only [List.length_cons,List.length_nil]; omega)
  simp only [qfu N s c.2.1 hst hB',e2,af,en,qqb N R (by omega),df,qp,qu,cond_true,Bool.and_self,rm]
  unfold qoJ
  rcases qoo hv1 with q|q
  ·have q2:¬c.1=2:=by omega
   simp only [q,eqT (rfl:(1:Int)=1),eqF (show ¬(1:Int)=2 by omega),Bool.false_and,cond_false,cond_true,if_true,qbv,qmq]
   have e5:qwd (qca s c.2.1) c R=qiU (qca s c.2.1).2.2.1 (qlk (qca s c.2.1) c) R++[c.2.2.2.1]:=by unfold qwd; rw [if_pos q]
   rw [e5] at hnp⊢
   rw [hnp]
   by_cases h24:24<(qpj (qca s c.2.1) c P).length
   ·simp only [h24,decide_true,cond_true,if_true]
   ·simp only [h24,decide_false,cond_false,if_false,if_true]
  ·have q2:¬c.1=1:=by omega
   have e5:qwd (qca s c.2.1) c R=qiU (qca s c.2.1).2.2.1 (qlk (qca s c.2.1) c) R:=by unfold qwd; rw [if_neg q2]
   have etk:qlk (qca s c.2.1) c=c.2.2.1:=by unfold qlk; rw [if_neg q2]
   have hle:eqI (qr (qiU (qca s c.2.1).2.2.1 (qlk (qca s c.2.1) c) R)) (qr R)= !(P.any (fun r=>decide (qaY (qca s c.2.1).2.2.1 r=c.2.2.1))):=by
    rw [qaC,qt,qt,←etk,←hany]
    cases ha:R.any (fun r=>decide (qaY (qca s c.2.1).2.2.1 r=qlk (qca s c.2.1) c)) with
    |true=>
     refine decide_eq_false fun e=> ?_
     have:=hlk.1 (by omega)
     rw [ha] at this; cases this
    |false=>
     refine decide_eq_true ?_
     have:=hlk.2 ha
     omega
   have h24:¬24<(qiU (qca s c.2.1).2.2.1 (qlk (qca s c.2.1) c) R).length:=by omega
   rw [e5,hle]
   simp only [q,eqT (rfl:(2:Int)=2),eqF (show ¬(2:Int)=1 by omega),Bool.true_and,cond_false,cond_true,qmq,h24,decide_false,show ¬(2:Int)=1 by omega,if_false]
   cases P.any (fun r=>decide (qaY (qca s c.2.1).2.2.1 r=c.2.2.1)) with
   |true=>simp only [Bool.not_true,cond_false,if_true]
   |false=>simp only [Bool.not_false,cond_true,Bool.false_eq_true,if_false]
 ·simp only
  rw [qE (qac (Nat.lt_irrefl _))]
  have hCi:=qfX (cs:=cs) hC cs.length
  have hrel:=qua (cs:=cs) hv hC cs.length
  generalize mA s inst cs cs.length=M at *
  generalize stA s inst cs cs.length=A at *
  simp only [qp8 N s h.ss,qp,qu,cond_true]
  have hel:(qhF s).length=s.1.length:=by unfold qhF; rw [List.length_map]
  refine qc0 (S:=RMap×(List qcg×(Int×Unit))) (fun i=>(M,(A.take i++(qhF s).drop i,((i:Int),())))) s.1.length _ (by simp) (fun i hi ih=> ?_) (fun ih=> ?_) hst
  ·have hia:i<A.length:=by rw [hCi.len]; exact hi
   have hok:=hCi.ok i hia hi
   have hp:=hrel i hi
   rw [qcR hia] at hp
   have ht:=h.ss.tab (List.getElem_mem hi)
   have hsr:=qqH N s.1[i] (qf7 M (s.1[i]).1 []) (A[i]).2.1 ht.k hB' (by rw [hp.length_eq]; have:=hok.1; omega) hp hok.2.2
   have hl:i<(A.take i++(qhF s).drop i).length:=by rw [List.length_append,List.length_take,List.length_drop]; omega
   have hg:(A.take i++(qhF s).drop i)[i]=((s.1[i]).1,(([]:List qam),())):=by
    rw [List.getElem_append_right (by rw [List.length_take]; omega)]
    simp [qhF,List.length_take,Nat.min_eq_left (Nat.le_of_lt hia)]
   have hset:(A.take i++(qhF s).drop i).set i ((s.1[i]).1,((A[i]).2.1,()))=A.take (i+1)++(qhF s).drop (i+1):=by
    rw [List.set_append_right _ _ (by rw [List.length_take]; omega),List.length_take,Nat.min_eq_left (Nat.le_of_lt hia),Nat.sub_self,List.drop_eq_getElem_cons (show i<(qhF s).length by omega),List.set_cons_zero,qbi hia,List.append_assoc]
    have e6:A[i]=((s.1[i]).1,((A[i]).2.1,())):=by
     have:=hCi.name i hia hi
     rw [←this]
    rw [←e6]; rfl
   simp only [qav hi,qC hi,cond_true,qD _ hi,hsr,qC hl,qD _ hl,hg,qp,qu,Bool.and_self,qbm,Int.toNat_natCast,hset,qO (show i<4611686018427387904 by omega)]
  ·simp only
   rw [qE (qac (Nat.lt_irrefl _))]
   have e7:A.take s.1.length++(qhF s).drop s.1.length=A:=by
    rw [←hCi.len,List.take_length,List.drop_eq_nil_of_le (by rw [hel,hCi.len]; exact Nat.le_refl _),List.append_nil]
   rw [e7]
 ·rcases qgV s inst cs (by omega) (by omega) h2 with ⟨f1,f2,f3⟩|⟨e,f1,f2,_,f3⟩
  ·rw [f1,f2,f3]
  ·rw [f1,f2,f3]
end
end Go.Proofs.YtnlkfgdojfijpaaGreatDoor
namespace Go.Proofs.YtnlkfgdojfijpaaGreatDoor
open Go.Vi
noncomputable section
abbrev DOp:Type:=Int×(qa×Unit)
abbrev qo3:Type:=Int×(List UInt8×(List DOp×Unit))
abbrev qh4:Type:=Int×(List UInt8×(List qo3×Unit))
abbrev opD:DOp:=(0,((0,(0,(([]:List UInt8),()))),()))
abbrev qfa:qi:=(([]:List UInt8),(0,(false,())))
theorem qhp (N:Nat) (s:qj) (n:List UInt8) (hN:s.1.length<N) (hB:N≤1099511627776):qaE N (s,(n,()))=some ((qif (qcE n) s.1,()),()):=by
 simp only [qaE]
 refine (qW (S:=Int×Unit) (fun i=>((i:Int),())) s.1.length (atE (qcE n) s.1) (fun i=>some (((i:Int),()),())) (some ((-1,()),())) rfl (fun i hi _ ih=> ?_) (fun _ ih=> ?_) hN).trans ?_
 ·simp only
  rw [qJ (qav hi),qC hi,qD _ hi,qO (by omega),qbs]
  simp only [atE,List.getElem?_eq_getElem hi,qcE,cond_true,decide_eq_true_eq]
  by_cases hq:(s.1[i]).1=n <;> simp [hq]
 ·simp only
  rw [qE (qac (Nat.lt_irrefl _))]
 ·rw [qif,qh6]
  cases qR (atE (qcE n) s.1) s.1.length <;> rfl
def vOp (t:qf) (o:DOp) (col:qi) (nb:Bool):Int:=
 if o.1= -1 then (if qjF o.2.1≠0 then qjF o.2.1 else if o.2.1.1≠col.2.1∧(o.2.1.1≠0∨nb=false) then 7 else 0)
 else if o.1<0∨(t.2.1.length:Int)≤o.1∨qhU o.2.1=false then 1
 else if (qk t.2.1 o.1 qfa).2.1≠col.2.1∨((qk t.2.1 o.1 qfa).2.2.1=true∧nb=false) then 7 else 0
theorem quY (N:Nat) (t:qf) (o:DOp) (col:qi) (nb:Bool):qaj N (t,(o,(col,(nb,()))))=some ((vOp t o col nb,()),()):=by
 simp only [qaj,qK,qkl,qp,qu]
 unfold vOp
 by_cases h1:o.1= -1
 ·rw [eqT h1,cond_true,cond_true,if_pos h1]
  by_cases h2:qjF o.2.1=0
  ·rw [neF h2,cond_false,if_neg (by omega)]
   simp only [qan]
   by_cases h3:o.2.1.1=col.2.1 <;> by_cases h4:o.2.1.1=0 <;> cases nb <;> grind
  ·rw [neT h2,cond_true,if_pos h2]
 ·rw [eqF h1,cond_false,if_neg h1]
  have ez:(eqI o.2.1.1 0&&(eqI o.2.1.2.1 0&&eqS o.2.1.2.2.1 ([]:List UInt8)))=qhU o.2.1:=by
   simp only [qaC,qbs,qhU]
  rw [ez]
  by_cases h2:o.1<0∨(t.2.1.length:Int)≤o.1∨qhU o.2.1=false
  ·rw [if_pos h2]
   have:((ltI o.1 0||leI (qr t.2.1) o.1)|| !(qhU o.2.1))=true:=by
    simp only [qaF,qcO,qt,Bool.or_eq_true,decide_eq_true_eq,Bool.not_eq_true']
    rcases h2 with h|h|h
    ·exact .inl (.inl h)
    ·exact .inl (.inr h)
    ·exact .inr h
   rw [this,cond_true]
  ·rw [if_neg h2]
   simp only [not_or,Int.not_lt,Int.not_le,Bool.not_eq_false] at h2
   have:((ltI o.1 0||leI (qr t.2.1) o.1)|| !(qhU o.2.1))=false:=by
    simp only [qaF,qcO,qt,h2.2.2,Bool.not_true,Bool.or_false,Bool.or_eq_false_iff,decide_eq_false_iff_not]
    omega
   rw [this,cond_false]
   have hin:inB o.1 (qr t.2.1)=true:=by rw [qdj,qt]; exact decide_eq_true ⟨by omega,by omega⟩
   rw [hin,cond_true]
   generalize qk t.2.1 o.1 qfa=w
   simp only [qan]
   cases nb <;> cases hw:w.2.2.1 <;> by_cases h3:w.2.1=col.2.1 <;> simp [h3]
def qcx (t2:qf) (k:Int):List qi:=if k=2 then t2.2.2.1.map (fun c=>qk t2.2.1 c qfa) else t2.2.1
def opE (t:qf) (a:qo3) (cols:List qi) (i:Nat):Option Int:=match a.2.2.1[i]? with
 |none=>none
 |some o=>if vOp t o (qk cols (i:Int) qfa) (decide (a.1=1)&&(qk cols (i:Int) qfa).2.2.1)≠0 then some (vOp t o (qk cols (i:Int) qfa) (decide (a.1=1)&&(qk cols (i:Int) qfa).2.2.1)) else none
def qsw (s:qj) (t:qf) (a:qo3):Int:=if a.1≠1∧a.1≠2 then 3 else match qeu s a.2.1 with
 |none=>4
 |some t2=>if a.2.2.1.length≠(qcx t2 a.1).length then 7 else match qR (opE t a (qcx t2 a.1)) a.2.2.1.length with
  |some e=>e
  |none=>0
theorem qwh (N:Nat) (t:qf) (a:qo3) (cols:List qi) (hl:a.2.2.1.length=cols.length) (hN:a.2.2.1.length<N) (hB:N≤1099511627776):
  (qad (S:=(Int×Unit)) (R:=((Int×Unit)×Unit)) N (fun ih5=>(fun p6=>(bif (ltI p6.1 (qr a.2.2.1)) then (bif (inB p6.1 (qr a.2.2.1)) then (bif ((inB p6.1 (qr cols))&&(((!(eqI a.1 1))||(inB p6.1 (qr cols)))&&(qB (qaj N (t,((qk a.2.2.1 p6.1 opD),((qk cols p6.1 qfa),(((eqI a.1 1)&&(qk cols p6.1 qfa).2.2.1),())))))))) then (q7 (qx (qaj N (t,((qk a.2.2.1 p6.1 opD),((qk cols p6.1 qfa),(((eqI a.1 1)&&(qk cols p6.1 qfa).2.2.1),()))))) ((0,()),())).1.1 (fun y7=>(bif (neI y7 0) then (some ((y7,()),())) else (ih5 ((qax .i64 p6.1 1),()))))) else none) else none) else (some ((0,()),()))))) (0,()))
  =match qR (opE t a cols) a.2.2.1.length with
   |some e=>some ((e,()),())
   |none=>some ((0,()),()):=by
 refine (qW (S:=Int×Unit) (fun i=>((i:Int),())) a.2.2.1.length (opE t a cols) (fun e=>some ((e,()),())) (some ((0,()),())) rfl (fun i hi _ ih=> ?_) (fun _ ih=> ?_) hN).trans ?_
 ·simp only [qav hi,qC hi,qC (show i<cols.length by omega),cond_true,qK,quY,qp,qu,Bool.or_true,Bool.and_self,qD _ hi,qD _ (show i<cols.length by omega),qO (show i<4611686018427387904 by omega),qaC]
  simp only [opE,List.getElem?_eq_getElem hi,qD _ (show i<cols.length by omega)]
  generalize vOp t a.2.2.1[i] cols[i] (decide (a.1=1)&&(cols[i]).2.2.1)=e
  by_cases h:e=0
  ·rw [neF h,cond_false,if_neg (by omega)]
  ·rw [neT h,cond_true,if_pos h]
 ·simp only
  rw [qE (qac (Nat.lt_irrefl _))]
 ·cases qR (opE t a cols) a.2.2.1.length <;> rfl
theorem qv9 (N:Nat) (t2:qf) (hk:∀k∈t2.2.2.1,0≤k∧k<(t2.2.1.length:Int)) (hN:t2.2.2.1.length<N) (hB:N≤1099511627776) (K:List qi→Option ((Int×Unit)×Unit)):
  (qad (S:=((List qi)×(Int×Unit))) (R:=((Int×Unit)×Unit)) N (fun ih3=>(fun p4=>(bif (ltI p4.2.1 (qr t2.2.2.1)) then (bif (inB p4.2.1 (qr t2.2.2.1)) then (bif ((inB (qk t2.2.2.1 p4.2.1 0) (qr t2.2.1))&&(qcq (qr p4.1) (qr ([(qk t2.2.1 (qk t2.2.2.1 p4.2.1 0) qfa)]:List qi)) 32)) then (ih3 ((qem p4.1 ([(qk t2.2.1 (qk t2.2.2.1 p4.2.1 0) qfa)]:List qi)),((qax .i64 p4.2.1 1),()))) else none) else none) else K p4.1))) (([]:List qi),(0,())))=K (t2.2.2.1.map (fun c=>qk t2.2.1 c qfa)):=by
 refine qc0 (S:=(List qi)×(Int×Unit)) (fun i=>((t2.2.2.1.take i).map (fun c=>qk t2.2.1 c qfa),((i:Int),()))) t2.2.2.1.length _ (by simp) (fun i hi ih=> ?_) (fun ih=> ?_) hN
 ·obtain ⟨k1,k2⟩:=hk _ (List.getElem_mem hi)
  have hin:inB t2.2.2.1[i] (qr t2.2.1)=true:=by rw [qdj,qt]; exact decide_eq_true ⟨k1,k2⟩
  have rm:qcq (qr ((t2.2.2.1.take i).map (fun c=>qk t2.2.1 c qfa))) (qr ([(qk t2.2.1 t2.2.2.1[i] qfa)]:List qi)) 32=true:=qc4 (by
   simp only [List.length_map,List.length_take,List.length_cons,List.length_nil]; omega)
  simp only [qav hi,qC hi,cond_true,qD _ hi,hin,rm,Bool.and_self,qbv,qO (show i<4611686018427387904 by omega),qbi hi,List.map_append,List.map_cons,List.map_nil]
 ·simp only
  rw [qE (qac (Nat.lt_irrefl _)),List.take_length]
theorem qud (N:Nat) (s:qj) (t:qf) (a:qo3) (hs:qcU N s) (hk:qnG s) (ha:a.2.2.1.length<N):qcf N (s,(t,(a,())))=some ((qsw s t a,()),()):=by
 have hB:N≤1099511627776:=hs.sm.n
 simp only [qcf,qK,qc2 N s a.2.1 hs.sm.t hB,qp,qu,qsw]
 by_cases h1:a.1≠1∧a.1≠2
 ·rw [neT h1.1,neT h1.2,if_pos h1]; rfl
 ·have e1:(neI a.1 1&&neI a.1 2)=false:=by
   rw [qan,qan]
   by_cases q:a.1=1
   ·simp [q]
   ·by_cases q2:a.1=2
    ·simp [q2]
    ·exact absurd ⟨q,q2⟩ h1
  rw [e1,cond_false,if_neg h1]
  rcases qc7 s a.2.1 with ⟨i1,i2⟩|⟨i,t2,i1,i2,i3,i4⟩
  ·simp only [i1,i2]; rfl
  ·simp only [i1,i2,Option.isSome_some,Bool.not_true,cond_false,cond_true,Option.getD_some,qC i3,i4]
   have ht2:=qcs i2
   have htk:=hk t2 ht2
   have hN2:=(hs.tab ht2).k
   by_cases q:a.1=2
   ·rw [eqT q,cond_true]
    have:=qv9 N t2 htk hN2 hB (fun cols=>(bif (neI (qr a.2.2.1) (qr cols)) then (some ((7,()),())) else (qad (S:=(Int×Unit)) (R:=((Int×Unit)×Unit)) N (fun ih5=>(fun p6=>(bif (ltI p6.1 (qr a.2.2.1)) then (bif (inB p6.1 (qr a.2.2.1)) then (bif ((inB p6.1 (qr cols))&&(((!(eqI a.1 1))||(inB p6.1 (qr cols)))&&(qB (qaj N (t,((qk a.2.2.1 p6.1 opD),((qk cols p6.1 qfa),(((eqI a.1 1)&&(qk cols p6.1 qfa).2.2.1),())))))))) then (q7 (qx (qaj N (t,((qk a.2.2.1 p6.1 opD),((qk cols p6.1 qfa),(((eqI a.1 1)&&(qk cols p6.1 qfa).2.2.1),()))))) ((0,()),())).1.1 (fun y7=>(bif (neI y7 0) then (some ((y7,()),())) else (ih5 ((qax .i64 p6.1 1),()))))) else none) else none) else (some ((0,()),()))))) (0,()))))
    simp only [qK] at this
    rw [this]
    have ec:qcx t2 a.1=t2.2.2.1.map (fun c=>qk t2.2.1 c qfa):=by unfold qcx; rw [if_pos q]
    rw [←ec,qdQ]
    by_cases hl:a.2.2.1.length=(qcx t2 a.1).length
    ·rw [decide_eq_false (by simpa using hl),cond_false,if_neg (by simpa using hl)]
     have:=qwh N t a (qcx t2 a.1) hl ha hB
     simp only [qK] at this
     rw [this]
     cases qR (opE t a (qcx t2 a.1)) a.2.2.1.length <;> rfl
    ·rw [decide_eq_true hl,cond_true,if_pos hl]
   ·rw [eqF q,cond_false]
    have ec:qcx t2 a.1=t2.2.1:=by unfold qcx; rw [if_neg q]
    rw [ec,qdQ]
    by_cases hl:a.2.2.1.length=t2.2.1.length
    ·rw [decide_eq_false (by simpa using hl),cond_false,if_neg (by simpa using hl)]
     have:=qwh N t a t2.2.1 hl ha hB
     simp only [qK] at this
     rw [this]
     cases qR (opE t a t2.2.1) a.2.2.1.length <;> rfl
    ·rw [decide_eq_true hl,cond_true,if_pos hl]
theorem qkR: {l m:List Int} →l.Pairwise (· < ·)→m.Pairwise (· < ·)→(∀x,x∈l↔x∈m)→l=m
 |[],[],_,_,_=>rfl
 |[],b::m,_,_,h=>by have:=(h b).2 List.mem_cons_self; cases this
 |a::l,[],_,_,h=>by have:=(h a).1 List.mem_cons_self; cases this
 |a::l,b::m,h1,h2,h=>by
  have p1:=List.pairwise_cons.1 h1
  have p2:=List.pairwise_cons.1 h2
  have e:a=b:=by
   rcases List.mem_cons.1 ((h a).1 List.mem_cons_self) with e|e
   ·exact e
   ·rcases List.mem_cons.1 ((h b).2 List.mem_cons_self) with e'|e'
    ·exact e'.symm
    ·have:=p1.1 _ e'
     have:=p2.1 _ e
     omega
  subst e
  rw [qkR p1.2 p2.2 fun x=> ?_]
  constructor
  ·intro hx
   rcases List.mem_cons.1 ((h x).1 (List.mem_cons_of_mem _ hx)) with e|e
   ·have:=p1.1 _ hx; omega
   ·exact e
  ·intro hx
   rcases List.mem_cons.1 ((h x).2 (List.mem_cons_of_mem _ hx)) with e|e
   ·have:=p2.1 _ hx; omega
   ·exact e
def kIx (kind:Int) (pk:List Int) (n:Nat):List Nat:=(List.range n).filter (fun k=>decide (kind=1)||pk.any (fun x=>decide (x=(k:Int))))
theorem qu2 (kind:Int) (pk:List Int) (n:Nat):kIx kind pk (n+1)=kIx kind pk n++(if (decide (kind=1)||pk.any (fun x=>decide (x=(n:Int))))=true then [n] else []):=by
 unfold kIx
 rw [List.range_succ,List.filter_append]
 congr 1
 cases h:(decide (kind=1)||pk.any (fun x=>decide (x=(n:Int)))) <;> simp [h]
theorem qux (kind:Int) (pk:List Int) (n:Nat):(kIx kind pk n).length≤n:=by
 unfold kIx
 exact Nat.le_trans (List.length_filter_le _ _) (by simp)
theorem qfy {t:qf} (h:qnT t=0):(∀k∈t.2.2.1,0≤k∧k<(t.2.1.length:Int))∧t.2.2.1.Pairwise (· < ·)∧t.2.2.1≠[]∧t.2.1.length≤6∧t.2.1≠[]:=by
 unfold qnT at h
 split at h
 ·cases h
 split at h
 ·cases h
 rename_i hne
 split at h
 ·cases h
 rename_i h6
 split at h
 ·rename_i e he
  obtain ⟨i,_,h2,_⟩:=qbb he
  subst h
  simp only [qvz] at h2
  split at h2
  ·cases h2
  ·split at h2
   ·cases h2
   ·split at h2
    ·cases h2
    ·split at h2 <;> cases h2
 split at h
 ·rename_i e he
  obtain ⟨i,_,h2,_⟩:=qbb he
  subst h
  simp only [pkE] at h2
  split at h2
  ·cases h2
  ·split at h2 <;> cases h2
 rename_i hk
 have at_:∀i (hi:i<t.2.2.1.length),0≤t.2.2.1[i]∧t.2.2.1[i]<(t.2.1.length:Int)∧(0<i→t.2.2.1.getD (i - 1) 0<t.2.2.1[i]):=fun i hi=>by
  have:=qaq hk i hi
  simp only [pkE,List.getElem?_eq_getElem hi] at this
  split at this
  ·cases this
  ·rename_i h2
   simp only [not_or,Int.not_lt,Int.not_le,not_and] at h2
   exact ⟨h2.1,h2.2.1,h2.2.2.2⟩
 have asc:∀j i (hj:j<t.2.2.1.length) (hi:i<j),t.2.2.1[i]'(by omega)<t.2.2.1[j]:=fun j=>by
  induction j with
  |zero=>intro i hj hi; omega
  |succ j ih=>
   intro i hj hi
   have h1:=(at_ (j+1) hj).2.2 (by omega)
   have h2:t.2.2.1.getD (j+1 - 1) 0=t.2.2.1[j]'(by omega):=by
    rw [Nat.add_sub_cancel,List.getD_eq_getElem?_getD,List.getElem?_eq_getElem (by omega)]; rfl
   rw [h2] at h1
   rcases Nat.lt_or_ge i j with q|q
   ·have:=ih i (by omega) q
    omega
   ·have:i=j:=by omega
    subst this
    exact h1
 split at h
 ·cases h
 rename_i hpk
 refine ⟨fun k hm=> ?_,List.pairwise_iff_getElem.2 fun i j hi hj hij=>asc j i hj hij,fun e=>hpk (by rw [e]; rfl),by omega,fun e=>hne (by rw [e]; rfl)⟩
 obtain ⟨i,hi,rfl⟩:=List.getElem_of_mem hm
 exact ⟨(at_ i hi).1,(at_ i hi).2.1⟩
theorem qu5 {t:qf} (h:qnT t=0) {kind:Int} (hk:kind=1∨kind=2):(kIx kind t.2.2.1 t.2.1.length).map (fun k=>qk t.2.1 ((k:Nat):Int) qfa)=qcx t kind:=by
 obtain ⟨h1,h2,_⟩:=qfy h
 rcases hk with rfl|rfl
 ·unfold kIx qcx
  rw [if_neg (by omega)]
  simp only [decide_true,Bool.true_or]
  rw [List.filter_eq_self.2 (by simp)]
  refine List.ext_getElem (by simp) fun i hi hj=> ?_
  rw [List.getElem_map,List.getElem_range,qD _ hj]
 ·unfold qcx
  rw [if_pos rfl]
  have e:(kIx 2 t.2.2.1 t.2.1.length).map (fun k:Nat=>(k:Int))=t.2.2.1:=by
   refine qkR ?_ h2 fun x=> ?_
   ·rw [List.pairwise_map]
    unfold kIx
    exact (List.pairwise_lt_range.filter _).imp fun h=>by omega
   ·simp only [kIx,List.mem_map,List.mem_filter,List.mem_range,show ¬(2:Int)=1 by omega,decide_false,Bool.false_or,List.any_eq_true,decide_eq_true_eq]
    constructor
    ·rintro ⟨k,⟨_,y,hy,rfl⟩,rfl⟩
     exact hy
    ·intro hx
     obtain ⟨q1,q2⟩:=h1 x hx
     exact ⟨x.toNat,⟨by omega,x,hx,by omega⟩,by omega⟩
  conv=>rhs; rw [←e]
  rw [List.map_map]
  rfl
theorem qwZ (N:Nat) (t2:qf) (kind:Int) (b:Bool) (hb:b=true) (hN1:t2.2.1.length<N) (hN2:t2.2.2.1.length<N) (hB:N≤1099511627776) (K:List qi→Option ((Int×Unit)×Unit)):
  (qad (S:=((List qi)×(Int×Unit))) (R:=((Int×Unit)×Unit)) N (fun ih2=>(fun p3=>(bif (ltI p3.2.1 (qr t2.2.1)) then (bif (inB p3.2.1 (qr t2.2.1)) then (bif b then (qad (S:=(Bool×(Int×Unit))) (R:=((Int×Unit)×Unit)) N (fun ih4=>(fun p5=>(bif (ltI p5.2.1 (qr t2.2.2.1)) then (bif (inB p5.2.1 (qr t2.2.2.1)) then (ih4 ((p5.1||(eqI (qk t2.2.2.1 p5.2.1 0) p3.2.1)),((qax .i64 p5.2.1 1),()))) else none) else (q7 ((eqI kind 1)||p5.1) (fun y6=>(bif (bif y6 then (qcq (qr p3.1) (qr ([(qk t2.2.1 p3.2.1 qfa)]:List qi)) 32) else true) then (ih2 ((bif y6 then (qem p3.1 ([(qk t2.2.1 p3.2.1 qfa)]:List qi)) else p3.1),((qax .i64 p3.2.1 1),()))) else none)))))) (false,(0,()))) else none) else none) else K p3.1))) (([]:List qi),(0,())))=K ((kIx kind t2.2.2.1 t2.2.1.length).map (fun k=>qk t2.2.1 ((k:Nat):Int) qfa)):=by
 subst hb
 refine qc0 (S:=(List qi)×(Int×Unit)) (fun i=>((kIx kind t2.2.2.1 i).map (fun k=>qk t2.2.1 ((k:Nat):Int) qfa),((i:Int),()))) t2.2.1.length _ (by simp [kIx]) (fun i hi ih=> ?_) (fun ih=> ?_) hN1
 ·simp only [qav hi,qC hi,cond_true]
  refine qc0 (S:=Bool×(Int×Unit)) (fun j=>((t2.2.2.1.take j).any (fun x=>decide (x=(i:Int))),((j:Int),()))) t2.2.2.1.length _ (by simp) (fun j hj ih=> ?_) (fun ih=> ?_) hN2
  ·simp only [qav hj,qC hj,cond_true,qD _ hj,qO (show j<4611686018427387904 by omega),qbi hj,List.any_append,List.any_cons,List.any_nil,Bool.or_false,qaC]
  ·simp only
   rw [qE (qac (Nat.lt_irrefl _)),List.take_length,qK,qaC,qu2]
   have rm:qcq (qr ((kIx kind t2.2.2.1 i).map (fun k=>qk t2.2.1 ((k:Nat):Int) qfa))) (qr ([(qk t2.2.1 (i:Int) qfa)]:List qi)) 32=true:=qc4 (by
    have:=qux kind t2.2.2.1 i
    simp only [List.length_map,List.length_cons,List.length_nil]; omega)
   rw [qO (show i<4611686018427387904 by omega)]
   cases (decide (kind=1)||t2.2.2.1.any (fun x=>decide (x=(i:Int)))) with
   |true=>simp only [cond_true,rm,if_true,List.map_append,List.map_cons,List.map_nil,qbv]
   |false=>simp only [cond_false,cond_true,Bool.false_eq_true,if_false,List.append_nil]
 ·simp only
  rw [qE (qac (Nat.lt_irrefl _))]
theorem quB (N:Nat) (t:qf) (a:qo3) (cols:List qi) (hl:a.2.2.1.length=cols.length) (hN:a.2.2.1.length<N) (hB:N≤1099511627776):
  (qad (S:=(Int×Unit)) (R:=((Int×Unit)×Unit)) N (fun ih4=>(fun p5=>(bif (ltI p5.1 (qr a.2.2.1)) then (bif (inB p5.1 (qr a.2.2.1)) then (bif ((!(eqI a.1 1))||(inB p5.1 (qr cols))) then (bif (eqI (qk a.2.2.1 p5.1 opD).1 (-1)) then (bif (qB (qN N ((qk a.2.2.1 p5.1 opD).2.1,()))) then (q7 (qx (qN N ((qk a.2.2.1 p5.1 opD).2.1,())) ((0,()),())).1.1 (fun y6=>(bif (neI y6 0) then (some ((y6,()),())) else (bif (inB p5.1 (qr cols)) then (bif (!((eqI (qk a.2.2.1 p5.1 opD).2.1.1 (qk cols p5.1 qfa).2.1)||((eqI (qk a.2.2.1 p5.1 opD).2.1.1 0)&&((eqI a.1 1)&&(qk cols p5.1 qfa).2.2.1)))) then (some ((7,()),())) else (ih4 ((qax .i64 p5.1 1),()))) else none)))) else none) else (q7 (((((ltI (qk a.2.2.1 p5.1 opD).1 0)||(leI (qr t.2.1) (qk a.2.2.1 p5.1 opD).1))||(neI (qk a.2.2.1 p5.1 opD).2.1.1 0))||(neI (qk a.2.2.1 p5.1 opD).2.1.2.1 0))||(!(eqS (qk a.2.2.1 p5.1 opD).2.1.2.2.1 ([]:List UInt8)))) (fun y6=>(bif y6 then (some ((1,()),())) else (bif ((inB (qk a.2.2.1 p5.1 opD).1 (qr t.2.1))&&((inB p5.1 (qr cols))&&((!(!(neI (qk t.2.1 (qk a.2.2.1 p5.1 opD).1 qfa).2.1 (qk cols p5.1 qfa).2.1)))||(inB (qk a.2.2.1 p5.1 opD).1 (qr t.2.1))))) then (q7 ((neI (qk t.2.1 (qk a.2.2.1 p5.1 opD).1 qfa).2.1 (qk cols p5.1 qfa).2.1)||((qk t.2.1 (qk a.2.2.1 p5.1 opD).1 qfa).2.2.1&&(!((eqI a.1 1)&&(qk cols p5.1 qfa).2.2.1)))) (fun y7=>(bif y7 then (some ((7,()),())) else (ih4 ((qax .i64 p5.1 1),()))))) else none))))) else none) else none) else (some ((0,()),()))))) (0,()))
  =match qR (opE t a cols) a.2.2.1.length with
   |some e=>some ((e,()),())
   |none=>some ((0,()),()):=by
 refine (qW (S:=Int×Unit) (fun i=>((i:Int),())) a.2.2.1.length (opE t a cols) (fun e=>some ((e,()),())) (some ((0,()),())) rfl (fun i hi _ ih=> ?_) (fun _ ih=> ?_) hN).trans ?_
 ·have hic:i<cols.length:=by omega
  simp only [qav hi,qC hi,qC hic,cond_true,qK,qkE,qp,qu,Bool.or_true,Bool.true_and,Bool.and_true,qD _ hi,qD _ hic,qO (show i<4611686018427387904 by omega)]
  simp only [opE,List.getElem?_eq_getElem hi,qD _ hic,qaC a.1 1]
  generalize a.2.2.1[i]=o
  generalize cols[i]=col
  generalize (decide (a.1=1)&&col.2.2.1)=nb
  by_cases h1:o.1= -1
  ·rw [eqT h1,cond_true]
   by_cases h2:qjF o.2.1=0
   ·rw [neF h2,cond_false]
    simp only [qaC]
    by_cases h3:o.2.1.1≠col.2.1∧(o.2.1.1≠0∨nb=false)
    ·have e0:vOp t o col nb=7:=by unfold vOp; rw [if_pos h1,if_neg (by omega),if_pos h3]
     have e1:(decide (o.2.1.1=col.2.1)||(decide (o.2.1.1=0)&&nb))=false:=by
      rw [decide_eq_false h3.1,Bool.false_or]
      rcases h3.2 with h|h
      ·rw [decide_eq_false h,Bool.false_and]
      ·rw [h,Bool.and_false]
     rw [e0,if_pos (by omega),e1]
     rfl
    ·have e0:vOp t o col nb=0:=by unfold vOp; rw [if_pos h1,if_neg (by omega),if_neg h3]
     have e1:(decide (o.2.1.1=col.2.1)||(decide (o.2.1.1=0)&&nb))=true:=by
      by_cases q:o.2.1.1=col.2.1
      ·rw [decide_eq_true q,Bool.true_or]
      ·by_cases q2:o.2.1.1=0
       ·cases nb with
        |false=>exact absurd ⟨q,.inr rfl⟩ h3
        |true=>rw [decide_eq_true q2]; simp
       ·exact absurd ⟨q,.inl q2⟩ h3
     rw [e0,if_neg (by omega),e1]
     rfl
   ·have e0:vOp t o col nb=qjF o.2.1:=by unfold vOp; rw [if_pos h1,if_pos h2]
    rw [neT h2,cond_true,e0,if_pos h2]
  ·rw [eqF h1,cond_false]
   have ez:((((ltI o.1 0||leI (qr t.2.1) o.1)||neI o.2.1.1 0)||neI o.2.1.2.1 0)|| !(eqS o.2.1.2.2.1 ([]:List UInt8)))=((ltI o.1 0||leI (qr t.2.1) o.1)|| !(qhU o.2.1)):=by
    simp only [qan,qbs,qhU,Bool.not_and,Bool.or_assoc]
   rw [ez]
   by_cases h2:o.1<0∨(t.2.1.length:Int)≤o.1∨qhU o.2.1=false
   ·have:((ltI o.1 0||leI (qr t.2.1) o.1)|| !(qhU o.2.1))=true:=by
     simp only [qaF,qcO,qt,Bool.or_eq_true,decide_eq_true_eq,Bool.not_eq_true']
     rcases h2 with h|h|h
     ·exact .inl (.inl h)
     ·exact .inl (.inr h)
     ·exact .inr h
    rw [this,cond_true]
    have e0:vOp t o col nb=1:=by unfold vOp; rw [if_neg h1,if_pos h2]
    rw [e0,if_pos (by omega)]
   ·have h2':=h2
    simp only [not_or,Int.not_lt,Int.not_le,Bool.not_eq_false] at h2
    have:((ltI o.1 0||leI (qr t.2.1) o.1)|| !(qhU o.2.1))=false:=by
     simp only [qaF,qcO,qt,h2.2.2,Bool.not_true,Bool.or_false,Bool.or_eq_false_iff,decide_eq_false_iff_not]
     omega
    rw [this,cond_false]
    have hin:inB o.1 (qr t.2.1)=true:=by rw [qdj,qt]; exact decide_eq_true ⟨by omega,by omega⟩
    simp only [hin,Bool.or_true,Bool.and_self,cond_true,qan]
    have e0:vOp t o col nb=if (qk t.2.1 o.1 qfa).2.1≠col.2.1∨((qk t.2.1 o.1 qfa).2.2.1=true∧nb=false) then 7 else 0:=by
     unfold vOp; rw [if_neg h1,if_neg h2']
    rw [e0]
    generalize qk t.2.1 o.1 qfa=w
    cases nb <;> cases hw:w.2.2.1 <;> by_cases h3:w.2.1=col.2.1 <;> simp [h3]
 ·simp only
  rw [qE (qac (Nat.lt_irrefl _))]
 ·cases qR (opE t a cols) a.2.2.1.length <;> rfl
theorem qc8 {s:qj} (hv:qhV s) {t:qf} (ht:t∈s.1):qnT t=0:=by
 obtain ⟨i,hi,rfl⟩:=List.getElem_of_mem ht
 have:=qaq hv.tabs i hi
 simp only [qqk,List.getElem?_eq_getElem hi] at this
 split at this
 ·cases this
 ·rename_i h
  exact Classical.byContradiction fun q=>by simp_all
theorem qqZ (s:qj) (n:List UInt8):(qh6 (qcE n) s.1=none∧qeu s n=none∧qif (qcE n) s.1= -1)∨∃i t,qh6 (qcE n) s.1=some i∧qeu s n=some t∧i<s.1.length∧(∀d,qk s.1 (i:Int) d=t)∧qif (qcE n) s.1=(i:Int):=by
 rcases qc7 s n with ⟨h1,h2⟩|⟨i,t,h1,h2,h3,h4⟩
 ·exact .inl ⟨h1,h2,by unfold qif; rw [h1]⟩
 ·exact .inr ⟨i,t,h1,h2,h3,h4,by unfold qif; rw [h1]⟩
theorem qup (N:Nat) (s:qj) (t:qf) (a:qo3) (hs:qcU N s) (hv:qhV s) (ha:a.2.2.1.length<N):qb0 N (s,(t,(a,())))=some ((qsw s t a,()),()):=by
 have hB:N≤1099511627776:=hs.sm.n
 simp only [qb0,qK,qhp N s a.2.1 hs.sm.t hB,qp,qu,qsw,cond_true]
 by_cases h1:a.1≠1∧a.1≠2
 ·rw [neT h1.1,neT h1.2,if_pos h1]; rfl
 ·have hk:a.1=1∨a.1=2:=by
   by_cases q:a.1=1
   ·exact .inl q
   ·by_cases q2:a.1=2
    ·exact .inr q2
    ·exact absurd ⟨q,q2⟩ h1
  have e1:(neI a.1 1&&neI a.1 2)=false:=by
   rw [qan,qan]
   rcases hk with q|q <;> simp [q]
  rw [e1,cond_false,if_neg h1]
  rcases qqZ s a.2.1 with ⟨i1,i2,i5⟩|⟨i,t2,i1,i2,i3,i4,i5⟩
  ·simp only [i2,i5]
   rw [qaF]; rfl
  ·simp only [i2,i5]
   rw [show ltI (i:Int) 0=false by rw [qaF]; exact decide_eq_false (by omega),cond_false,qC i3,cond_true]
   simp only [i4,cond_true]
   have ht2:=qcs i2
   have hvt:qnT t2=0:=qc8 hv ht2
   have:=qwZ N t2 a.1 true rfl (hs.tab ht2).c (hs.tab ht2).k hB (fun cols=>(bif (neI (qr cols) (qr a.2.2.1)) then (some ((7,()),())) else (qad (S:=(Int×Unit)) (R:=((Int×Unit)×Unit)) N (fun ih4=>(fun p5=>(bif (ltI p5.1 (qr a.2.2.1)) then (bif (inB p5.1 (qr a.2.2.1)) then (bif ((!(eqI a.1 1))||(inB p5.1 (qr cols))) then (bif (eqI (qk a.2.2.1 p5.1 opD).1 (-1)) then (bif (qB (qN N ((qk a.2.2.1 p5.1 opD).2.1,()))) then (q7 (qx (qN N ((qk a.2.2.1 p5.1 opD).2.1,())) ((0,()),())).1.1 (fun y6=>(bif (neI y6 0) then (some ((y6,()),())) else (bif (inB p5.1 (qr cols)) then (bif (!((eqI (qk a.2.2.1 p5.1 opD).2.1.1 (qk cols p5.1 qfa).2.1)||((eqI (qk a.2.2.1 p5.1 opD).2.1.1 0)&&((eqI a.1 1)&&(qk cols p5.1 qfa).2.2.1)))) then (some ((7,()),())) else (ih4 ((qax .i64 p5.1 1),()))) else none)))) else none) else (q7 (((((ltI (qk a.2.2.1 p5.1 opD).1 0)||(leI (qr t.2.1) (qk a.2.2.1 p5.1 opD).1))||(neI (qk a.2.2.1 p5.1 opD).2.1.1 0))||(neI (qk a.2.2.1 p5.1 opD).2.1.2.1 0))||(!(eqS (qk a.2.2.1 p5.1 opD).2.1.2.2.1 ([]:List UInt8)))) (fun y6=>(bif y6 then (some ((1,()),())) else (bif ((inB (qk a.2.2.1 p5.1 opD).1 (qr t.2.1))&&((inB p5.1 (qr cols))&&((!(!(neI (qk t.2.1 (qk a.2.2.1 p5.1 opD).1 qfa).2.1 (qk cols p5.1 qfa).2.1)))||(inB (qk a.2.2.1 p5.1 opD).1 (qr t.2.1))))) then (q7 ((neI (qk t.2.1 (qk a.2.2.1 p5.1 opD).1 qfa).2.1 (qk cols p5.1 qfa).2.1)||((qk t.2.1 (qk a.2.2.1 p5.1 opD).1 qfa).2.2.1&&(!((eqI a.1 1)&&(qk cols p5.1 qfa).2.2.1)))) (fun y7=>(bif y7 then (some ((7,()),())) else (ih4 ((qax .i64 p5.1 1),()))))) else none))))) else none) else none) else (some ((0,()),()))))) (0,()))))
   simp only [qK,cond_true] at this
   rw [this,qu5 hvt hk,qdQ]
   by_cases hl:a.2.2.1.length=(qcx t2 a.1).length
   ·rw [decide_eq_false (by omega),cond_false,if_neg (by simpa using hl)]
    have:=quB N t a (qcx t2 a.1) hl ha hB
    simp only [qK] at this
    rw [this]
    cases qR (opE t a (qcx t2 a.1)) a.2.2.1.length <;> rfl
   ·have e:decide ((qcx t2 a.1).length≠a.2.2.1.length)=true:=decide_eq_true fun e=>hl e.symm
    rw [e,cond_true,if_pos hl]
def qt9 (s:qj) (t:qf) (acts:List qo3) (i:Nat):Option Int:=match acts[i]? with
 |none=>none
 |some a=>if qsw s t a≠0 then some (qsw s t a) else none
def vTr (s:qj) (x:qh4):Int:=if x.1≠1∧x.1≠2 then 3 else match qeu s x.2.1 with
 |none=>4
 |some t=>if 4<x.2.2.1.length then 2 else match qR (qt9 s t x.2.2.1) x.2.2.1.length with
  |some e=>e
  |none=>0
def trE (s:qj) (xs:List qh4) (i:Nat):Option Int:=match xs[i]? with
 |none=>none
 |some x=>if vTr s x≠0 then some (vTr s x) else none
def qng (s:qj) (xs:List qh4):Int:=if qkN s≠0 then qkN s else if 8<xs.length then 2 else match qR (trE s xs) xs.length with
 |some e=>e
 |none=>0
structure qoc (N:Nat) (xs:List qh4):Prop where
 n:xs.length<N
 acts:∀x∈xs,x.2.2.1.length<N
 ops:∀x∈xs,∀a∈x.2.2.1,a.2.2.1.length<N
theorem qm8 (s:qj) (t:qf) (acts:List qo3):∀i e,qt9 s t acts i=some e→e≠0:=fun i e h=>by
 simp only [qt9] at h
 split at h
 ·cases h
 ·split at h
  ·rename_i h0; injection h with h; rw [←h]; exact h0
  ·cases h
theorem qwc (s:qj) (xs:List qh4):∀i e,trE s xs i=some e→e≠0:=fun i e h=>by
 simp only [trE] at h
 split at h
 ·cases h
 ·split at h
  ·rename_i h0; injection h with h; rw [←h]; exact h0
  ·cases h
theorem qtS {s:qj} {t:qf} {acts:List qo3} {R:Type} (out:Int→Option R) (fin:Option R) {N:Nat} {step:(Int×Unit→Option R)→Int×Unit→Option R} (hN:acts.length<N)
  (hs:∀i (hi:i<acts.length) ih,step ih ((i:Int),())=if qsw s t acts[i]≠0 then out (qsw s t acts[i]) else ih (((i+1:Nat):Int),())) (he:∀ih,step ih ((acts.length:Int),())=fin):
  qad N step (0,())=match qR (qt9 s t acts) acts.length with
   |some e=>out e
   |none=>fin:=by
 refine (qW (S:=Int×Unit) (s0:=((0:Int),())) (fun i=>((i:Int),())) acts.length (qt9 s t acts) out fin rfl (fun i hi _ ih=> ?_) (fun _ ih=>he ih) hN).trans ?_
 ·rw [hs i hi ih]
  simp only [qt9,List.getElem?_eq_getElem hi]
  split <;> rfl
 ·cases qR (qt9 s t acts) acts.length <;> rfl
theorem gt8 {α:Type} (xs:List α):ltI 8 (qr xs)=decide (8<xs.length):=qjW xs 8
theorem gt4 {α:Type} (xs:List α):ltI 4 (qr xs)=decide (4<xs.length):=qjW xs 4
theorem qp9 (N:Nat) (s:qj) (xs:List qh4) (hs:qcU N s) (hg:qoc N xs):qcB N (s,(xs,()))=some ((qng s xs,()),()):=by
 have hB:N≤1099511627776:=hs.sm.n
 simp only [qcB,qK,qpJ N s hs,qp,qu,cond_true]
 unfold qng
 by_cases h0:qkN s≠0
 ·rw [neT h0,cond_true,if_pos h0]
 rw [neF (by omega:qkN s=0),cond_false,if_neg h0]
 by_cases h8:8<xs.length
 ·rw [gt8,decide_eq_true h8,cond_true,if_pos h8]
 rw [show ltI 8 (qr xs)=false by rw [gt8]; exact decide_eq_false h8,cond_false,if_neg h8]
 have hv:=qfm (s:=s) (by omega)
 have hk:=qig hv.tabs
 refine (qW (S:=Int×Unit) (fun i=>((i:Int),())) xs.length (trE s xs) (fun e=>some ((e,()),())) (some ((0,()),())) rfl (fun i hi _ ih=> ?_) (fun _ ih=> ?_) hg.n).trans ?_
 ·have hm:=List.getElem_mem hi
  have ha:=hg.acts _ hm
  have ho:=hg.ops _ hm
  simp only [qav hi,qC hi,cond_true,qD _ hi,qO (show i<4611686018427387904 by omega),trE,List.getElem?_eq_getElem hi]
  generalize xs[i]=x at *
  unfold vTr
  by_cases h1:x.1≠1∧x.1≠2
  ·rw [neT h1.1,neT h1.2,if_pos h1]; rfl
  have e1:(neI x.1 1&&neI x.1 2)=false:=by
   rw [qan,qan]
   by_cases q:x.1=1
   ·simp [q]
   ·by_cases q2:x.1=2
    ·simp [q2]
    ·exact absurd ⟨q,q2⟩ h1
  rw [e1,cond_false,if_neg h1]
  simp only [qc2 N s x.2.1 hs.sm.t hB,qp,qu,cond_true]
  rcases qc7 s x.2.1 with ⟨i1,i2⟩|⟨k,t,i1,i2,i3,i4⟩
  ·simp only [i1,i2]; rfl
  ·simp only [i1,i2,Option.isSome_some,Bool.not_true,cond_false,Option.getD_some,qC i3,Bool.true_and,i4]
   by_cases h4:4<x.2.2.1.length
   ·rw [gt4,decide_eq_true h4,cond_true,if_pos h4]; rfl
   rw [show ltI 4 (qr x.2.2.1)=false by rw [gt4]; exact decide_eq_false h4,cond_false,if_neg h4]
   refine (qtS (s:=s) (t:=t) (fun e=>some ((e,()),())) (ih (((i+1:Nat):Int),())) ha (fun j hj ih2=> ?_) (fun ih2=> ?_)).trans ?_
   ·simp only [qav hj,qC hj,cond_true,qD _ hj,qud N s t _ hs hk (ho _ (List.getElem_mem hj)),qp,qu,qO (show j<4611686018427387904 by omega)]
    by_cases q:qsw s t x.2.2.1[j]=0
    ·rw [neF q,cond_false,if_neg (by omega)]
    ·rw [neT q,cond_true,if_pos q]
   ·simp only
    rw [qE (qac (Nat.lt_irrefl _))]
   ·cases he:qR (qt9 s t x.2.2.1) x.2.2.1.length with
    |none=>rfl
    |some e=>
     obtain ⟨j,_,hj,_⟩:=qbb he
     have:=qm8 s t x.2.2.1 j e hj
     simp only
     rw [if_pos this]
 ·simp only
  rw [qE (qac (Nat.lt_irrefl _))]
 ·cases qR (trE s xs) xs.length <;> rfl
theorem qt3 (N:Nat) (s:qj) (xs:List qh4) (hs:qcU N s) (hg:qoc N xs) (hid:∀f∈s.2.1,(fkC f).length≤1099511627776):qbF N (s,(xs,()))=some ((qng s xs,()),()):=by
 have hB:N≤1099511627776:=hs.sm.n
 simp only [qbF,qK,qo9 N s hs hid,qp,qu,cond_true]
 unfold qng
 by_cases h0:qkN s≠0
 ·rw [neT h0,cond_true,if_pos h0]
 rw [neF (by omega:qkN s=0),cond_false,if_neg h0]
 by_cases h8:8<xs.length
 ·rw [gt8,decide_eq_true h8,cond_true,if_pos h8]
 rw [show ltI 8 (qr xs)=false by rw [gt8]; exact decide_eq_false h8,cond_false,if_neg h8]
 have hv:=qfm (s:=s) (by omega)
 refine (qW (S:=Int×Unit) (fun i=>((i:Int),())) xs.length (trE s xs) (fun e=>some ((e,()),())) (some ((0,()),())) rfl (fun i hi _ ih=> ?_) (fun _ ih=> ?_) hg.n).trans ?_
 ·have hm:=List.getElem_mem hi
  have ha:=hg.acts _ hm
  have ho:=hg.ops _ hm
  simp only [qav hi,qC hi,cond_true,qD _ hi,qO (show i<4611686018427387904 by omega),trE,List.getElem?_eq_getElem hi]
  generalize xs[i]=x at *
  unfold vTr
  by_cases h1:x.1≠1∧x.1≠2
  ·rw [neT h1.1,neT h1.2,if_pos h1]; rfl
  have e1:(neI x.1 1&&neI x.1 2)=false:=by
   rw [qan,qan]
   by_cases q:x.1=1
   ·simp [q]
   ·by_cases q2:x.1=2
    ·simp [q2]
    ·exact absurd ⟨q,q2⟩ h1
  rw [e1,cond_false,if_neg h1]
  simp only [qhp N s x.2.1 hs.sm.t hB,qp,qu,cond_true]
  rcases qqZ s x.2.1 with ⟨i1,i2,i5⟩|⟨k,t,i1,i2,i3,i4,i5⟩
  ·simp only [i2,i5]
   rw [qaF]; rfl
  ·simp only [i2,i5]
   rw [show ltI (k:Int) 0=false by rw [qaF]; exact decide_eq_false (by omega),cond_false]
   simp only [qC i3,Bool.true_and,i4]
   by_cases h4:4<x.2.2.1.length
   ·rw [gt4,decide_eq_true h4,cond_true,if_pos h4]; rfl
   rw [show ltI 4 (qr x.2.2.1)=false by rw [gt4]; exact decide_eq_false h4,cond_false,if_neg h4]
   refine (qtS (s:=s) (t:=t) (fun e=>some ((e,()),())) (ih (((i+1:Nat):Int),())) ha (fun j hj ih2=> ?_) (fun ih2=> ?_)).trans ?_
   ·simp only [qav hj,qC hj,cond_true,qD _ hj,qup N s t _ hs hv (ho _ (List.getElem_mem hj)),qp,qu,qO (show j<4611686018427387904 by omega)]
    by_cases q:qsw s t x.2.2.1[j]=0
    ·rw [neF q,cond_false,if_neg (by omega)]
    ·rw [neT q,cond_true,if_pos q]
   ·simp only
    rw [qE (qac (Nat.lt_irrefl _))]
   ·cases he:qR (qt9 s t x.2.2.1) x.2.2.1.length with
    |none=>rfl
    |some e=>
     obtain ⟨j,_,hj,_⟩:=qbb he
     have:=qm8 s t x.2.2.1 j e hj
     simp only
     rw [if_pos this]
 ·simp only
  rw [qE (qac (Nat.lt_irrefl _))]
 ·cases qR (trE s xs) xs.length <;> rfl
end
end Go.Proofs.YtnlkfgdojfijpaaGreatDoor
namespace Go.Proofs.YtnlkfgdojfijpaaGreatDoor
open Go.Vi
noncomputable section
def qvk {α:Type} (q:α→Bool) (xs:List α) (j:Nat):Option α:=match xs[j]? with
 |none=>none
 |some r=>if q r=true then some r else none
theorem qmY {α:Type} (q:α→Bool) (xs:List α):(n:Nat)→n≤xs.length→qR (qvk q xs) n=(xs.take n).find? q
 |0,_=>by simp [qR]
 |n+1,hn=>by
  have hi:n<xs.length:=by omega
  unfold qR
  rw [qmY q xs n (by omega),qbi hi,List.find?_append]
  simp only [qvk,List.getElem?_eq_getElem hi]
  cases (xs.take n).find? q with
  |some e=>rfl
  |none=>
   simp only [Option.none_or]
   cases h:q xs[n] <;> simp [h]
theorem qeW (N:Nat) (a b:qam) (hN:a.length<N) (hB:N≤1099511627776):qM N (a,(b,()))=some ((decide (a=b),()),()):=by
 simp only [qM]
 by_cases hl:a.length=b.length
 ·rw [qdQ,show decide (a.length≠b.length)=false by simp [hl],cond_false]
  refine (qW (S:=Int×Unit) (s0:=((0:Int),())) (E:=Unit) (fun i=>((i:Int),())) a.length (fun i=>if a[i]? =b[i]? then none else some ()) (fun _=>some ((false,()),())) (some ((true,()),())) rfl (fun i hi _ ih=> ?_) (fun _ ih=> ?_) hN).trans ?_
  ·have hj:i<b.length:=by omega
   simp only [qav hi,qC hi,qC hj,Bool.and_self,cond_true,qD _ hi,qD _ hj,qO (show i<4611686018427387904 by omega),List.getElem?_eq_getElem hi,List.getElem?_eq_getElem hj,Option.some.injEq,qaC,qbs]
   have e:(decide ((a[i]).1=(b[i]).1)&&(decide ((a[i]).2.1=(b[i]).2.1)&&decide ((a[i]).2.2.1=(b[i]).2.2.1)))=decide (a[i]=b[i]):=by
    generalize a[i]=x
    generalize b[i]=y
    obtain ⟨x1,x2,x3,⟨⟩⟩:=x
    obtain ⟨y1,y2,y3,⟨⟩⟩:=y
    simp only [Prod.mk.injEq,and_true]
    rw [Bool.eq_iff_iff]
    simp
   rw [e]
   by_cases h:a[i]=b[i] <;> simp [h]
  ·simp only
   rw [qE (qac (Nat.lt_irrefl _))]
  ·cases h:qR (fun i=>if a[i]? =b[i]? then none else some ()) a.length with
   |none=>
    have:a=b:=List.ext_getElem? fun i=>by
     by_cases hi:i<a.length
     ·have:=qaq h i hi
      split at this
      ·assumption
      ·cases this
     ·rw [List.getElem?_eq_none (by omega),List.getElem?_eq_none (by omega)]
    rw [decide_eq_true this]
   |some u=>
    obtain ⟨i,hi,hg,_⟩:=qbb h
    have:a≠b:=fun e=>by rw [e] at hg; simp at hg
    rw [decide_eq_false this]
 ·rw [qdQ,show decide (a.length≠b.length)=true by simp [hl],cond_true,decide_eq_false (fun e=>hl (by rw [e]))]
def look (pk:List Int) (k:qam) (rows:List qam):qam:=(rows.find? (fun r=>decide (qaY pk r=k))).getD []
def cur (s:qj) (inst:List qcg) (c:qbV):qam:=match qh6 (qcE c.2.1) s.1 with
 |none=>[]
 |some i=>if c.1=1 then (if c.2.2.2.1.length≠(qca s c.2.1).2.1.length then [] else look (qca s c.2.1).2.2.1 (qaY (qca s c.2.1).2.2.1 c.2.2.2.1) (qdl inst i)) else look (qca s c.2.1).2.2.1 c.2.2.1 (qdl inst i)
theorem qp0 {pk:List Int} {k:qam} : {rows:List qam} →qew pk rows→((qdh (fun r=>qZ (qaY pk r) k) rows).2=true→∃h:(qdh (fun r=>qZ (qaY pk r) k) rows).1<rows.length,rows[(qdh (fun r=>qZ (qaY pk r) k) rows).1]=look pk k rows∧look pk k rows∈rows∧qaY pk (look pk k rows)=k)∧((qdh (fun r=>qZ (qaY pk r) k) rows).2=false→look pk k rows=[])
 |[],_=>⟨fun h=>(by cases h),fun _=>rfl⟩
 |x::xs,hs=>by
  have hs:=List.pairwise_cons.1 hs
  have ih:=qp0 (k:=k) hs.2
  rw [qkH]
  by_cases h0:0≤qZ (qaY pk x) k
  ·rw [if_pos h0]
   by_cases h1:qZ (qaY pk x) k=0
   ·have hk:=(qdt _ _).1 h1
    have e:look pk k (x::xs)=x:=by simp [look,hk]
    refine ⟨fun _=>⟨by simp,by rw [e]; rfl,by rw [e]; exact List.mem_cons_self,by rw [e]; exact hk⟩,fun h=> ?_⟩
    simp [h1] at h
   ·refine ⟨fun h=>by simp [h1] at h,fun _=> ?_⟩
    unfold look
    rw [List.find?_eq_none.2 fun r hr=> ?_]
    ·rfl
    ·simp only [decide_eq_true_eq]
     intro hk
     rcases List.mem_cons.1 hr with rfl|hr
     ·exact h1 ((qdt _ _).2 hk)
     ·have:=hs.1 r hr
      rw [hk] at this
      omega
  ·rw [if_neg h0]
   have hne:¬qaY pk x=k:=fun e=>h0 (by rw [(qdt _ _).2 e]; exact Int.le_refl _)
   have e:look pk k (x::xs)=look pk k xs:=by simp [look,hne]
   rw [e]
   refine ⟨fun h=> ?_,ih.2⟩
   obtain ⟨h1,h2,h3,h4⟩:=ih.1 h
   exact ⟨by simpa using h1,by simpa using h2,List.mem_cons_of_mem _ h3,h4⟩
theorem qv0 {pk:List Int} {k:qam} {rows:List qam} (h:k.length≠pk.length):look pk k rows=[]:=by
 unfold look
 rw [List.find?_eq_none.2 fun r _=> ?_]
 ·rfl
 ·simp only [decide_eq_true_eq]
  intro e
  exact h (by rw [←e,qdf])
theorem keyK {t:qf} (h:qnT t=0):t.2.2.1.length≤6:=by
 obtain ⟨h1,h2,_,h6,_⟩:=qfy h
 have e:(kIx 2 t.2.2.1 t.2.1.length).map (fun k:Nat=>(k:Int))=t.2.2.1:=by
  refine qkR ?_ h2 fun x=> ?_
  ·rw [List.pairwise_map]
   unfold kIx
   exact (List.pairwise_lt_range.filter _).imp fun h=>by omega
  ·simp only [kIx,List.mem_map,List.mem_filter,List.mem_range,show ¬(2:Int)=1 by omega,decide_false,Bool.false_or,List.any_eq_true,decide_eq_true_eq]
   constructor
   ·rintro ⟨k,⟨_,y,hy,rfl⟩,rfl⟩
    exact hy
   ·intro hx
    obtain ⟨q1,q2⟩:=h1 x hx
    exact ⟨x.toNat,⟨by omega,x,hx,by omega⟩,by omega⟩
 have:=congrArg List.length e
 rw [List.length_map] at this
 have:=qux 2 t.2.2.1 t.2.1.length
 omega
theorem qp6 {t:qf} {row:qam} (h:qny t row=0):∀v∈row,qjF v=0:=fun v hv=>by
 unfold qny at h
 split at h
 ·cases h
 obtain ⟨i,hi,rfl⟩:=List.getElem_of_mem hv
 have hn:qR (qlM t row) row.length=none:=by
  split at h
  ·rename_i e he
   obtain ⟨j,_,hj,_⟩:=qbb he
   subst h
   simp only [qlM] at hj
   split at hj
   ·cases hj
   ·split at hj
    ·rename_i h0; injection hj with hj; exact absurd hj h0
    ·split at hj
     ·cases hj
     ·split at hj <;> cases hj
  ·assumption
 have:=qaq hn i hi
 simp only [qlM,List.getElem?_eq_getElem hi] at this
 split at this
 ·cases this
 ·rename_i h0
  omega
theorem qv4 {v:qre} (h:qjF v=0):qhT.good v∧v.2.2.1.length≤24:=by
 obtain ⟨k,n,s,⟨⟩⟩:=v
 unfold qjF at h
 simp only at h
 split at h
 ·cases h
 split at h
 ·cases h
 split at h
 ·cases h
 split at h
 ·cases h
 rename_i h1 h2 h3 h4
 simp only [not_or,Int.not_lt] at h1 h3
 have e1:IntKind.i64.min= -9223372036854775808:=rfl
 have e2:IntKind.i64.max=9223372036854775807:=rfl
 have h5:s.length≤24:=by omega
 refine ⟨⟨⟨?_,?_⟩,⟨?_,?_⟩,?_,trivial⟩,h5⟩
 ·show IntKind.i64.min≤k
  omega
 ·show k≤IntKind.i64.max
  omega
 ·show IntKind.i64.min≤n
  omega
 ·show n≤IntKind.i64.max
  omega
 ·show s.length≤maxLen
  simp only [maxLen]; omega
theorem qfl {r:qam} (hl:r.length≤6) (h:∀v∈r,qjF v=0):(qe0 r).length≤1099511627776:=qiZ (a:=6) (b:=24) hl (by omega) fun v hv=>qv4 (h v hv)
theorem zV_val:qjF zV=0:=by decide
theorem qlS {pk:List Int} {row:qam} (h:∀v∈row,qjF v=0):∀v∈qaY pk row,qjF v=0:=fun v hv=>by
 obtain ⟨k,_,rfl⟩:=List.mem_map.1 hv
 rcases qpm row k with q|q
 ·exact h _ q
 ·rw [q]; exact zV_val
theorem qnr.asm {N:Nat} {s:qj} {inst:List qcg} {cs:List qbV} (hv:qhV s) (hC:qnr s inst) (hs:qcU N s) (hc:qfV N s cs) (hN:1000<N) (hB:N≤1000000000):qmU N s inst cs:=by
 have row:∀q∈inst,∀r∈q.2.1,r.length≤6∧∀v∈r,qjF v=0:=fun q hq r hr=>by
  obtain ⟨i,hi,rfl⟩:=List.getElem_of_mem hq
  have hi2:i<s.1.length:=by rw [←hC.len]; exact hi
  have h1:=(hC.ok i hi hi2).2.1 r hr
  have:=(qfy (qc8 hv (List.getElem_mem hi2))).2.2.2.1
  exact ⟨by rw [qi1 h1]; exact this,qp6 h1⟩
 refine ⟨hs,⟨by rw [hC.len]; exact hs.sm.t,fun q hq=> ?_,fun q hq r hr=>by have:=(row q hq r hr).1; omega,fun q hq r hr=>qfl (row q hq r hr).1 (row q hq r hr).2⟩,⟨fun q hq r hr t ht=>qfl (by rw [qdf]; exact keyK (qc8 hv ht)) (qlS (row q hq r hr).2),fun q hq r hr f hf=>qfl ?_ (qlS (row q hq r hr).2)⟩,hc,hB,hN⟩
 ·obtain ⟨i,hi,rfl⟩:=List.getElem_of_mem hq
  have:=(hC.ok i hi (by rw [←hC.len]; exact hi)).1
  omega
 ·obtain ⟨t,r,_,h2,h3,_⟩:=hv.fk hf
  rw [qdf,h3]
  exact keyK (qc8 hv (qcs h2))
theorem qtP {s:qj} (n:List UInt8):(qh6 (qcE n) s.1=none∧qif (qcE n) s.1= -1)∨∃i,qh6 (qcE n) s.1=some i∧i<s.1.length∧(∀d,qk s.1 (i:Int) d=qca s n)∧qif (qcE n) s.1=(i:Int)∧qca s n∈s.1∧qeu s n=some (qca s n):=by
 rcases qqZ s n with ⟨h1,_,h2⟩|⟨i,t,h1,h2,h3,h4,h5⟩
 ·exact .inl ⟨h1,h2⟩
 ·have e:qca s n=t:=by unfold qca; rw [h2]; rfl
  exact .inr ⟨i,h1,h3,fun d=>by rw [h4,e],h5,by rw [e]; exact qcs h2,by rw [e]; exact h2⟩
theorem qsQ (N:Nat) (s:qj) (inst:List qcg) (trs:List qh4) (ap:List qbV) (c:qbV) (hv:qhV s) (hC:qnr s inst) (hs:qcU N s):
  qh N ((s,(trs,(inst,(ap,())))),(c,()))=some ((cur s inst c,()),((s,(trs,(inst,(ap,())))),())):=by
 have hB:N≤1099511627776:=hs.sm.n
 have hm:=hs.m
 simp only [qh,qK,qc2 N s c.2.1 hs.sm.t hB,qp,qu,cond_true]
 unfold cur
 rcases qtP (s:=s) c.2.1 with ⟨h1,_⟩|⟨i,h1,h3,h4,_,h5,h6⟩
 ·simp only [h1]; rfl
 simp only [h1,Option.isSome_some,Bool.not_true,cond_false,cond_true,Option.getD_some,qC h3,h4]
 have ht:=hs.tab h5
 have hit:i<inst.length:=by rw [hC.len]; exact h3
 have htab:s.1[i]=qca s c.2.1:=by rw [←qD quz h3]; exact h4 _
 have hok:=hC.ok i hit h3
 rw [htab,←qcR hit] at hok
 have hne:∀r∈qdl inst i,r≠[]:=fun r hr e=>by
  have:=qi1 (hok.2.1 r hr)
  have h5':=(qfy (qc8 hv h5)).2.2.2.2
  rw [e] at this
  exact h5' (List.length_eq_zero_iff.1 this.symm)
 have hri:(qk inst (i:Int) (([]:List UInt8),(([]:List qam),()))).2.1=qdl inst i:=rfl
 have tail:∀k:qam,k.length=(qca s c.2.1).2.2.1.length→(bif (inB (i:Int) (qr inst)&&qB (q9 N (qca s c.2.1,((qk inst (i:Int) (([]:List UInt8),(([]:List qam),()))).2.1,(k,()))))) then (bif (!(qx (q9 N (qca s c.2.1,((qk inst (i:Int) (([]:List UInt8),(([]:List qam),()))).2.1,(k,())))) ((0,(false,())),())).1.2.1) then some ((([]:qam),()),((s,(trs,(inst,(ap,())))),())) else (bif (inB (i:Int) (qr inst)&&inB (qx (q9 N (qca s c.2.1,((qk inst (i:Int) (([]:List UInt8),(([]:List qam),()))).2.1,(k,())))) ((0,(false,())),())).1.1 (qr (qk inst (i:Int) (([]:List UInt8),(([]:List qam),()))).2.1)) then (bif neI (qr (qk (qk inst (i:Int) (([]:List UInt8),(([]:List qam),()))).2.1 (qx (q9 N (qca s c.2.1,((qk inst (i:Int) (([]:List UInt8),(([]:List qam),()))).2.1,(k,())))) ((0,(false,())),())).1.1 ([]:qam))) 0 then some ((qk (qk inst (i:Int) (([]:List UInt8),(([]:List qam),()))).2.1 (qx (q9 N (qca s c.2.1,((qk inst (i:Int) (([]:List UInt8),(([]:List qam),()))).2.1,(k,())))) ((0,(false,())),())).1.1 ([]:qam),()),((s,(trs,(inst,(ap,())))),())) else none) else none)) else none)
   =some ((look (qca s c.2.1).2.2.1 k (qdl inst i),()),((s,(trs,(inst,(ap,())))),())):=by
  intro k hk
  rw [hri,qra N (qca s c.2.1) (qdl inst i) k ht.k (by have:=hok.1; omega) hB]
  simp only [qC hit,qp,qu,Bool.and_self,cond_true,Bool.true_and]
  obtain ⟨l1,l2⟩:=qp0 (k:=k) hok.2.2
  generalize qdh (fun r=>qZ (qaY (qca s c.2.1).2.2.1 r) k) (qdl inst i)=q at *
  cases hq:q.2 with
  |false=>rw [l2 hq]; rfl
  |true=>
   obtain ⟨m1,m2,m3,m4⟩:=l1 hq
   simp only [Bool.not_true,cond_false,qC m1,cond_true,qD _ m1,m2]
   have:(look (qca s c.2.1).2.2.1 k (qdl inst i)).length≠0:=fun e=>hne _ m3 (List.length_eq_zero_iff.1 e)
   rw [show neI (qr (look (qca s c.2.1).2.2.1 k (qdl inst i))) 0=true by rw [qan,qt]; simpa using this,cond_true]
 by_cases hk:c.1=1
 ·rw [eqT hk,cond_true,if_pos hk,qdQ]
  by_cases hl:c.2.2.2.1.length=(qca s c.2.1).2.1.length
  ·rw [show decide (c.2.2.2.1.length≠(qca s c.2.1).2.1.length)=false by simp [hl],cond_false,if_neg (by simp [hl])]
   simp only [qrz N (qca s c.2.1) _ ht.k hB,qp,qu,cond_true]
   rw [qdQ,show decide ((qaY (qca s c.2.1).2.2.1 c.2.2.2.1).length≠(qca s c.2.1).2.2.1.length)=false by simp [qdf],cond_false]
   exact tail _ (qdf _ _)
  ·rw [show decide (c.2.2.2.1.length≠(qca s c.2.1).2.1.length)=true by simp [hl],cond_true,if_pos hl]
 ·rw [eqF hk,cond_false,if_neg hk,qdQ]
  by_cases hl:c.2.2.1.length=(qca s c.2.1).2.2.1.length
  ·rw [show decide (c.2.2.1.length≠(qca s c.2.1).2.2.1.length)=false by simp [hl],cond_false]
   exact tail _ hl
  ·rw [show decide (c.2.2.1.length≠(qca s c.2.1).2.2.1.length)=true by simp [hl],cond_true,qv0 hl]
theorem qrG (N:Nat) (t:qf) (rows:List qam) (k:qam) (hk:t.2.2.1.length<N) (hr:rows.length<N) (hB:N≤1099511627776) (hne:∀r∈rows,r≠[]):
  (qad (S:=(Int×Unit)) (R:=((qam×Unit)×Unit)) N (fun ih1=>(fun p2=>(bif (ltI p2.1 (qr rows)) then (bif (inB p2.1 (qr rows)) then (bif ((qB (qI N (t,((qk rows p2.1 ([]:qam)),()))))&&(qB (qM N ((qx (qI N (t,((qk rows p2.1 ([]:qam)),()))) ((([]:qam),()),())).1.1,(k,()))))) then (bif (qx (qM N ((qx (qI N (t,((qk rows p2.1 ([]:qam)),()))) ((([]:qam),()),())).1.1,(k,()))) ((false,()),())).1.1 then (bif (neI (qr (qk rows p2.1 ([]:qam))) 0) then (some (((qk rows p2.1 ([]:qam)),()),())) else none) else (ih1 ((qax .i64 p2.1 1),()))) else none) else none) else (some ((([]:qam),()),()))))) (0,()))
  =some ((look t.2.2.1 k rows,()),()):=by
 refine (qW (S:=Int×Unit) (s0:=((0:Int),())) (fun i=>((i:Int),())) rows.length (qvk (fun r=>decide (qaY t.2.2.1 r=k)) rows) (fun r=>some ((r,()),())) (some ((([]:qam),()),())) rfl (fun i hi _ ih=> ?_) (fun _ ih=> ?_) hr).trans ?_
 ·have hm:=List.getElem_mem hi
  simp only [qav hi,qC hi,cond_true,qD _ hi,qiX N t _ hk hB,qeW N _ k (show (qaY t.2.2.1 rows[i]).length<N by rw [qdf]; exact hk) hB,qp,qu,Bool.and_self,qO (show i<4611686018427387904 by omega),qvk,List.getElem?_eq_getElem hi]
  have:=hne _ hm
  generalize rows[i]=r at *
  by_cases h:qaY t.2.2.1 r=k
  ·simp only [h,decide_true,cond_true,if_true]
   rw [show neI (qr r) 0=true by rw [qan,qt]; simpa using this,cond_true]
  ·simp only [h,decide_false,cond_false,Bool.false_eq_true,if_false]
 ·simp only
  rw [qE (qac (Nat.lt_irrefl _))]
 ·rw [qmY _ _ _ (Nat.le_refl _),List.take_length]
  unfold look
  cases rows.find? (fun r=>decide (qaY t.2.2.1 r=k)) <;> rfl
theorem qum (N:Nat) (s:qj) (inst:List qcg) (c:qbV) (hv:qhV s) (hC:qnr s inst) (hs:qcU N s):
  qat N (s,(inst,(c,())))=some ((cur s inst c,()),()):=by
 have hB:N≤1099511627776:=hs.sm.n
 have hm:=hs.m
 simp only [qat,qK,qhp N s c.2.1 hs.sm.t hB,qp,qu,cond_true]
 unfold cur
 rcases qtP (s:=s) c.2.1 with ⟨h1,h2⟩|⟨i,h1,h3,h4,h2,h5,h6⟩
 ·simp only [h1,h2]
  rw [qaF]; rfl
 simp only [h1,h2]
 rw [show ltI (i:Int) 0=false by rw [qaF]; exact decide_eq_false (by omega),cond_false,qC h3,cond_true]
 have ht:=hs.tab h5
 have hit:i<inst.length:=by rw [hC.len]; exact h3
 have htab:s.1[i]=qca s c.2.1:=by rw [←qD quz h3]; exact h4 _
 have hok:=hC.ok i hit h3
 rw [htab,←qcR hit] at hok
 have hne:∀r∈qdl inst i,r≠[]:=fun r hr e=>by
  have:=qi1 (hok.2.1 r hr)
  have h5':=(qfy (qc8 hv h5)).2.2.2.2
  rw [e] at this
  exact h5' (List.length_eq_zero_iff.1 this.symm)
 have hri:(qk inst (i:Int) (([]:List UInt8),(([]:List qam),()))).2.1=qdl inst i:=rfl
 simp only [h4,hri]
 by_cases hk:c.1=1
 ·rw [eqT hk,cond_true,if_pos hk,qdQ]
  by_cases hl:c.2.2.2.1.length=(qca s c.2.1).2.1.length
  ·rw [show decide (c.2.2.2.1.length≠(qca s c.2.1).2.1.length)=false by simp [hl],cond_false,if_neg (by simp [hl])]
   simp only [qiX N (qca s c.2.1) c.2.2.2.1 ht.k hB,qp,qu,cond_true,qC hit]
   exact qrG N (qca s c.2.1) (qdl inst i) (qaY (qca s c.2.1).2.2.1 c.2.2.2.1) ht.k (by have:=hok.1; omega) hB hne
  ·rw [show decide (c.2.2.2.1.length≠(qca s c.2.1).2.1.length)=true by simp [hl],cond_true,if_pos hl]
 ·rw [eqF hk,cond_false,if_neg hk,qC hit,cond_true]
  exact qrG N (qca s c.2.1) (qdl inst i) c.2.2.1 ht.k (by have:=hok.1; omega) hB hne
def qsY (a:qo3) (row:qam):qam:=a.2.2.1.map (fun o=>if o.1<0 then o.2.1 else qk row o.1 zV)
def qlA (a:qo3) (row:qam):qbV:=if a.1=2 then (2,(a.2.1,(qsY a row,(([]:qam),())))) else (1,(a.2.1,(([]:qam),(qsY a row,()))))
theorem qtB (N:Nat) (a:qo3) (row:qam) (hN:a.2.2.1.length<N) (hB:N≤1000000000) (h:∀o∈a.2.2.1,o.1<(row.length:Int)):qH N (a,(row,()))=some ((qlA a row,()),()):=by
 simp only [qH]
 refine qc0 (S:=qam×(Int×Unit)) (fun i=>((a.2.2.1.take i).map (fun o=>if o.1<0 then o.2.1 else qk row o.1 zV),((i:Int),()))) a.2.2.1.length _ (by simp) (fun i hi ih=> ?_) (fun ih=> ?_) hN
 ·have ho:=h _ (List.getElem_mem hi)
  have rm:∀v:qre,qcq (qr ((a.2.2.1.take i).map (fun o=>if o.1<0 then o.2.1 else qk row o.1 zV))) (qr ([v]:List qre)) 32=true:=fun v=>qc4 (by
   simp only [List.length_map,List.length_take,List.length_cons,List.length_nil]; omega)
  simp only [qav hi,qC hi,cond_true,qD _ hi,rm,Bool.and_true,qO (show i<4611686018427387904 by omega),qbi hi,List.map_append,List.map_cons,List.map_nil,qbv]
  generalize a.2.2.1[i]=o at *
  by_cases h0:o.1<0
  ·rw [show ltI o.1 0=true by rw [qaF]; exact decide_eq_true h0]
   simp only [cond_true,if_pos h0]
  ·have hin:inB o.1 (qr row)=true:=by rw [qdj,qt]; exact decide_eq_true ⟨by omega,ho⟩
   rw [show ltI o.1 0=false by rw [qaF]; exact decide_eq_false h0]
   simp only [cond_false,hin,cond_true,if_neg h0]
 ·simp only
  rw [qE (qac (Nat.lt_irrefl _)),List.take_length]
  unfold qlA qsY
  by_cases q:a.1=2
  ·rw [eqT q,cond_true,if_pos q]
  ·rw [eqF q,cond_false,if_neg q]
theorem qtz (N:Nat) (a:qo3) (row:qam) (hN:a.2.2.1.length<N) (hB:N≤1000000000) (h:∀o∈a.2.2.1,o.1<(row.length:Int)) (hk:a.1=1∨a.1=2):qcr N (a,(row,()))=some ((qlA a row,()),()):=by
 simp only [qcr,qK]
 refine qc0 (S:=qam×(Int×Unit)) (fun i=>((a.2.2.1.take i).map (fun o=>if o.1<0 then o.2.1 else qk row o.1 zV),((i:Int),()))) a.2.2.1.length _ (by simp) (fun i hi ih=> ?_) (fun ih=> ?_) hN
 ·have ho:=h _ (List.getElem_mem hi)
  have rm:∀v:qre,qcq (qr ((a.2.2.1.take i).map (fun o=>if o.1<0 then o.2.1 else qk row o.1 zV))) (qr ([v]:List qre)) 32=true:=fun v=>qc4 (by
   simp only [List.length_map,List.length_take,List.length_cons,List.length_nil]; omega)
  simp only [qav hi,qC hi,cond_true,qD _ hi,rm,qO (show i<4611686018427387904 by omega),qbi hi,List.map_append,List.map_cons,List.map_nil,qbv]
  generalize a.2.2.1[i]=o at *
  by_cases h0:o.1<0
  ·rw [show leI 0 o.1=false by rw [qcO]; exact decide_eq_false (by omega)]
   simp only [cond_false,cond_true,if_pos h0]
  ·have hin:inB o.1 (qr row)=true:=by rw [qdj,qt]; exact decide_eq_true ⟨by omega,ho⟩
   rw [show leI 0 o.1=true by rw [qcO]; exact decide_eq_true (by omega)]
   simp only [cond_true,hin,if_neg h0]
 ·simp only
  rw [qE (qac (Nat.lt_irrefl _)),List.take_length]
  unfold qlA qsY
  rcases hk with q|q
  ·rw [eqT q,cond_true,if_neg (by omega)]
  ·rw [eqF (by omega),cond_false,if_pos q]
end
end Go.Proofs.YtnlkfgdojfijpaaGreatDoor
namespace Go.Proofs.YtnlkfgdojfijpaaGreatDoor
open Go.Vi
noncomputable section
abbrev StT:Type:=List qcg×List qbV
def qni (c:qbV) (old:qam):qam:=if c.1=2 then old else c.2.2.2.1
def dvs (trs:List qh4) (c:qbV) (row:qam):List qbV:=trs.flatMap (fun x=>if x.1=c.1∧x.2.1=c.2.1 then x.2.2.1.map (fun a=>qlA a row) else [])
def qlx (s:qj) (inst:List qcg) (c:qbV) (d:Int):Bool:=decide (0<d)&&((decide (c.1=2)&&decide (cur s inst c=[]))||(decide (c.1=1)&&decide (cur s inst c=c.2.2.2.1)))
def qjU (s:qj) (st:StT) (c:qbV) (d:Int):Int:=if 6<d then 14 else if st.2.length=24 then 2 else qlh s st.1 [c]
def nxt (s:qj) (st:StT) (c:qbV):StT:=(qnh s st.1 [c],st.2++[c])
def tsk (trs:List qh4) (c:qbV) (row:qam) (d:Int):List (qbV×Int):=(dvs trs c row).map (fun x=>(x,d+1))
def RUN (s:qj) (trs:List qh4):Nat→List (qbV×Int)→StT→Int×StT
 |0,_,st=>(0,st)
 |_+1,[],st=>(0,st)
 |n+1,t::ts,st=>if qlx s st.1 t.1 t.2=true then RUN s trs n ts st else if qjU s st t.1 t.2≠0 then (qjU s st t.1 t.2,st) else RUN s trs n (tsk trs t.1 (qni t.1 (cur s st.1 t.1)) t.2++ts) (nxt s st t.1)
def qqc (trs:List qh4):Nat:=(trs.map (fun x=>x.2.2.1.length)).sum
theorem qql (c:qbV) (row:qam):(trs:List qh4)→(dvs trs c row).length≤qqc trs
 |[]=>by simp [dvs,qqc]
 |x::xs=>by
  have:=qql c row xs
  unfold dvs qqc at *
  rw [List.flatMap_cons,List.length_append,List.map_cons,List.sum_cons]
  split
  ·rw [List.length_map]; omega
  ·simp only [List.length_nil]; omega
def muR (trs:List qh4) (ts:List (qbV×Int)) (st:StT):Nat:=ts.length+qqc trs * (24 - st.2.length)
theorem qtK {s:qj} {st:StT} {c:qbV} {d:Int} (h:¬qjU s st c d≠0):st.2.length≠24:=fun e=>by
 unfold qjU at h
 by_cases q:6<d
 ·rw [if_pos q] at h; omega
 ·rw [if_neg q,if_pos e] at h; omega
theorem qoh {s:qj} {trs:List qh4} {t:qbV×Int} {ts:List (qbV×Int)} {st:StT} {row:qam} (hl:st.2.length≤24) (h:¬qjU s st t.1 t.2≠0):muR trs (tsk trs t.1 row t.2++ts) (nxt s st t.1)<muR trs (t::ts) st∧(nxt s st t.1).2.length≤24:=by
 have h24:=qtK h
 have hd:=qql t.1 row trs
 unfold muR tsk nxt
 simp only [List.length_append,List.length_map,List.length_cons,List.length_nil]
 have e:24 - st.2.length=(24 - (st.2.length+(0+1)))+1:=by omega
 rw [e,Nat.mul_add,Nat.mul_one]
 omega
theorem ql5 (s:qj) (trs:List qh4):(n m:Nat)→(ts:List (qbV×Int))→(st:StT)→st.2.length≤24→muR trs ts st<n→muR trs ts st<m→RUN s trs n ts st=RUN s trs m ts st
 |0,_,_,_,_,h,_=>by omega
 |_+1,0,_,_,_,_,h=>by omega
 |n+1,m+1,[],st,_,_,_=>rfl
 |n+1,m+1,t::ts,st,hl,h1,h2=>by
  unfold RUN
  have hs:muR trs ts st<muR trs (t::ts) st:=by unfold muR; simp
  split
  ·exact ql5 s trs n m ts st hl (by omega) (by omega)
  ·split
   ·rfl
   ·rename_i he
    obtain ⟨k1,k2⟩:=qoh (trs:=trs) (ts:=ts) (row:=qni t.1 (cur s st.1 t.1)) hl he
    exact ql5 s trs n m _ _ k2 (by omega) (by omega)
def RR (s:qj) (trs:List qh4) (ts:List (qbV×Int)) (st:StT):Int×StT:=RUN s trs (muR trs ts st+1) ts st
theorem qmz {s:qj} {trs:List qh4} {c:qbV} {d:Int} {ts:List (qbV×Int)} {st:StT} (hl:st.2.length≤24):RR s trs ((c,d)::ts) st=if qlx s st.1 c d=true then RR s trs ts st else if qjU s st c d≠0 then (qjU s st c d,st) else RR s trs (tsk trs c (qni c (cur s st.1 c)) d++ts) (nxt s st c):=by
 have hs:muR trs ts st<muR trs ((c,d)::ts) st:=by unfold muR; simp
 conv=>lhs; unfold RR RUN
 split
 ·exact ql5 s trs _ _ ts st hl (by omega) (by omega)
 ·split
  ·rfl
  ·rename_i he
   have hk:=qoh (trs:=trs) (t:=(c,d)) (ts:=ts) (row:=qni c (cur s st.1 c)) hl he
   obtain ⟨k1,k2⟩:muR trs (tsk trs c (qni c (cur s st.1 c)) d++ts) (nxt s st c)<muR trs ((c,d)::ts) st∧(nxt s st c).2.length≤24:=hk
   exact ql5 s trs _ _ (tsk trs c (qni c (cur s st.1 c)) d++ts) (nxt s st c) k2 k1 (by omega)
structure qq7 (s:qj) (st:StT):Prop where
 conf:qnr s st.1
 len:st.2.length≤24
theorem qiP {s:qj} {st:StT} {c:qbV} {d:Int} (hi:qq7 s st) (h0:qkN s=0) (h:¬qjU s st c d≠0):qq7 s (nxt s st c)∧qeu s c.2.1=some (qca s c.2.1)∧qny (qca s c.2.1) (qni c (cur s st.1 c))=0:=by
 have h24:=qtK h
 have hva:qlh s st.1 [c]=0:=by
  unfold qjU at h
  by_cases q:6<d
  ·rw [if_pos q] at h; omega
  ·rw [if_neg q,if_neg h24] at h; omega
 have hvc:=hi.conf.vconf
 rcases qgV s st.1 [c] h0 hvc (by simp) with ⟨f1,_,f3⟩|⟨e,_,f2,f3,_⟩
 case inr=>omega
 have hca:qfK s c st.1=none:=by
  have:=qaq f1 0 (by simp)
  rw [qpg (by simp)] at this
  exact this
 have hv0:qnE s c=0:=by
  unfold qfK at hca
  split at hca
  ·cases hca
  ·rename_i q; omega
 obtain ⟨g1,g2,g3,g4,_⟩:=qnK hv0
 refine ⟨⟨?_,?_⟩,g3,?_⟩
 ·show qnr s (qnh s st.1 [c])
  rw [f3]
  exact qfX hi.conf _
 ·show (st.2++[c]).length≤24
  have:=hi.len
  rw [List.length_append]; simp; omega
 ·unfold qni
  rcases qoo hv0 with q|q
  ·rw [if_neg (by omega)]
   exact qwq hv0 q
  ·rw [if_pos q]
   have hcp:qoJ (qca s c.2.1) c (qdl st.1 (ixT s c))=none:=by
    unfold qfK at hca
    rw [if_neg (by omega)] at hca
    exact hca
   unfold qoJ at hcp
   rw [if_neg (by omega)] at hcp
   split at hcp
   case isFalse=>cases hcp
   rename_i hany
   have hir:ixT s c<st.1.length:=by rw [hi.conf.len]; exact g1
   have hok:=hi.conf.ok _ hir g1
   rw [g2,←qcR hir] at hok
   have ec:cur s st.1 c=look (qca s c.2.1).2.2.1 c.2.2.1 (qdl st.1 (ixT s c)):=by
    unfold cur
    rw [g4]
    simp only
    rw [if_neg (by omega)]
   rw [ec]
   unfold look
   cases hf:(qdl st.1 (ixT s c)).find? (fun r=>decide (qaY (qca s c.2.1).2.2.1 r=c.2.2.1)) with
   |none=>
    have:=List.find?_eq_none.1 hf
    obtain ⟨r,hr,hq⟩:=List.any_eq_true.1 hany
    exact absurd hq (this r hr)
   |some r=>exact hok.2.1 r (List.mem_of_find?_eq_some hf)
structure qwN (s:qj) (t:qf) (a:qo3):Prop where
 kind:a.1=1∨a.1=2
 tab:∃t2,qeu s a.2.1=some t2∧a.2.2.1.length=(qcx t2 a.1).length
 ops:∀o∈a.2.2.1,(o.1= -1∧qjF o.2.1=0)∨(0≤o.1∧o.1<(t.2.1.length:Int))
theorem qvV (t:qf) (a:qo3) (cols:List qi):∀i e,opE t a cols i=some e→e≠0:=fun i e h=>by
 simp only [opE] at h
 split at h
 ·cases h
 ·split at h
  ·rename_i h0; injection h with h; rw [←h]; exact h0
  ·cases h
theorem qv2 {s:qj} {t:qf} {a:qo3} (h:qsw s t a=0):qwN s t a:=by
 unfold qsw at h
 split at h
 ·cases h
 rename_i hk
 have hk:a.1=1∨a.1=2:=by
  by_cases q:a.1=1
  ·exact .inl q
  ·by_cases q2:a.1=2
   ·exact .inr q2
   ·exact absurd ⟨q,q2⟩ hk
 split at h
 ·cases h
 rename_i t2 ht2
 split at h
 ·cases h
 rename_i hl
 have hn:qR (opE t a (qcx t2 a.1)) a.2.2.1.length=none:=by
  split at h
  ·rename_i e he
   obtain ⟨j,_,hj,_⟩:=qbb he
   exact absurd h (qvV t a _ j e hj)
  ·assumption
 refine ⟨hk,⟨t2,ht2,by omega⟩,fun o ho=> ?_⟩
 obtain ⟨i,hi,rfl⟩:=List.getElem_of_mem ho
 have:=qaq hn i hi
 simp only [opE,List.getElem?_eq_getElem hi] at this
 split at this
 ·cases this
 rename_i h0
 have h0:vOp t a.2.2.1[i] (qk (qcx t2 a.1) (i:Int) qfa) (decide (a.1=1)&&(qk (qcx t2 a.1) (i:Int) qfa).2.2.1)=0:=by omega
 unfold vOp at h0
 split at h0
 ·rename_i h1
  split at h0
  ·rename_i h2; exact absurd h0 h2
  ·rename_i h2; exact .inl ⟨h1,by omega⟩
 ·split at h0
  ·cases h0
  ·rename_i h2
   simp only [not_or,Int.not_lt,Int.not_le] at h2
   exact .inr ⟨h2.1,h2.2.1⟩
structure qvw (s:qj) (trs:List qh4):Prop where
 n:trs.length≤8
 acts:∀x∈trs,x.2.2.1.length≤4
 good:∀x∈trs,∀a∈x.2.2.1,qwN s (qca s x.2.1) a
theorem qow {s:qj} {trs:List qh4} (h:qng s trs=0):qkN s=0∧qvw s trs:=by
 unfold qng at h
 split at h
 ·rename_i q; exact absurd h q
 rename_i h0
 split at h
 ·cases h
 rename_i h8
 have hn:qR (trE s trs) trs.length=none:=by
  split at h
  ·rename_i e he
   obtain ⟨j,_,hj,_⟩:=qbb he
   exact absurd h (qwc s trs j e hj)
  ·assumption
 have each:∀x∈trs,vTr s x=0:=fun x hx=>by
  obtain ⟨i,hi,rfl⟩:=List.getElem_of_mem hx
  have:=qaq hn i hi
  simp only [trE,List.getElem?_eq_getElem hi] at this
  split at this
  ·cases this
  ·omega
 have parts:∀x∈trs,x.2.2.1.length≤4∧∀a∈x.2.2.1,qsw s (qca s x.2.1) a=0:=fun x hx=>by
  have h:=each x hx
  unfold vTr at h
  split at h
  ·cases h
  split at h
  ·cases h
  rename_i t ht
  split at h
  ·cases h
  rename_i h4
  have et:qca s x.2.1=t:=by unfold qca; rw [ht]; rfl
  refine ⟨by omega,fun a ha=> ?_⟩
  have hn2:qR (qt9 s t x.2.2.1) x.2.2.1.length=none:=by
   split at h
   ·rename_i e he
    obtain ⟨j,_,hj,_⟩:=qbb he
    exact absurd h (qm8 s t _ j e hj)
   ·assumption
  obtain ⟨i,hi,rfl⟩:=List.getElem_of_mem ha
  have:=qaq hn2 i hi
  simp only [qt9,List.getElem?_eq_getElem hi] at this
  rw [et]
  split at this
  ·cases this
  ·omega
 exact ⟨by omega,by omega,fun x hx=>(parts x hx).1,fun x hx a ha=>qv2 ((parts x hx).2 a ha)⟩
theorem qqV {t:qf} (h:qnT t=0) (k:Int):(qcx t k).length≤6∧(qcx t k).length≠0:=by
 obtain ⟨_,_,h3,h4,h5⟩:=qfy h
 have:=keyK h
 unfold qcx
 split
 ·rw [List.length_map]
  exact ⟨this,fun e=>h3 (List.length_eq_zero_iff.1 e)⟩
 ·exact ⟨h4,fun e=>h5 (List.length_eq_zero_iff.1 e)⟩
theorem qrx {N:Nat} {s:qj} {t:qf} {a:qo3} {row:qam} (hv:qhV s) (hnm:∀t∈s.1,t.1.length≤1048576) (hN:1000<N) (ha:qwN s t a) (hr:qny t row=0):
  qfV N s [qlA a row]∧((qlA a row).1=1→(qlA a row).2.2.2.1≠[])∧∀o∈a.2.2.1,o.1<(row.length:Int):=by
 have hlen:=qi1 hr
 have hvals:=qp6 hr
 obtain ⟨t2,ht2,hl⟩:=ha.tab
 have hm2:=qcs ht2
 obtain ⟨c1,c2⟩:=qqV (qc8 hv hm2) a.1
 have hin:∀o∈a.2.2.1,o.1<(row.length:Int):=fun o ho=>by
  rcases ha.ops o ho with ⟨h,_⟩|⟨_,h⟩
  ·omega
  ·rw [hlen]; exact h
 have dl:(qsY a row).length=a.2.2.1.length:=by simp [qsY]
 have dv:∀v∈qsY a row,qjF v=0:=fun v hv=>by
  obtain ⟨o,ho,rfl⟩:=List.mem_map.1 hv
  rcases ha.ops o ho with ⟨h,h'⟩|⟨h,h'⟩
  ·rw [if_pos (by omega)]; exact h'
  ·rw [if_neg (by omega)]
   have hlt:o.1.toNat<row.length:=by omega
   have e:qk row o.1 zV=row[o.1.toNat]:=by rw [qdu,List.getD_eq_getElem?_getD,List.getElem?_eq_getElem hlt]; rfl
   rw [e]
   exact hvals _ (List.getElem_mem _)
 have nmle:a.2.1.length≤1048576:=by
  have:t2.1=a.2.1:=by
   rcases qc7 s a.2.1 with ⟨_,h⟩|⟨i,t',h1,h2,h3,h4⟩
   ·rw [h] at ht2; cases ht2
   ·rw [h2] at ht2
    injection ht2 with ht2
    subst ht2
    obtain ⟨hi,hq,_⟩:=qgU h1
    have:=h4 quz
    rw [qD _ hi] at this
    rw [←this]
    simpa [qcE] using hq
  rw [←this]
  exact hnm _ hm2
 have e0:(qe0 ([]:qam)).length≤1099511627776:=qfl (by simp) (fun v hv=>by cases hv)
 have ev:=qfl (r:=qsY a row) (by omega) dv
 have key:∀t'∈s.1,(qe0 (qaY t'.2.2.1 (qsY a row))).length≤1099511627776:=fun t' ht'=>qfl (by rw [qdf]; exact keyK (qc8 hv ht')) (qlS dv)
 refine ⟨?_,?_,hin⟩
 ·have one:∀c'∈[qlA a row],c'=qlA a row:=fun c' hc'=>by simpa using hc'
  unfold qlA at one⊢
  by_cases q:a.1=2
  ·rw [if_pos q] at one⊢
   refine ⟨by simp; omega,fun c hc=> ?_,fun c hc=> ?_,fun c hc=> ?_,fun c hc=> ?_,fun c hc t' ht'=> ?_,fun c hc=> ?_⟩ <;> rw [one c hc]
   ·show (qsY a row).length<N
    omega
   ·show (([]:qam)).length<N
    simp; omega
   ·exact ev
   ·exact e0
   ·unfold qlk
    rw [if_neg (show ¬(2:Int)=1 by omega)]
    exact ev
   ·exact nmle
  ·rw [if_neg q] at one⊢
   refine ⟨by simp; omega,fun c hc=> ?_,fun c hc=> ?_,fun c hc=> ?_,fun c hc=> ?_,fun c hc t' ht'=> ?_,fun c hc=> ?_⟩ <;> rw [one c hc]
   ·show (([]:qam)).length<N
    simp; omega
   ·show (qsY a row).length<N
    omega
   ·exact e0
   ·exact ev
   ·unfold qlk
    rw [if_pos rfl]
    exact key t' ht'
   ·exact nmle
 ·intro h1 h2
  unfold qlA at h1 h2
  by_cases q:a.1=2
  ·rw [if_pos q] at h1
   have h1:(2:Int)=1:=h1
   omega
  ·rw [if_neg q] at h2
   have h2:qsY a row=[]:=h2
   rw [h2] at dl
   simp at dl
   omega
end
end Go.Proofs.YtnlkfgdojfijpaaGreatDoor
namespace Go.Proofs.YtnlkfgdojfijpaaGreatDoor
open Go.Vi
noncomputable section
def bodyA (N:Nat) (g:(qL×qae)→Option ((Int×Unit)×(qL×Unit))) (x:(qL×qae)):Option ((Int×Unit)×(qL×Unit)):=
 (bif (qB (qh N ((x.1.1,(x.1.2.1,(x.1.2.2.1,(x.1.2.2.2.1,x.1.2.2.2.2)))),(x.2.1,())))) then (bif ((!((eqI x.2.1.1 1)&&((!((eqI x.2.1.1 2)&&(eqI (qr (qx (qh N ((x.1.1,(x.1.2.1,(x.1.2.2.1,(x.1.2.2.2.1,x.1.2.2.2.2)))),(x.2.1,()))) ((([]:List qa),()),(((([]:List qf),(([]:List qc),(([]:List qd),()))),(([]:List qe),(([]:List qb),(([]:List qg),())))),()))).1.1) 0)))&&(ltI 0 x.2.2.1))))||(qB (qaL N ((qx (qh N ((x.1.1,(x.1.2.1,(x.1.2.2.1,(x.1.2.2.2.1,x.1.2.2.2.2)))),(x.2.1,()))) ((([]:List qa),()),(((([]:List qf),(([]:List qc),(([]:List qd),()))),(([]:List qe),(([]:List qb),(([]:List qg),())))),()))).1.1,(x.2.1.2.2.2.1,()))))) then (q7 ((ltI 0 x.2.2.1)&&(((eqI x.2.1.1 2)&&(eqI (qr (qx (qh N ((x.1.1,(x.1.2.1,(x.1.2.2.1,(x.1.2.2.2.1,x.1.2.2.2.2)))),(x.2.1,()))) ((([]:List qa),()),(((([]:List qf),(([]:List qc),(([]:List qd),()))),(([]:List qe),(([]:List qb),(([]:List qg),())))),()))).1.1) 0))||((eqI x.2.1.1 1)&&(qx (qaL N ((qx (qh N ((x.1.1,(x.1.2.1,(x.1.2.2.1,(x.1.2.2.2.1,x.1.2.2.2.2)))),(x.2.1,()))) ((([]:List qa),()),(((([]:List qf),(([]:List qc),(([]:List qd),()))),(([]:List qe),(([]:List qb),(([]:List qg),())))),()))).1.1,(x.2.1.2.2.2.1,()))) ((false,()),())).1.1))) (fun y0=>(bif y0 then (some ((0,()),(((qx (qh N ((x.1.1,(x.1.2.1,(x.1.2.2.1,(x.1.2.2.2.1,x.1.2.2.2.2)))),(x.2.1,()))) ((([]:List qa),()),(((([]:List qf),(([]:List qc),(([]:List qd),()))),(([]:List qe),(([]:List qb),(([]:List qg),())))),()))).2.1.1,((qx (qh N ((x.1.1,(x.1.2.1,(x.1.2.2.1,(x.1.2.2.2.1,x.1.2.2.2.2)))),(x.2.1,()))) ((([]:List qa),()),(((([]:List qf),(([]:List qc),(([]:List qd),()))),(([]:List qe),(([]:List qb),(([]:List qg),())))),()))).2.1.2.1,((qx (qh N ((x.1.1,(x.1.2.1,(x.1.2.2.1,(x.1.2.2.2.1,x.1.2.2.2.2)))),(x.2.1,()))) ((([]:List qa),()),(((([]:List qf),(([]:List qc),(([]:List qd),()))),(([]:List qe),(([]:List qb),(([]:List qg),())))),()))).2.1.2.2.1,((qx (qh N ((x.1.1,(x.1.2.1,(x.1.2.2.1,(x.1.2.2.2.1,x.1.2.2.2.2)))),(x.2.1,()))) ((([]:List qa),()),(((([]:List qf),(([]:List qc),(([]:List qd),()))),(([]:List qe),(([]:List qb),(([]:List qg),())))),()))).2.1.2.2.2.1,(qx (qh N ((x.1.1,(x.1.2.1,(x.1.2.2.1,(x.1.2.2.2.1,x.1.2.2.2.2)))),(x.2.1,()))) ((([]:List qa),()),(((([]:List qf),(([]:List qc),(([]:List qd),()))),(([]:List qe),(([]:List qb),(([]:List qg),())))),()))).2.1.2.2.2.2)))),()))) else (bif (ltI 6 x.2.2.1) then (some ((14,()),(((qx (qh N ((x.1.1,(x.1.2.1,(x.1.2.2.1,(x.1.2.2.2.1,x.1.2.2.2.2)))),(x.2.1,()))) ((([]:List qa),()),(((([]:List qf),(([]:List qc),(([]:List qd),()))),(([]:List qe),(([]:List qb),(([]:List qg),())))),()))).2.1.1,((qx (qh N ((x.1.1,(x.1.2.1,(x.1.2.2.1,(x.1.2.2.2.1,x.1.2.2.2.2)))),(x.2.1,()))) ((([]:List qa),()),(((([]:List qf),(([]:List qc),(([]:List qd),()))),(([]:List qe),(([]:List qb),(([]:List qg),())))),()))).2.1.2.1,((qx (qh N ((x.1.1,(x.1.2.1,(x.1.2.2.1,(x.1.2.2.2.1,x.1.2.2.2.2)))),(x.2.1,()))) ((([]:List qa),()),(((([]:List qf),(([]:List qc),(([]:List qd),()))),(([]:List qe),(([]:List qb),(([]:List qg),())))),()))).2.1.2.2.1,((qx (qh N ((x.1.1,(x.1.2.1,(x.1.2.2.1,(x.1.2.2.2.1,x.1.2.2.2.2)))),(x.2.1,()))) ((([]:List qa),()),(((([]:List qf),(([]:List qc),(([]:List qd),()))),(([]:List qe),(([]:List qb),(([]:List qg),())))),()))).2.1.2.2.2.1,(qx (qh N ((x.1.1,(x.1.2.1,(x.1.2.2.1,(x.1.2.2.2.1,x.1.2.2.2.2)))),(x.2.1,()))) ((([]:List qa),()),(((([]:List qf),(([]:List qc),(([]:List qd),()))),(([]:List qe),(([]:List qb),(([]:List qg),())))),()))).2.1.2.2.2.2)))),()))) else (bif (eqI (qr (qx (qh N ((x.1.1,(x.1.2.1,(x.1.2.2.1,(x.1.2.2.2.1,x.1.2.2.2.2)))),(x.2.1,()))) ((([]:List qa),()),(((([]:List qf),(([]:List qc),(([]:List qd),()))),(([]:List qe),(([]:List qb),(([]:List qg),())))),()))).2.1.2.2.2.1) 24) then (some ((2,()),(((qx (qh N ((x.1.1,(x.1.2.1,(x.1.2.2.1,(x.1.2.2.2.1,x.1.2.2.2.2)))),(x.2.1,()))) ((([]:List qa),()),(((([]:List qf),(([]:List qc),(([]:List qd),()))),(([]:List qe),(([]:List qb),(([]:List qg),())))),()))).2.1.1,((qx (qh N ((x.1.1,(x.1.2.1,(x.1.2.2.1,(x.1.2.2.2.1,x.1.2.2.2.2)))),(x.2.1,()))) ((([]:List qa),()),(((([]:List qf),(([]:List qc),(([]:List qd),()))),(([]:List qe),(([]:List qb),(([]:List qg),())))),()))).2.1.2.1,((qx (qh N ((x.1.1,(x.1.2.1,(x.1.2.2.1,(x.1.2.2.2.1,x.1.2.2.2.2)))),(x.2.1,()))) ((([]:List qa),()),(((([]:List qf),(([]:List qc),(([]:List qd),()))),(([]:List qe),(([]:List qb),(([]:List qg),())))),()))).2.1.2.2.1,((qx (qh N ((x.1.1,(x.1.2.1,(x.1.2.2.1,(x.1.2.2.2.1,x.1.2.2.2.2)))),(x.2.1,()))) ((([]:List qa),()),(((([]:List qf),(([]:List qc),(([]:List qd),()))),(([]:List qe),(([]:List qb),(([]:List qg),())))),()))).2.1.2.2.2.1,(qx (qh N ((x.1.1,(x.1.2.1,(x.1.2.2.1,(x.1.2.2.2.1,x.1.2.2.2.2)))),(x.2.1,()))) ((([]:List qa),()),(((([]:List qf),(([]:List qc),(([]:List qd),()))),(([]:List qe),(([]:List qb),(([]:List qg),())))),()))).2.1.2.2.2.2)))),()))) else (bif (qB (qb8 N ((qx (qh N ((x.1.1,(x.1.2.1,(x.1.2.2.1,(x.1.2.2.2.1,x.1.2.2.2.2)))),(x.2.1,()))) ((([]:List qa),()),(((([]:List qf),(([]:List qc),(([]:List qd),()))),(([]:List qe),(([]:List qb),(([]:List qg),())))),()))).2.1.1,((qx (qh N ((x.1.1,(x.1.2.1,(x.1.2.2.1,(x.1.2.2.2.1,x.1.2.2.2.2)))),(x.2.1,()))) ((([]:List qa),()),(((([]:List qf),(([]:List qc),(([]:List qd),()))),(([]:List qe),(([]:List qb),(([]:List qg),())))),()))).2.1.2.2.1,(([x.2.1]:List qg),()))))) then (q7 (qx (qb8 N ((qx (qh N ((x.1.1,(x.1.2.1,(x.1.2.2.1,(x.1.2.2.2.1,x.1.2.2.2.2)))),(x.2.1,()))) ((([]:List qa),()),(((([]:List qf),(([]:List qc),(([]:List qd),()))),(([]:List qe),(([]:List qb),(([]:List qg),())))),()))).2.1.1,((qx (qh N ((x.1.1,(x.1.2.1,(x.1.2.2.1,(x.1.2.2.2.1,x.1.2.2.2.2)))),(x.2.1,()))) ((([]:List qa),()),(((([]:List qf),(([]:List qc),(([]:List qd),()))),(([]:List qe),(([]:List qb),(([]:List qg),())))),()))).2.1.2.2.1,(([x.2.1]:List qg),())))) ((([]:List qb),(0,())),())).1.1 (fun y1=>(q7 (qx (qb8 N ((qx (qh N ((x.1.1,(x.1.2.1,(x.1.2.2.1,(x.1.2.2.2.1,x.1.2.2.2.2)))),(x.2.1,()))) ((([]:List qa),()),(((([]:List qf),(([]:List qc),(([]:List qd),()))),(([]:List qe),(([]:List qb),(([]:List qg),())))),()))).2.1.1,((qx (qh N ((x.1.1,(x.1.2.1,(x.1.2.2.1,(x.1.2.2.2.1,x.1.2.2.2.2)))),(x.2.1,()))) ((([]:List qa),()),(((([]:List qf),(([]:List qc),(([]:List qd),()))),(([]:List qe),(([]:List qb),(([]:List qg),())))),()))).2.1.2.2.1,(([x.2.1]:List qg),())))) ((([]:List qb),(0,())),())).1.2.1 (fun y2=>(bif (neI y2 0) then (some ((y2,()),(((qx (qh N ((x.1.1,(x.1.2.1,(x.1.2.2.1,(x.1.2.2.2.1,x.1.2.2.2.2)))),(x.2.1,()))) ((([]:List qa),()),(((([]:List qf),(([]:List qc),(([]:List qd),()))),(([]:List qe),(([]:List qb),(([]:List qg),())))),()))).2.1.1,((qx (qh N ((x.1.1,(x.1.2.1,(x.1.2.2.1,(x.1.2.2.2.1,x.1.2.2.2.2)))),(x.2.1,()))) ((([]:List qa),()),(((([]:List qf),(([]:List qc),(([]:List qd),()))),(([]:List qe),(([]:List qb),(([]:List qg),())))),()))).2.1.2.1,((qx (qh N ((x.1.1,(x.1.2.1,(x.1.2.2.1,(x.1.2.2.2.1,x.1.2.2.2.2)))),(x.2.1,()))) ((([]:List qa),()),(((([]:List qf),(([]:List qc),(([]:List qd),()))),(([]:List qe),(([]:List qb),(([]:List qg),())))),()))).2.1.2.2.1,((qx (qh N ((x.1.1,(x.1.2.1,(x.1.2.2.1,(x.1.2.2.2.1,x.1.2.2.2.2)))),(x.2.1,()))) ((([]:List qa),()),(((([]:List qf),(([]:List qc),(([]:List qd),()))),(([]:List qe),(([]:List qb),(([]:List qg),())))),()))).2.1.2.2.2.1,(qx (qh N ((x.1.1,(x.1.2.1,(x.1.2.2.1,(x.1.2.2.2.1,x.1.2.2.2.2)))),(x.2.1,()))) ((([]:List qa),()),(((([]:List qf),(([]:List qc),(([]:List qd),()))),(([]:List qe),(([]:List qb),(([]:List qg),())))),()))).2.1.2.2.2.2)))),()))) else (bif (qcq (qr (qx (qh N ((x.1.1,(x.1.2.1,(x.1.2.2.1,(x.1.2.2.2.1,x.1.2.2.2.2)))),(x.2.1,()))) ((([]:List qa),()),(((([]:List qf),(([]:List qc),(([]:List qd),()))),(([]:List qe),(([]:List qb),(([]:List qg),())))),()))).2.1.2.2.2.1) (qr ([x.2.1]:List qg)) 72) then (q7 x.2.1 (fun y3=>(q7 (bif (eqI x.2.1.1 2) then (qx (qh N ((x.1.1,(x.1.2.1,(x.1.2.2.1,(x.1.2.2.2.1,x.1.2.2.2.2)))),(x.2.1,()))) ((([]:List qa),()),(((([]:List qf),(([]:List qc),(([]:List qd),()))),(([]:List qe),(([]:List qb),(([]:List qg),())))),()))).1.1 else x.2.1.2.2.2.1) (fun y4=>(qad (S:=(qL×(Int×Unit))) (R:=((Int×Unit)×(qL×Unit))) N (fun ih5=>(fun p6=>(bif (ltI p6.2.1 (qr (qx (qh N ((x.1.1,(x.1.2.1,(x.1.2.2.1,(x.1.2.2.2.1,x.1.2.2.2.2)))),(x.2.1,()))) ((([]:List qa),()),(((([]:List qf),(([]:List qc),(([]:List qd),()))),(([]:List qe),(([]:List qb),(([]:List qg),())))),()))).2.1.2.1)) then (bif (inB p6.2.1 (qr (qx (qh N ((x.1.1,(x.1.2.1,(x.1.2.2.1,(x.1.2.2.2.1,x.1.2.2.2.2)))),(x.2.1,()))) ((([]:List qa),()),(((([]:List qf),(([]:List qc),(([]:List qd),()))),(([]:List qe),(([]:List qb),(([]:List qg),())))),()))).2.1.2.1)) then (bif ((neI (qk (qx (qh N ((x.1.1,(x.1.2.1,(x.1.2.2.1,(x.1.2.2.2.1,x.1.2.2.2.2)))),(x.2.1,()))) ((([]:List qa),()),(((([]:List qf),(([]:List qc),(([]:List qd),()))),(([]:List qe),(([]:List qb),(([]:List qg),())))),()))).2.1.2.1 p6.2.1 (0,(([]:List UInt8),(([]:List qn),())))).1 y3.1)||(!(eqS (qk (qx (qh N ((x.1.1,(x.1.2.1,(x.1.2.2.1,(x.1.2.2.2.1,x.1.2.2.2.2)))),(x.2.1,()))) ((([]:List qa),()),(((([]:List qf),(([]:List qc),(([]:List qd),()))),(([]:List qe),(([]:List qb),(([]:List qg),())))),()))).2.1.2.1 p6.2.1 (0,(([]:List UInt8),(([]:List qn),())))).2.1 y3.2.1))) then (ih5 ((p6.1.1,(p6.1.2.1,(p6.1.2.2.1,(p6.1.2.2.2.1,p6.1.2.2.2.2)))),((qax .i64 p6.2.1 1),()))) else (qad (S:=(qL×(Int×Unit))) (R:=((Int×Unit)×(qL×Unit))) N (fun ih7=>(fun p8=>(bif (ltI p8.2.1 (qr (qk (qx (qh N ((x.1.1,(x.1.2.1,(x.1.2.2.1,(x.1.2.2.2.1,x.1.2.2.2.2)))),(x.2.1,()))) ((([]:List qa),()),(((([]:List qf),(([]:List qc),(([]:List qd),()))),(([]:List qe),(([]:List qb),(([]:List qg),())))),()))).2.1.2.1 p6.2.1 (0,(([]:List UInt8),(([]:List qn),())))).2.2.1)) then (bif (inB p8.2.1 (qr (qk (qx (qh N ((x.1.1,(x.1.2.1,(x.1.2.2.1,(x.1.2.2.2.1,x.1.2.2.2.2)))),(x.2.1,()))) ((([]:List qa),()),(((([]:List qf),(([]:List qc),(([]:List qd),()))),(([]:List qe),(([]:List qb),(([]:List qg),())))),()))).2.1.2.1 p6.2.1 (0,(([]:List UInt8),(([]:List qn),())))).2.2.1)) then (bif ((qB (qH N ((qk (qk (qx (qh N ((x.1.1,(x.1.2.1,(x.1.2.2.1,(x.1.2.2.2.1,x.1.2.2.2.2)))),(x.2.1,()))) ((([]:List qa),()),(((([]:List qf),(([]:List qc),(([]:List qd),()))),(([]:List qe),(([]:List qb),(([]:List qg),())))),()))).2.1.2.1 p6.2.1 (0,(([]:List UInt8),(([]:List qn),())))).2.2.1 p8.2.1 (0,(([]:List UInt8),(([]:List qy),())))),(y4,()))))&&(qB (g ((p8.1.1,(p8.1.2.1,(p8.1.2.2.1,(p8.1.2.2.2.1,p8.1.2.2.2.2)))),((qx (qH N ((qk (qk (qx (qh N ((x.1.1,(x.1.2.1,(x.1.2.2.1,(x.1.2.2.2.1,x.1.2.2.2.2)))),(x.2.1,()))) ((([]:List qa),()),(((([]:List qf),(([]:List qc),(([]:List qd),()))),(([]:List qe),(([]:List qb),(([]:List qg),())))),()))).2.1.2.1 p6.2.1 (0,(([]:List UInt8),(([]:List qn),())))).2.2.1 p8.2.1 (0,(([]:List UInt8),(([]:List qy),())))),(y4,()))) (((0,(([]:List UInt8),(([]:List qa),(([]:List qa),())))),()),())).1.1,((qax .i64 x.2.2.1 1),())))))) then (q7 y4 (fun y9=>(q7 (qx (g ((p8.1.1,(p8.1.2.1,(p8.1.2.2.1,(p8.1.2.2.2.1,p8.1.2.2.2.2)))),((qx (qH N ((qk (qk (qx (qh N ((x.1.1,(x.1.2.1,(x.1.2.2.1,(x.1.2.2.2.1,x.1.2.2.2.2)))),(x.2.1,()))) ((([]:List qa),()),(((([]:List qf),(([]:List qc),(([]:List qd),()))),(([]:List qe),(([]:List qb),(([]:List qg),())))),()))).2.1.2.1 p6.2.1 (0,(([]:List UInt8),(([]:List qn),())))).2.2.1 p8.2.1 (0,(([]:List UInt8),(([]:List qy),())))),(y4,()))) (((0,(([]:List UInt8),(([]:List qa),(([]:List qa),())))),()),())).1.1,((qax .i64 x.2.2.1 1),())))) ((0,()),(((([]:List qf),(([]:List qc),(([]:List qd),()))),(([]:List qe),(([]:List qb),(([]:List qg),())))),()))).1.1 (fun y10=>(bif (neI y10 0) then (some ((y10,()),(((qx (g ((p8.1.1,(p8.1.2.1,(p8.1.2.2.1,(p8.1.2.2.2.1,p8.1.2.2.2.2)))),((qx (qH N ((qk (qk (qx (qh N ((x.1.1,(x.1.2.1,(x.1.2.2.1,(x.1.2.2.2.1,x.1.2.2.2.2)))),(x.2.1,()))) ((([]:List qa),()),(((([]:List qf),(([]:List qc),(([]:List qd),()))),(([]:List qe),(([]:List qb),(([]:List qg),())))),()))).2.1.2.1 p6.2.1 (0,(([]:List UInt8),(([]:List qn),())))).2.2.1 p8.2.1 (0,(([]:List UInt8),(([]:List qy),())))),(y4,()))) (((0,(([]:List UInt8),(([]:List qa),(([]:List qa),())))),()),())).1.1,((qax .i64 x.2.2.1 1),())))) ((0,()),(((([]:List qf),(([]:List qc),(([]:List qd),()))),(([]:List qe),(([]:List qb),(([]:List qg),())))),()))).2.1.1,((qx (g ((p8.1.1,(p8.1.2.1,(p8.1.2.2.1,(p8.1.2.2.2.1,p8.1.2.2.2.2)))),((qx (qH N ((qk (qk (qx (qh N ((x.1.1,(x.1.2.1,(x.1.2.2.1,(x.1.2.2.2.1,x.1.2.2.2.2)))),(x.2.1,()))) ((([]:List qa),()),(((([]:List qf),(([]:List qc),(([]:List qd),()))),(([]:List qe),(([]:List qb),(([]:List qg),())))),()))).2.1.2.1 p6.2.1 (0,(([]:List UInt8),(([]:List qn),())))).2.2.1 p8.2.1 (0,(([]:List UInt8),(([]:List qy),())))),(y4,()))) (((0,(([]:List UInt8),(([]:List qa),(([]:List qa),())))),()),())).1.1,((qax .i64 x.2.2.1 1),())))) ((0,()),(((([]:List qf),(([]:List qc),(([]:List qd),()))),(([]:List qe),(([]:List qb),(([]:List qg),())))),()))).2.1.2.1,((qx (g ((p8.1.1,(p8.1.2.1,(p8.1.2.2.1,(p8.1.2.2.2.1,p8.1.2.2.2.2)))),((qx (qH N ((qk (qk (qx (qh N ((x.1.1,(x.1.2.1,(x.1.2.2.1,(x.1.2.2.2.1,x.1.2.2.2.2)))),(x.2.1,()))) ((([]:List qa),()),(((([]:List qf),(([]:List qc),(([]:List qd),()))),(([]:List qe),(([]:List qb),(([]:List qg),())))),()))).2.1.2.1 p6.2.1 (0,(([]:List UInt8),(([]:List qn),())))).2.2.1 p8.2.1 (0,(([]:List UInt8),(([]:List qy),())))),(y4,()))) (((0,(([]:List UInt8),(([]:List qa),(([]:List qa),())))),()),())).1.1,((qax .i64 x.2.2.1 1),())))) ((0,()),(((([]:List qf),(([]:List qc),(([]:List qd),()))),(([]:List qe),(([]:List qb),(([]:List qg),())))),()))).2.1.2.2.1,((qx (g ((p8.1.1,(p8.1.2.1,(p8.1.2.2.1,(p8.1.2.2.2.1,p8.1.2.2.2.2)))),((qx (qH N ((qk (qk (qx (qh N ((x.1.1,(x.1.2.1,(x.1.2.2.1,(x.1.2.2.2.1,x.1.2.2.2.2)))),(x.2.1,()))) ((([]:List qa),()),(((([]:List qf),(([]:List qc),(([]:List qd),()))),(([]:List qe),(([]:List qb),(([]:List qg),())))),()))).2.1.2.1 p6.2.1 (0,(([]:List UInt8),(([]:List qn),())))).2.2.1 p8.2.1 (0,(([]:List UInt8),(([]:List qy),())))),(y4,()))) (((0,(([]:List UInt8),(([]:List qa),(([]:List qa),())))),()),())).1.1,((qax .i64 x.2.2.1 1),())))) ((0,()),(((([]:List qf),(([]:List qc),(([]:List qd),()))),(([]:List qe),(([]:List qb),(([]:List qg),())))),()))).2.1.2.2.2.1,(qx (g ((p8.1.1,(p8.1.2.1,(p8.1.2.2.1,(p8.1.2.2.2.1,p8.1.2.2.2.2)))),((qx (qH N ((qk (qk (qx (qh N ((x.1.1,(x.1.2.1,(x.1.2.2.1,(x.1.2.2.2.1,x.1.2.2.2.2)))),(x.2.1,()))) ((([]:List qa),()),(((([]:List qf),(([]:List qc),(([]:List qd),()))),(([]:List qe),(([]:List qb),(([]:List qg),())))),()))).2.1.2.1 p6.2.1 (0,(([]:List UInt8),(([]:List qn),())))).2.2.1 p8.2.1 (0,(([]:List UInt8),(([]:List qy),())))),(y4,()))) (((0,(([]:List UInt8),(([]:List qa),(([]:List qa),())))),()),())).1.1,((qax .i64 x.2.2.1 1),())))) ((0,()),(((([]:List qf),(([]:List qc),(([]:List qd),()))),(([]:List qe),(([]:List qb),(([]:List qg),())))),()))).2.1.2.2.2.2)))),()))) else (ih7 (((qx (g ((p8.1.1,(p8.1.2.1,(p8.1.2.2.1,(p8.1.2.2.2.1,p8.1.2.2.2.2)))),((qx (qH N ((qk (qk (qx (qh N ((x.1.1,(x.1.2.1,(x.1.2.2.1,(x.1.2.2.2.1,x.1.2.2.2.2)))),(x.2.1,()))) ((([]:List qa),()),(((([]:List qf),(([]:List qc),(([]:List qd),()))),(([]:List qe),(([]:List qb),(([]:List qg),())))),()))).2.1.2.1 p6.2.1 (0,(([]:List UInt8),(([]:List qn),())))).2.2.1 p8.2.1 (0,(([]:List UInt8),(([]:List qy),())))),(y4,()))) (((0,(([]:List UInt8),(([]:List qa),(([]:List qa),())))),()),())).1.1,((qax .i64 x.2.2.1 1),())))) ((0,()),(((([]:List qf),(([]:List qc),(([]:List qd),()))),(([]:List qe),(([]:List qb),(([]:List qg),())))),()))).2.1.1,((qx (g ((p8.1.1,(p8.1.2.1,(p8.1.2.2.1,(p8.1.2.2.2.1,p8.1.2.2.2.2)))),((qx (qH N ((qk (qk (qx (qh N ((x.1.1,(x.1.2.1,(x.1.2.2.1,(x.1.2.2.2.1,x.1.2.2.2.2)))),(x.2.1,()))) ((([]:List qa),()),(((([]:List qf),(([]:List qc),(([]:List qd),()))),(([]:List qe),(([]:List qb),(([]:List qg),())))),()))).2.1.2.1 p6.2.1 (0,(([]:List UInt8),(([]:List qn),())))).2.2.1 p8.2.1 (0,(([]:List UInt8),(([]:List qy),())))),(y4,()))) (((0,(([]:List UInt8),(([]:List qa),(([]:List qa),())))),()),())).1.1,((qax .i64 x.2.2.1 1),())))) ((0,()),(((([]:List qf),(([]:List qc),(([]:List qd),()))),(([]:List qe),(([]:List qb),(([]:List qg),())))),()))).2.1.2.1,((qx (g ((p8.1.1,(p8.1.2.1,(p8.1.2.2.1,(p8.1.2.2.2.1,p8.1.2.2.2.2)))),((qx (qH N ((qk (qk (qx (qh N ((x.1.1,(x.1.2.1,(x.1.2.2.1,(x.1.2.2.2.1,x.1.2.2.2.2)))),(x.2.1,()))) ((([]:List qa),()),(((([]:List qf),(([]:List qc),(([]:List qd),()))),(([]:List qe),(([]:List qb),(([]:List qg),())))),()))).2.1.2.1 p6.2.1 (0,(([]:List UInt8),(([]:List qn),())))).2.2.1 p8.2.1 (0,(([]:List UInt8),(([]:List qy),())))),(y4,()))) (((0,(([]:List UInt8),(([]:List qa),(([]:List qa),())))),()),())).1.1,((qax .i64 x.2.2.1 1),())))) ((0,()),(((([]:List qf),(([]:List qc),(([]:List qd),()))),(([]:List qe),(([]:List qb),(([]:List qg),())))),()))).2.1.2.2.1,((qx (g ((p8.1.1,(p8.1.2.1,(p8.1.2.2.1,(p8.1.2.2.2.1,p8.1.2.2.2.2)))),((qx (qH N ((qk (qk (qx (qh N ((x.1.1,(x.1.2.1,(x.1.2.2.1,(x.1.2.2.2.1,x.1.2.2.2.2)))),(x.2.1,()))) ((([]:List qa),()),(((([]:List qf),(([]:List qc),(([]:List qd),()))),(([]:List qe),(([]:List qb),(([]:List qg),())))),()))).2.1.2.1 p6.2.1 (0,(([]:List UInt8),(([]:List qn),())))).2.2.1 p8.2.1 (0,(([]:List UInt8),(([]:List qy),())))),(y4,()))) (((0,(([]:List UInt8),(([]:List qa),(([]:List qa),())))),()),())).1.1,((qax .i64 x.2.2.1 1),())))) ((0,()),(((([]:List qf),(([]:List qc),(([]:List qd),()))),(([]:List qe),(([]:List qb),(([]:List qg),())))),()))).2.1.2.2.2.1,(qx (g ((p8.1.1,(p8.1.2.1,(p8.1.2.2.1,(p8.1.2.2.2.1,p8.1.2.2.2.2)))),((qx (qH N ((qk (qk (qx (qh N ((x.1.1,(x.1.2.1,(x.1.2.2.1,(x.1.2.2.2.1,x.1.2.2.2.2)))),(x.2.1,()))) ((([]:List qa),()),(((([]:List qf),(([]:List qc),(([]:List qd),()))),(([]:List qe),(([]:List qb),(([]:List qg),())))),()))).2.1.2.1 p6.2.1 (0,(([]:List UInt8),(([]:List qn),())))).2.2.1 p8.2.1 (0,(([]:List UInt8),(([]:List qy),())))),(y4,()))) (((0,(([]:List UInt8),(([]:List qa),(([]:List qa),())))),()),())).1.1,((qax .i64 x.2.2.1 1),())))) ((0,()),(((([]:List qf),(([]:List qc),(([]:List qd),()))),(([]:List qe),(([]:List qb),(([]:List qg),())))),()))).2.1.2.2.2.2)))),((qax .i64 p8.2.1 1),())))))))) else none) else none) else (ih5 ((p8.1.1,(p8.1.2.1,(p8.1.2.2.1,(p8.1.2.2.2.1,p8.1.2.2.2.2)))),((qax .i64 p6.2.1 1),())))))) ((p6.1.1,(p6.1.2.1,(p6.1.2.2.1,(p6.1.2.2.2.1,p6.1.2.2.2.2)))),(0,())))) else none) else (some ((0,()),((p6.1.1,(p6.1.2.1,(p6.1.2.2.1,(p6.1.2.2.2.1,p6.1.2.2.2.2)))),())))))) (((qx (qh N ((x.1.1,(x.1.2.1,(x.1.2.2.1,(x.1.2.2.2.1,x.1.2.2.2.2)))),(x.2.1,()))) ((([]:List qa),()),(((([]:List qf),(([]:List qc),(([]:List qd),()))),(([]:List qe),(([]:List qb),(([]:List qg),())))),()))).2.1.1,((qx (qh N ((x.1.1,(x.1.2.1,(x.1.2.2.1,(x.1.2.2.2.1,x.1.2.2.2.2)))),(x.2.1,()))) ((([]:List qa),()),(((([]:List qf),(([]:List qc),(([]:List qd),()))),(([]:List qe),(([]:List qb),(([]:List qg),())))),()))).2.1.2.1,(y1,((qem (qx (qh N ((x.1.1,(x.1.2.1,(x.1.2.2.1,(x.1.2.2.2.1,x.1.2.2.2.2)))),(x.2.1,()))) ((([]:List qa),()),(((([]:List qf),(([]:List qc),(([]:List qd),()))),(([]:List qe),(([]:List qb),(([]:List qg),())))),()))).2.1.2.2.2.1 ([x.2.1]:List qg)),(qx (qh N ((x.1.1,(x.1.2.1,(x.1.2.2.1,(x.1.2.2.2.1,x.1.2.2.2.2)))),(x.2.1,()))) ((([]:List qa),()),(((([]:List qf),(([]:List qc),(([]:List qd),()))),(([]:List qe),(([]:List qb),(([]:List qg),())))),()))).2.1.2.2.2.2)))),(0,()))))))) else none)))))) else none)))))) else none) else none)
theorem G_succ (N M:Nat) (x:(qL×qae)):qck N (M+1) x=bodyA N (qck N M) x:=rfl
theorem qm5 {S S' R A:Type} (f:S→S') (xs:List A) {step:((S'×(Int×Unit))→Option R)→(S'×(Int×Unit))→Option R} (I:S→Prop) (P:Nat→S→Option R→Prop)
  (hs:∀i (hi:i<xs.length) st ih,I st→(∀st',I st'→P (i+1) st' (ih (f st',(((i+1:Nat):Int),()))))→P i st (step ih (f st,((i:Int),()))))
  (he:∀st ih,I st→P xs.length st (step ih (f st,((xs.length:Int),())))) {N:Nat} (hN:xs.length<N) (st:S) (hI:I st):P 0 st (qad N step (f st,(0,()))):=by
 have key:∀k i M st,i+k=xs.length→k<M→I st→P i st (qad M step (f st,((i:Int),()))):=by
  intro k
  induction k with
  |zero=>
   intro i M st hi hM hI
   obtain ⟨M,rfl⟩:∃m,M=m+1:=⟨M - 1,by omega⟩
   have:i=xs.length:=by omega
   subst this
   rw [qcW]
   exact he st _ hI
  |succ k ih=>
   intro i M st hi hM hI
   obtain ⟨M,rfl⟩:∃m,M=m+1:=⟨M - 1,by omega⟩
   rw [qcW]
   exact hs i (by omega) st _ hI fun st' hI'=>ih (i+1) M st' (by omega) (by omega) hI'
 exact key xs.length 0 N st (by omega) hN hI
abbrev DX:Type:=qL
def XX (s:qj) (trs:List qh4) (st:StT):DX:=(s,(trs,(st.1,(st.2,()))))
def qws (s:qj) (trs:List qh4) (tasks:List (qbV×Int)) (st:StT) (r:Option ((Int×Unit)×(DX×Unit))):Prop:=
 ∃e st',r=some ((e,()),(XX s trs st',()))∧qq7 s st'∧∀ts,(e≠0→(RR s trs (tasks++ts) st).1=e)∧(e=0→RR s trs (tasks++ts) st=RR s trs ts st')
structure TSet (N:Nat) (s:qj) (trs:List qh4):Prop where
 ss:qcU N s
 v0:qkN s=0
 nm:∀t∈s.1,t.1.length≤1048576
 good:qvw s trs
 small:qoc N trs
 hN:1000<N
 hB:N≤1000000000
theorem qv3 {trs:List qh4} {i:Nat} (hi:i<trs.length) (c:qbV) (row:qam):dvs (trs.drop i) c row=(if (trs[i]).1=c.1∧(trs[i]).2.1=c.2.1 then (trs[i]).2.2.1.map (fun a=>qlA a row) else [])++dvs (trs.drop (i+1)) c row:=by
 rw [List.drop_eq_getElem_cons hi]
 rfl
theorem qvI {pk:List Int} {k:qam} {rows:List qam} :look pk k rows=[]∨look pk k rows∈rows:=by
 unfold look
 cases hf:rows.find? (fun r=>decide (qaY pk r=k)) with
 |none=>exact .inl rfl
 |some r=>exact .inr (List.mem_of_find?_eq_some hf)
theorem qt8 {s:qj} {inst:List qcg} {c:qbV} (hv:qhV s) (hC:qnr s inst):(cur s inst c).length≤6:=by
 unfold cur
 rcases qtP (s:=s) c.2.1 with ⟨h1,_⟩|⟨i,h1,h3,h4,_,h5,h6⟩
 ·rw [h1]; simp
 rw [h1]
 have hit:i<inst.length:=by rw [hC.len]; exact h3
 have htab:s.1[i]=qca s c.2.1:=by rw [←qD quz h3]; exact h4 _
 have hok:=hC.ok i hit h3
 rw [htab,←qcR hit] at hok
 have lk:∀k,(look (qca s c.2.1).2.2.1 k (qdl inst i)).length≤6:=fun k=>by
  rcases qvI (pk:=(qca s c.2.1).2.2.1) (k:=k) (rows:=qdl inst i) with q|q
  ·rw [q]; simp
  ·rw [qi1 (hok.2.1 _ q)]
   exact (qfy (qc8 hv h5)).2.2.2.1
 simp only
 split
 ·split
  ·simp
  ·exact lk _
 ·exact lk _
theorem qo7 (N:Nat) (s:qj) (trs:List qh4) (h:TSet N s trs):(M:Nat)→(c:qbV)→(d:Int)→(st:StT)→qq7 s st→qfV N s [c]→(0<d→c.1=1→c.2.2.2.1≠[])→0≤d→d≤7→8≤(M:Int)+d→qws s trs [(c,d)] st (qck N M (XX s trs st,(c,(d,()))))
 |0,c,d,st,_,_,_,_,h7,h8=>by simp at h8; omega
 |M+1,c,d,st,hi,hc,hrow,hd0,hd7,hM=>by
  have hB:=h.hB
  have hN:=h.hN
  have hv:=qfm h.v0
  have hcur:=qsQ N s st.1 trs st.2 c hv hi.conf h.ss
  have hm:c∈[c]:=List.mem_singleton.2 rfl
  have hasm:=qnr.asm hv hi.conf h.ss hc hN hB
  have happ:=qvW N s st.1 [c] hasm
  have hlen:=hi.len
  have hcurN:(cur s st.1 c).length<N:=by have:=qt8 (c:=c) hv hi.conf; omega
  have heq:=qvZ N (cur s st.1 c) c.2.2.2.1 hcurN (by omega)
  rw [G_succ]
  unfold bodyA XX
  simp only [hcur,qK,qp,qu,cond_true,heq,Bool.or_true,happ,qbv]
  have esk:(ltI 0 d&&((eqI c.1 2&&eqI (qr (cur s st.1 c)) 0)||(eqI c.1 1&&decide (cur s st.1 c=c.2.2.2.1))))=qlx s st.1 c d:=by
   unfold qlx
   rw [qom,qaF,qaC,qaC]
   congr 3
   rw [Bool.eq_iff_iff]
   simp
  have one:∀ts,[(c,d)]++ts=(c,d)::ts:=fun ts=>rfl
  rw [esk]
  by_cases hsk:qlx s st.1 c d=true
  ·rw [hsk,cond_true]
   exact ⟨0,st,rfl,hi,fun ts=>⟨fun h=>absurd rfl h,fun _=>by rw [one,qmz hlen,if_pos hsk]⟩⟩
  rw [show qlx s st.1 c d=false by simpa using hsk,cond_false]
  have err:∀e:Int,qjU s st c d=e→e≠0→qws s trs [(c,d)] st (some ((e,()),((s,(trs,(st.1,(st.2,())))),()))):=fun e he hne=>⟨e,st,rfl,hi,fun ts=>⟨fun _=>by rw [one,qmz hlen,if_neg hsk,if_pos (by omega)]; exact he,fun h=>absurd h hne⟩⟩
  by_cases h6:6<d
  ·rw [show ltI 6 d=true by rw [qaF]; exact decide_eq_true h6,cond_true]
   exact err 14 (by unfold qjU; rw [if_pos h6]) (by omega)
  rw [show ltI 6 d=false by rw [qaF]; exact decide_eq_false h6,cond_false]
  by_cases h24:st.2.length=24
  ·rw [show eqI (qr st.2) 24=true by rw [qaC,qt]; exact decide_eq_true (by omega),cond_true]
   exact err 2 (by unfold qjU; rw [if_neg h6,if_pos h24]) (by omega)
  rw [show eqI (qr st.2) 24=false by rw [qaC,qt]; exact decide_eq_false (by omega),cond_false]
  have ee:qjU s st c d=qlh s st.1 [c]:=by unfold qjU; rw [if_neg h6,if_neg h24]
  by_cases hva:qlh s st.1 [c]=0
  case neg=>
   rw [neT hva,cond_true]
   exact err _ ee hva
  rw [neF hva,cond_false]
  have hee:¬qjU s st c d≠0:=by omega
  have rm:qcq (qr st.2) (qr ([c]:List qbV)) 72=true:=qc4 (by simp only [List.length_cons,List.length_nil]; omega)
  rw [rm,cond_true]
  obtain ⟨hi2,htab,hvr⟩:=qiP hi h.v0 hee
  have erow:(bif eqI c.1 2 then cur s st.1 c else c.2.2.2.1)=qni c (cur s st.1 c):=by
   unfold qni
   by_cases q:c.1=2
   ·rw [eqT q,cond_true,if_pos q]
   ·rw [eqF q,cond_false,if_neg q]
  rw [erow]
  generalize hrw:qni c (cur s st.1 c)=row at *
  have fin:∀r,qws s trs (tsk trs c row d) (nxt s st c) r→qws s trs [(c,d)] st r:=by
   rintro r ⟨e,st',h1,h2,h3⟩
   refine ⟨e,st',h1,h2,fun ts=> ?_⟩
   rw [one,qmz hlen,if_neg hsk,if_neg hee,hrw]
   exact h3 ts
  refine fin _ ?_
  have ens:(qnh s st.1 [c],st.2++[c])=nxt s st c:=rfl
  show qws s trs ((dvs (trs.drop 0) c row).map (fun x=>(x,d+1))) (nxt s st c) _
  refine qm5 (f:=XX s trs) trs (qq7 s) (fun i st' r=>qws s trs ((dvs (trs.drop i) c row).map (fun x=>(x,d+1))) st' r) (fun i hi st1 ih hI hcont=> ?_) (fun st1 ih hI=> ?_) h.small.n (nxt s st c) hi2
  case refine_2=>
   simp only
   rw [qE (qac (Nat.lt_irrefl _)),List.drop_length]
   exact ⟨0,st1,rfl,hI,fun ts=>⟨fun h=>absurd rfl h,fun _=>rfl⟩⟩
  have hsn:=h.small.n
  simp only [qav hi,qC hi,cond_true,qD _ hi,qO (show i<4611686018427387904 by omega)]
  have hmx:=List.getElem_mem hi
  have hga:=h.good.good _ hmx
  have hsa:=h.small.acts _ hmx
  have hso:=h.small.ops _ hmx
  rw [qv3 hi]
  generalize trs[i]=x at *
  by_cases hq:x.1=c.1∧x.2.1=c.2.1
  case neg=>
   have e1:(neI x.1 c.1|| !(eqS x.2.1 c.2.1))=true:=by
    rw [qan,qbs]
    by_cases q:x.1=c.1
    ·rw [decide_eq_false (fun q2=>hq ⟨q,q2⟩)]; simp
    ·rw [decide_eq_false q]; rfl
   rw [e1,cond_true,if_neg hq,List.nil_append]
   exact hcont st1 hI
  have e1:(neI x.1 c.1|| !(eqS x.2.1 c.2.1))=false:=by
   rw [qan,qbs,decide_eq_true hq.1,decide_eq_true hq.2]; rfl
  rw [e1,cond_false,if_pos hq]
  rw [hq.2] at hga
  show qws s trs ((((x.2.2.1.drop 0).map (fun a=>qlA a row))++dvs (trs.drop (i+1)) c row).map (fun x=>(x,d+1))) st1 _
  refine qm5 (f:=XX s trs) x.2.2.1 (qq7 s) (fun j st' r=>qws s trs ((((x.2.2.1.drop j).map (fun a=>qlA a row))++dvs (trs.drop (i+1)) c row).map (fun x=>(x,d+1))) st' r) (fun j hj st2 ih2 hI2 hcont2=> ?_) (fun st2 ih2 hI2=> ?_) hsa st1 hI
  case refine_2=>
   simp only
   rw [qE (qac (Nat.lt_irrefl _)),List.drop_length,List.map_nil,List.nil_append]
   exact hcont st2 hI2
  have hma:=List.getElem_mem hj
  have hgo:=hga _ hma
  obtain ⟨d1,d2,d3⟩:=qrx hv h.nm hN hgo hvr
  have hder:=qtB N x.2.2.1[j] row (hso _ hma) hB d3
  have hid:qax .i64 d 1=d+1:=by
   obtain ⟨k,rfl⟩:∃k:Nat,d=(k:Int):=⟨d.toNat,by omega⟩
   rw [qO (by omega)]; omega
  obtain ⟨e,st3,r1,r2,r3⟩:=qo7 N s trs h M (qlA x.2.2.1[j] row) (d+1) st2 hI2 d1 (fun _=>d2) (by omega) (by omega) (by omega)
  have r1':qck N M ((s,(trs,(st2.1,(st2.2,())))),(qlA x.2.2.1[j] row,(d+1,())))=some ((e,()),(XX s trs st3,())):=r1
  unfold XX at r1' hcont2⊢
  simp only [qav hj,qC hj,cond_true,qD _ hj,hder,hid,qp,qu,r1',Bool.and_self,qO (show j<4611686018427387904 by omega)]
  have edr:(((x.2.2.1.drop j).map (fun a=>qlA a row))++dvs (trs.drop (i+1)) c row).map (fun x=>(x,d+1))=(qlA x.2.2.1[j] row,d+1)::((((x.2.2.1.drop (j+1)).map (fun a=>qlA a row))++dvs (trs.drop (i+1)) c row).map (fun x=>(x,d+1))):=by
   rw [List.drop_eq_getElem_cons hj]; rfl
  rw [edr]
  by_cases he:e=0
  ·rw [neF he,cond_false]
   obtain ⟨e',st4,q1,q2,q3⟩:=hcont2 st3 r2
   refine ⟨e',st4,q1,q2,fun ts=> ?_⟩
   have:=(r3 (((((x.2.2.1.drop (j+1)).map (fun a=>qlA a row))++dvs (trs.drop (i+1)) c row).map (fun x=>(x,d+1)))++ts)).2 he
   rw [List.cons_append]
   rw [List.singleton_append] at this
   rw [this]
   exact q3 ts
  ·rw [neT he,cond_true]
   refine ⟨e,st3,rfl,r2,fun ts=>⟨fun _=> ?_,fun h=>absurd h he⟩⟩
   have:=(r3 (((((x.2.2.1.drop (j+1)).map (fun a=>qlA a row))++dvs (trs.drop (i+1)) c row).map (fun x=>(x,d+1)))++ts)).1 he
   rw [List.singleton_append] at this
   rw [List.cons_append]
   exact this
end
end Go.Proofs.YtnlkfgdojfijpaaGreatDoor
namespace Go.Proofs.YtnlkfgdojfijpaaGreatDoor
open Go.Vi
noncomputable section
def qr5 (r:Int×StT):Option ((List qbV×(List qcg×(Int×Unit)))×Unit):=if r.1=0 then some ((r.2.2,(r.2.1,(0,()))),()) else some ((([]:List qbV),(([]:List qcg),(r.1,()))),())
def qsz (s:qj) (inst:List qcg) (trs:List qh4) (cs:List qbV):Option ((List qbV×(List qcg×(Int×Unit)))×Unit):=
 if qng s trs≠0 then some ((([]:List qbV),(([]:List qcg),(qng s trs,()))),())
 else if qeo s inst≠0 then some ((([]:List qbV),(([]:List qcg),(qeo s inst,()))),())
 else qr5 (RR s trs (cs.map (fun c=>(c,0))) (inst,[]))
theorem qfV.one {N:Nat} {s:qj} {cs:List qbV} (h:qfV N s cs) (hN:1000<N) {c:qbV} (hc:c∈cs):qfV N s [c]:=by
 have one:∀c'∈[c],c'∈cs:=fun c' hc'=>by rw [List.mem_singleton.1 hc']; exact hc
 exact ⟨by simp; omega,fun c' hc'=>h.key _ (one c' hc'),fun c' hc'=>h.row _ (one c' hc'),fun c' hc'=>h.ek _ (one c' hc'),fun c' hc'=>h.er _ (one c' hc'),fun c' hc'=>h.et _ (one c' hc'),fun c' hc'=>h.nm _ (one c' hc')⟩
theorem qqD (N:Nat) (c:qbV) (h1:c.2.2.1.length≤1099511627776) (h2:c.2.2.2.1.length≤1099511627776):qap N (c,())=some ((c,()),()):=by
 simp only [qap,qkm N _ h1,qkm N _ h2,qp,qu,Bool.and_self,cond_true]
structure qr1 (N:Nat) (s:qj) (inst:List qcg) (trs:List qh4) (cs:List qbV):Prop where
 ss:qcU N s
 ri:qgs N inst
 nm:∀t∈s.1,t.1.length≤1048576
 gs:qoc N trs
 cc:qfV N s cs
 hN:3000<N
 hB:N≤1000000000
theorem qpE (N:Nat) (s:qj) (inst:List qcg) (trs:List qh4) (cs:List qbV) (h:qr1 N s inst trs cs):qaK N (s,(inst,(trs,(cs,()))))=qsz s inst trs cs:=by
 have hB:=h.hB
 have hN:=h.hN
 have hcn:=h.cc.n
 simp only [qaK,qK,qp9 N s trs h.ss h.gs,qn5 N s inst h.ss h.ri,qli N inst h.ri (by omega),qp,qu,cond_true]
 unfold qsz
 by_cases h0:qng s trs=0
 case neg=>rw [neT h0,cond_true,if_pos h0]
 rw [neF h0,cond_false,if_neg (by omega)]
 by_cases h1:qeo s inst=0
 case neg=>rw [neT h1,cond_true,if_pos h1]
 rw [neF h1,cond_false,if_neg (by omega)]
 obtain ⟨v0,hg⟩:=qow h0
 have hC:=qme h1
 have ts:TSet N s trs:=⟨h.ss,v0,h.nm,hg,h.gs,by omega,hB⟩
 have hi0:qq7 s (inst,[]):=⟨hC,by simp⟩
 show (fun (i:Nat) (st:StT) r=>r=qr5 (RR s trs ((cs.drop i).map (fun c=>(c,0))) st)) 0 (inst,[]) _
 refine qm5 (f:=XX s trs) cs (qq7 s) (fun i st r=>r=qr5 (RR s trs ((cs.drop i).map (fun c=>(c,0))) st)) (fun i hi st ih hI hcont=> ?_) (fun st ih hI=> ?_) (by omega) (inst,[]) hi0
 case refine_2=>
  simp only
  rw [qE (qac (Nat.lt_irrefl _)),List.drop_length]
  rfl
 have hm:=List.getElem_mem hi
 have hk:=h.cc.key _ hm
 have hr:=h.cc.row _ hm
 obtain ⟨e,st',r1,r2,r3⟩:=qo7 N s trs ts N cs[i] 0 st hI (h.cc.one (by omega) hm) (fun q=>by omega) (by omega) (by omega) (by omega)
 have r1':qby N ((s,(trs,(st.1,(st.2,())))),(cs[i],(0,())))=some ((e,()),(XX s trs st',())):=r1
 unfold XX at r1' hcont⊢
 simp only [qav hi,qC hi,cond_true,qD _ hi,qqD N cs[i] (by omega) (by omega),qp,qu,r1',Bool.and_self,qO (show i<4611686018427387904 by omega)]
 have ed:(cs.drop i).map (fun c=>(c,(0:Int)))=[(cs[i],0)]++(cs.drop (i+1)).map (fun c=>(c,0)):=by
  rw [List.drop_eq_getElem_cons hi]; rfl
 rw [ed]
 obtain ⟨q1,q2⟩:=r3 ((cs.drop (i+1)).map (fun c=>(c,0)))
 by_cases he:e=0
 ·rw [neF he,cond_false,q2 he]
  exact hcont st' r2
 ·rw [neT he,cond_true]
  unfold qr5
  rw [q1 he,if_neg he]
abbrev qgQ:Type:=qbV×(Int×Unit)
def qlB (t:qbV×Int):qgQ:=(t.1,(t.2,()))
theorem qvG {α:Type} (xs:List α) (a:α) (h:xs.length<4611686018427387904):qbn .i64 (qr (xs++[a])) 1=(xs.length:Int):=by
 rw [qt,List.length_append,List.length_cons,List.length_nil,qcP (by omega) (by omega)]
 omega
theorem qsa {α:Type} (xs:List α) (a:α):qaB (xs++[a]) 0 (xs.length:Int)=xs:=by
 rw [qcF]; simp
theorem qti {R:Type} (N:Nat) (xs ys:List qgQ) (hN:xs.length<N) (hb:xs.length+ys.length≤1000000000000) {step:(((List qgQ)×(Int×Unit))→Option R)→((List qgQ)×(Int×Unit))→Option R} (K:Option R)
  (hs:∀zs (i:Nat) (hi:i<xs.length) ih,zs.length+1≤1000000000000→step ih (zs,((i:Int),()))=ih (zs++[xs[i]],(((i:Int) - 1),())))
  (he:∀ih,step ih (ys++xs.reverse,((-1:Int),()))=K):qad N step (ys,(((xs.length:Int) - 1),()))=K:=by
 refine qc0 (S:=(List qgQ)×(Int×Unit)) (fun k=>(ys++(xs.drop (xs.length - k)).reverse,((((xs.length:Int) - 1) - (k:Int)),()))) xs.length K (by simp) (fun k hk ih=> ?_) (fun ih=> ?_) hN
 ·have hi:xs.length - (k+1)<xs.length:=by omega
  have e1:((xs.length:Int) - 1) - (k:Int)=((xs.length - (k+1):Nat):Int):=by omega
  rw [e1,hs _ _ hi ih (by simp; omega)]
  have e2:xs.drop (xs.length - (k+1))=xs[xs.length - (k+1)]::xs.drop (xs.length - k):=by
   rw [List.drop_eq_getElem_cons hi]
   congr 2
   omega
  rw [e2,List.reverse_cons,List.append_assoc]
  congr 3
  omega
 ·have e:((xs.length:Int) - 1) - (xs.length:Int)= -1:=by omega
  rw [e,Nat.sub_self,List.drop_zero]
  exact he ih
structure qqz (N:Nat) (s:qj) (t:qbV×Int):Prop where
 sm:qfV N s [t.1]
 row:0<t.2→t.1.1=1→t.1.2.2.2.1≠[]
 lo:0≤t.2
 hi:t.2≤7
theorem qvF {trs:List qh4} {i:Nat} (hi:i<trs.length) (c:qbV) (row:qam):dvs (trs.take (i+1)) c row=dvs (trs.take i) c row++(if (trs[i]).1=c.1∧(trs[i]).2.1=c.2.1 then (trs[i]).2.2.1.map (fun a=>qlA a row) else []):=by
 unfold dvs
 rw [qbi hi,List.flatMap_append]
 simp
theorem qtp (N:Nat) (s:qj) (inst:List qcg) (trs:List qh4) (cs:List qbV) (h:qr1 N s inst trs cs) (hid:∀f∈s.2.1,(fkC f).length≤1099511627776) (h0:qng s trs=0) (h1:qeo s inst=0):qb3 N (s,(inst,(trs,(cs,()))))=qsz s inst trs cs:=by
 have hB:=h.hB
 have hN:=h.hN
 have hcn:=h.cc.n
 unfold qsz
 rw [if_neg (by omega),if_neg (by omega)]
 obtain ⟨v0,hg⟩:=qow h0
 have hC:=qme h1
 have hv:=qfm v0
 have hi0:qq7 s (inst,[]):=⟨hC,by simp⟩
 have hna:qqc trs≤32:=by
  have:∀xs:List qh4,(∀x∈xs,x.2.2.1.length≤4)→qqc xs≤4 * xs.length:=fun xs=>by
   induction xs with
   |nil=>intro _; simp [qqc]
   |cons x xs ih=>
    intro hx
    have:=ih fun y hy=>hx y (List.mem_cons_of_mem _ hy)
    have:=hx x List.mem_cons_self
    unfold qqc at *
    rw [List.map_cons,List.sum_cons,List.length_cons]
    omega
  have:=this trs hg.acts
  have:=hg.n
  omega
 simp only [qb3,qK]
 have el:qbn .i64 (qr cs) 1=(((cs.map (fun c=>qlB (c,0))).length:Int) - 1):=by
  rw [qt,List.length_map,qcP (by omega) (by omega)]
 rw [el]
 refine qti N (cs.map (fun c=>qlB (c,0))) [] (by rw [List.length_map]; omega) (by rw [List.length_map]; simp; omega) _ (fun zs i hi ih hz=> ?_) (fun ih=> ?_)
 ·rw [List.length_map] at hi
  have rm:qcq (qr zs) (qr ([(cs[i],(0,()))]:List qgQ)) 80=true:=qc4 (by simp only [List.length_cons,List.length_nil]; omega)
  simp only [show leI 0 (i:Int)=true by rw [qcO]; exact decide_eq_true (by omega),cond_true,qC hi,qD _ hi,rm,Bool.and_self,qbv,List.getElem_map,qlB,qcP (show -9223372036854775808≤(i:Int) - 1 by omega) (show (i:Int) - 1<9223372036854775808 by omega)]
 simp only
 rw [show leI 0 (-1)=false by rw [qcO]; rfl,cond_false,List.nil_append]
 have main:∀n (ts:List (qbV×Int)) (st:StT),muR trs ts st<n→ts.length+qqc trs * (24 - st.2.length)≤1000000000→qq7 s st→(∀t∈ts,qqz N s t)→∀ {step:((List qcg×(List qgQ×(List qbV×Unit)))→Option ((List qbV×(List qcg×(Int×Unit)))×Unit))→(List qcg×(List qgQ×(List qbV×Unit)))→Option ((List qbV×(List qcg×(Int×Unit)))×Unit)},
   (∀st ih,qq7 s st→step ih (st.1,(([]:List qgQ),(st.2,())))=qr5 (0,st))→
   (∀c d (ts:List (qbV×Int)) st ih,qq7 s st→qqz N s (c,d)→ts.length≤1000000000→step ih (st.1,(((ts.map qlB).reverse++[qlB (c,d)]),(st.2,())))=if qlx s st.1 c d=true then ih (st.1,((ts.map qlB).reverse,(st.2,()))) else if qjU s st c d≠0 then qr5 (qjU s st c d,st) else ih ((nxt s st c).1,(((tsk trs c (qni c (cur s st.1 c)) d++ts).map qlB).reverse,((nxt s st c).2,()))))→
   qad n step (st.1,((ts.map qlB).reverse,(st.2,())))=qr5 (RR s trs ts st):=by
  intro n
  induction n with
  |zero=>intro ts st hmu; omega
  |succ n ihn=>
   intro ts st hmu hbd hI hgk step hnil hcons
   rw [qcW]
   cases ts with
   |nil=>exact hnil st _ hI
   |cons t ts=>
    obtain ⟨c,d⟩:=t
    have hgt:=hgk (c,d) List.mem_cons_self
    have hgr:∀t∈ts,qqz N s t:=fun t ht=>hgk t (List.mem_cons_of_mem _ ht)
    rw [List.map_cons,List.reverse_cons,hcons c d ts st _ hI hgt (by rw [List.length_cons] at hbd; omega),qmz hI.len]
    have hs:muR trs ts st<muR trs ((c,d)::ts) st:=by unfold muR; simp
    split
    ·exact ihn ts st (by omega) (by rw [List.length_cons] at hbd; omega) hI hgr hnil hcons
    ·split
     ·rfl
     ·rename_i he
      obtain ⟨k1,k2⟩:muR trs (tsk trs c (qni c (cur s st.1 c)) d++ts) (nxt s st c)<muR trs ((c,d)::ts) st∧(nxt s st c).2.length≤24:=qoh (trs:=trs) (t:=(c,d)) (ts:=ts) (row:=qni c (cur s st.1 c)) hI.len he
      obtain ⟨f1,f2,f3⟩:=qiP hI v0 he
      have hk2:(tsk trs c (qni c (cur s st.1 c)) d++ts).length+qqc trs * (24 - (nxt s st c).2.length)≤1000000000:=by
       unfold muR at k1
       omega
      refine ihn (tsk trs c (qni c (cur s st.1 c)) d++ts) (nxt s st c) (by omega) hk2 f1 (fun t ht=> ?_) hnil hcons
      rcases List.mem_append.1 ht with ht|ht
      ·obtain ⟨x,hx,rfl⟩:=List.mem_map.1 ht
       obtain ⟨tr,htr,hx⟩:=List.mem_flatMap.1 hx
       split at hx
       ·rename_i hq
        obtain ⟨a,ha,rfl⟩:=List.mem_map.1 hx
        have hga:=hg.good tr htr a ha
        rw [hq.2] at hga
        obtain ⟨d1,d2,_⟩:=qrx (N:=N) hv h.nm (by omega) hga f3
        have hd6:d≤6:=by
         unfold qjU at he
         by_cases q:6<d
         ·rw [if_pos q] at he; omega
         ·omega
        have:=hgt.lo
        exact ⟨d1,fun _=>d2,by show (0:Int)≤d+1; have:(0:Int)≤d:=hgt.lo; omega,by show d+1≤7; omega⟩
       ·cases hx
      ·exact hgr t ht
 have emap:(cs.map (fun c=>qlB (c,0))).reverse=((cs.map (fun c=>(c,(0:Int)))).map qlB).reverse:=by rw [List.map_map]; rfl
 rw [emap]
 refine main N (cs.map (fun c=>(c,0))) (inst,[]) ?_ ?_ hi0 (fun t ht=> ?_) (fun st ih hI=> ?_) (fun c d ts st ih hI hgt htl=> ?_)
 ·unfold muR
  rw [List.length_map]
  have:qqc trs * (24 - (([]:List qbV)).length)≤32 * 24:=Nat.mul_le_mul hna (by simp)
  show cs.length+qqc trs * (24 - (([]:List qbV)).length)<N
  omega
 ·rw [List.length_map]
  have:qqc trs * (24 - (([]:List qbV)).length)≤32 * 24:=Nat.mul_le_mul hna (by simp)
  show cs.length+qqc trs * (24 - (([]:List qbV)).length)≤_
  omega
 ·obtain ⟨c,hc,rfl⟩:=List.mem_map.1 ht
  exact ⟨h.cc.one (by omega) hc,fun q=>by have q:(0:Int)<0:=q; omega,Int.le_refl _,by show (0:Int)≤7; omega⟩
 ·simp only
  rw [show ltI 0 (qr ([]:List qgQ))=false by rw [qaF,qt]; rfl,cond_false]
  rfl
 ·have hl1:((ts.map qlB).reverse).length<4611686018427387904:=by simp; omega
  have hlt:ltI 0 (qr ((ts.map qlB).reverse++[qlB (c,d)]))=true:=by rw [qaF,qt]; exact decide_eq_true (by rw [List.length_append,List.length_singleton]; omega)
  have hin:inB (((ts.map qlB).reverse).length:Int) (qr ((ts.map qlB).reverse++[qlB (c,d)]))=true:=qC (by simp)
  have his:inS 0 (((ts.map qlB).reverse).length:Int) (qr ((ts.map qlB).reverse++[qlB (c,d)]))=true:=by rw [qlb,qt]; exact decide_eq_true ⟨by omega,by omega,by rw [List.length_append,List.length_singleton]; omega⟩
  have hget:∀dd:qgQ,qk ((ts.map qlB).reverse++[qlB (c,d)]) (((ts.map qlB).reverse).length:Int) dd=qlB (c,d):=fun dd=>by
   rw [qD _ (by simp)]
   exact List.getElem_concat_length rfl _
  simp only [hlt,cond_true,qvG _ _ hl1,hin,his,qsa,hget]
  generalize hrest:(ts.map qlB).reverse=rest at *
  have hst:=qum N s st.1 c hv hI.conf h.ss
  have hcurN:(cur s st.1 c).length<N:=by have:=qt8 (c:=c) hv hI.conf; omega
  have hre:=qeW N (cur s st.1 c) c.2.2.2.1 hcurN (by omega)
  have hasm:=qnr.asm hv hI.conf h.ss hgt.sm (by omega) hB
  have happ:=qt7 N s st.1 [c] hasm hid
  simp only [qlB,hst,hre,qp,qu,cond_true,Bool.or_true,happ]
  have esk:(ltI 0 d&&((eqI c.1 2&&eqI (qr (cur s st.1 c)) 0)||((eqI c.1 1&& !(eqI (qr (cur s st.1 c)) 0))&&decide (cur s st.1 c=c.2.2.2.1))))=qlx s st.1 c d:=by
   unfold qlx
   rw [qom,qaF,qaC,qaC]
   by_cases hd:0<d
   ·have hrow:=hgt.row hd
    rw [Bool.eq_iff_iff]
    simp only [Bool.and_eq_true,Bool.or_eq_true,decide_eq_true_eq,Bool.not_eq_true',decide_eq_false_iff_not,List.length_eq_zero_iff]
    constructor
    ·rintro ⟨h1,h2|h2⟩
     ·exact ⟨h1,.inl h2⟩
     ·exact ⟨h1,.inr ⟨h2.1.1,h2.2⟩⟩
    ·rintro ⟨h1,h2|h2⟩
     ·exact ⟨h1,.inl h2⟩
     ·exact ⟨h1,.inr ⟨⟨h2.1,by rw [h2.2]; exact hrow h2.1⟩,h2.2⟩⟩
   ·rw [decide_eq_false hd]; rfl
  rw [esk]
  by_cases hsk:qlx s st.1 c d=true
  ·rw [hsk,cond_true,if_pos rfl]
  rw [show qlx s st.1 c d=false by simpa using hsk,cond_false,if_neg (by simp)]
  have err:∀e:Int,qjU s st c d=e→e≠0→(some ((([]:List qbV),(([]:List qcg),(e,()))),()):Option ((List qbV×(List qcg×(Int×Unit)))×Unit))=if qjU s st c d≠0 then qr5 (qjU s st c d,st) else ih ((nxt s st c).1,(((tsk trs c (qni c (cur s st.1 c)) d++ts).map (fun t:qbV×Int=>((t.1,(t.2,())):qgQ))).reverse,((nxt s st c).2,()))):=fun e he hne=>by
   rw [he,if_pos hne]
   unfold qr5
   rw [if_neg hne]
  by_cases h6:6<d
  ·rw [show ltI 6 d=true by rw [qaF]; exact decide_eq_true h6,cond_true]
   exact err 14 (by unfold qjU; rw [if_pos h6]) (by omega)
  rw [show ltI 6 d=false by rw [qaF]; exact decide_eq_false h6,cond_false]
  by_cases h24:st.2.length=24
  ·rw [show eqI (qr st.2) 24=true by rw [qaC,qt]; exact decide_eq_true (by omega),cond_true]
   exact err 2 (by unfold qjU; rw [if_neg h6,if_pos h24]) (by omega)
  rw [show eqI (qr st.2) 24=false by rw [qaC,qt]; exact decide_eq_false (by omega),cond_false]
  have ee:qjU s st c d=qlh s st.1 [c]:=by unfold qjU; rw [if_neg h6,if_neg h24]
  by_cases hva:qlh s st.1 [c]=0
  case neg=>
   rw [neT hva,cond_true]
   exact err _ ee hva
  rw [neF hva,cond_false]
  have hee:¬qjU s st c d≠0:=by omega
  rw [if_neg hee]
  have hlen:=hI.len
  have rm:qcq (qr st.2) (qr ([c]:List qbV)) 72=true:=qc4 (by simp only [List.length_cons,List.length_nil]; omega)
  rw [rm,cond_true]
  obtain ⟨hi2,htab,hvr⟩:=qiP hI v0 hee
  have erow:(bif eqI c.1 1 then c.2.2.2.1 else cur s st.1 c)=qni c (cur s st.1 c):=by
   have hk:c.1=1∨c.1=2:=by
    rcases qgV s st.1 [c] v0 hI.conf.vconf (by simp) with ⟨f1,_,_⟩|⟨e,_,f2,f3,_⟩
    ·have:=qaq f1 0 (by simp)
     rw [qpg (by simp)] at this
     have hca:qfK s c st.1=none:=this
     unfold qfK at hca
     split at hca
     ·cases hca
     ·rename_i q; exact qoo (s:=s) (by omega)
    ·omega
   unfold qni
   rcases hk with q|q
   ·rw [eqT q,cond_true,if_neg (by omega)]
   ·rw [eqF (by omega),cond_false,if_pos q]
  rw [erow]
  generalize hrw:qni c (cur s st.1 c)=row at *
  have hid:qax .i64 d 1=d+1:=by
   have h0d:(0:Int)≤d:=hgt.lo
   obtain ⟨k,rfl⟩:∃k:Nat,d=(k:Int):=⟨d.toNat,by omega⟩
   rw [qO (by omega)]; omega
  rw [hid]
  let f:qbV→qgQ:=fun x=>(x,(d+1,()))
  have hdl:∀i,(dvs (trs.take i) c row).length≤32:=fun i=>by
   have h1:=qql c row (trs.take i)
   have h2:qqc (trs.take i)≤qqc trs:=by
    unfold qqc
    conv=>rhs; rw [←List.take_append_drop i trs,List.map_append,List.sum_append]
    omega
   omega
  refine qc0 (S:=(List qgQ)×(Int×Unit)) (fun i=>((dvs (trs.take i) c row).map f,((i:Int),()))) trs.length _ (by simp [dvs]) (fun i hi ih2=> ?_) (fun ih2=> ?_) h.gs.n
  ·have hmx:=List.getElem_mem hi
   have hga:=hg.good _ hmx
   have hsa:=h.gs.acts _ hmx
   have hso:=h.gs.ops _ hmx
   have hac:=hg.acts _ hmx
   have hsn:=h.gs.n
   have hdli:=hdl i
   simp only [qav hi,qC hi,cond_true,qD _ hi,qO (show i<4611686018427387904 by omega)]
   rw [qvF hi]
   generalize trs[i]=x at *
   by_cases hq:x.1=c.1∧x.2.1=c.2.1
   case neg=>
    have e1:(neI x.1 c.1|| !(eqS x.2.1 c.2.1))=true:=by
     rw [qan,qbs]
     by_cases q:x.1=c.1
     ·rw [decide_eq_false (fun q2=>hq ⟨q,q2⟩)]; simp
     ·rw [decide_eq_false q]; rfl
    rw [e1,cond_true,if_neg hq,List.append_nil]
   have e1:(neI x.1 c.1|| !(eqS x.2.1 c.2.1))=false:=by
    rw [qan,qbs,decide_eq_true hq.1,decide_eq_true hq.2]; rfl
   rw [e1,cond_false,if_pos hq]
   rw [hq.2] at hga
   refine qc0 (S:=(List qgQ)×(Int×Unit)) (fun j=>(((dvs (trs.take i) c row)++((x.2.2.1.take j).map (fun a=>qlA a row))).map f,((j:Int),()))) x.2.2.1.length _ (by simp) (fun j hj ih3=> ?_) (fun ih3=> ?_) hsa
   ·have hma:=List.getElem_mem hj
    have hgo:=hga _ hma
    obtain ⟨d1,d2,d3⟩:=qrx (N:=N) hv h.nm (by omega) hgo hvr
    have hder:=qtz N x.2.2.1[j] row (hso _ hma) hB d3 hgo.kind
    have rm2:∀z:qgQ,qcq (qr (((dvs (trs.take i) c row)++((x.2.2.1.take j).map (fun a=>qlA a row))).map f)) (qr ([z]:List qgQ)) 80=true:=fun z=>qc4 (by
     simp only [List.length_map,List.length_append,List.length_take,List.length_cons,List.length_nil]; omega)
    simp only [qav hj,qC hj,cond_true,qD _ hj,hder,qp,qu,rm2,Bool.and_self,qO (show j<4611686018427387904 by omega),qbv]
    simp only [qbi hj,List.map_append,List.map_cons,List.map_nil,List.append_assoc]
    rfl
   ·simp only
    rw [qE (qac (Nat.lt_irrefl _)),List.take_length]
  ·simp only
   rw [qE (qac (Nat.lt_irrefl _)),List.take_length]
   have hdlt:=hdl trs.length
   rw [List.take_length] at hdlt
   have el2:qbn .i64 (qr ((dvs trs c row).map f)) 1=((((dvs trs c row).map f).length:Int) - 1):=by
    rw [qt,List.length_map,qcP (by omega) (by omega)]
   rw [el2]
   have hrl:rest.length=ts.length:=by rw [←hrest]; simp
   refine qti N ((dvs trs c row).map f) rest (by rw [List.length_map]; omega) (by rw [List.length_map]; omega) _ (fun zs k hk ih3 hz=> ?_) (fun ih3=> ?_)
   ·have hkl:k<(dvs trs c row).length:=by rw [List.length_map] at hk; exact hk
    have rm3:∀z:qgQ,qcq (qr zs) (qr ([z]:List qgQ)) 80=true:=fun z=>qc4 (by simp only [List.length_cons,List.length_nil]; omega)
    simp only [show leI 0 (k:Int)=true by rw [qcO]; exact decide_eq_true (by omega),cond_true,qC hk,qD _ hk,rm3,Bool.and_self,qbv,qcP (show -9223372036854775808≤(k:Int) - 1 by omega) (show (k:Int) - 1<9223372036854775808 by omega)]
   ·simp only
    rw [show leI 0 (-1)=false by rw [qcO]; rfl,cond_false,qbv]
    have e9:rest++((dvs trs c row).map f).reverse=((tsk trs c row d++ts).map (fun t:qbV×Int=>((t.1,(t.2,())):qgQ))).reverse:=by
     rw [List.map_append,List.reverse_append,←hrest]
     unfold tsk
     rw [List.map_map]
     rfl
    rw [e9]
    rfl
end
end Go.Proofs.YtnlkfgdojfijpaaGreatDoor
namespace Go.Proofs.YtnlkfgdojfijpaaGreatDoor
open Go.Vi
noncomputable section
theorem qoM (N:Nat) (a:List qam) (hN:a.length<N) (hr:∀r∈a,r.length<N) (hB:N≤1099511627776):qbG N (a,(a,()))=some ((true,()),()):=by
 simp only [qbG]
 rw [qdQ,show decide (a.length≠a.length)=false by simp,cond_false]
 refine qc0 (S:=Int×Unit) (fun i=>((i:Int),())) a.length _ rfl (fun i hi ih=> ?_) (fun ih=> ?_) hN
 ·simp only [qav hi,qC hi,cond_true,qD _ hi,qeW N a[i] a[i] (hr _ (List.getElem_mem hi)) hB,qp,qu,Bool.and_self,decide_true,Bool.not_true,cond_false,qO (show i<4611686018427387904 by omega)]
 ·simp only
  rw [qE (qac (Nat.lt_irrefl _))]
theorem qn0 (N:Nat) (a:List qcg) (hN:a.length<N) (h1:∀q∈a,q.2.1.length<N) (hr:∀q∈a,∀r∈q.2.1,r.length<N) (hB:N≤1099511627776):qaZ N (a,(a,()))=some ((true,()),()):=by
 simp only [qaZ,qK]
 rw [qdQ,show decide (a.length≠a.length)=false by simp,cond_false]
 refine qc0 (S:=Int×Unit) (fun i=>((i:Int),())) a.length _ rfl (fun i hi ih=> ?_) (fun ih=> ?_) hN
 ·have hm:=List.getElem_mem hi
  simp only [qav hi,qC hi,cond_true,qD _ hi,qoM N (a[i]).2.1 (h1 _ hm) (hr _ hm) hB,qp,qu,Bool.and_self,qbs,decide_true,Bool.not_true,Bool.or_true,Bool.or_false,cond_false,qO (show i<4611686018427387904 by omega)]
 ·simp only
  rw [qE (qac (Nat.lt_irrefl _))]
theorem qp2 (N:Nat) (a:List qbV) (hN:a.length<N) (h1:∀c∈a,c.2.2.1.length<N∧c.2.2.2.1.length<N) (hB:N≤1099511627776):qaT N (a,(a,()))=some ((true,()),()):=by
 simp only [qaT,qK]
 rw [qdQ,show decide (a.length≠a.length)=false by simp,cond_false]
 refine qc0 (S:=Int×Unit) (fun i=>((i:Int),())) a.length _ rfl (fun i hi ih=> ?_) (fun ih=> ?_) hN
 ·obtain ⟨k1,k2⟩:=h1 _ (List.getElem_mem hi)
  simp only [qav hi,qC hi,cond_true,qD _ hi,qeW N (a[i]).2.2.1 (a[i]).2.2.1 k1 hB,qeW N (a[i]).2.2.2.1 (a[i]).2.2.2.1 k2 hB,qp,qu,Bool.and_self,qbs,qan,decide_true,Bool.not_true,Bool.or_true,Bool.or_false,cond_false,qO (show i<4611686018427387904 by omega)]
 ·simp only
  rw [qE (qac (Nat.lt_irrefl _))]
theorem qsb {N:Nat} {s:qj} {trs:List qh4} {st:StT} {c:qbV} {d:Int} (hv:qhV s) (hnm:∀t∈s.1,t.1.length≤1048576) (hN:1000<N) (hg:qvw s trs) (hgt:qqz N s (c,d)) (he:¬qjU s st c d≠0) (f3:qny (qca s c.2.1) (qni c (cur s st.1 c))=0):
  ∀t∈tsk trs c (qni c (cur s st.1 c)) d,qqz N s t:=fun t ht=>by
 obtain ⟨x,hx,rfl⟩:=List.mem_map.1 ht
 obtain ⟨tr,htr,hx⟩:=List.mem_flatMap.1 hx
 split at hx
 ·rename_i hq
  obtain ⟨a,ha,rfl⟩:=List.mem_map.1 hx
  have hga:=hg.good tr htr a ha
  rw [hq.2] at hga
  obtain ⟨d1,d2,_⟩:=qrx (N:=N) hv hnm (by omega) hga f3
  have hd6:d≤6:=by
   unfold qjU at he
   by_cases q:6<d
   ·rw [if_pos q] at he; omega
   ·omega
  exact ⟨d1,fun _=>d2,by show (0:Int)≤d+1; have:(0:Int)≤d:=hgt.lo; omega,by show d+1≤7; omega⟩
 ·cases hx
theorem qq3 {N:Nat} {s:qj} {trs:List qh4} (v0:qkN s=0) (hnm:∀t∈s.1,t.1.length≤1048576) (hN:1000<N) (hg:qvw s trs):(n:Nat)→(ts:List (qbV×Int))→(st:StT)→qq7 s st→(∀t∈ts,qqz N s t)→(∀c∈st.2,c.2.2.1.length<N∧c.2.2.2.1.length<N)→
  qq7 s (RUN s trs n ts st).2∧∀c∈(RUN s trs n ts st).2.2,c.2.2.1.length<N∧c.2.2.2.1.length<N
 |0,_,st,hI,_,hs=>⟨hI,hs⟩
 |_+1,[],st,hI,_,hs=>⟨hI,hs⟩
 |n+1,(c,d)::ts,st,hI,hk,hs=>by
  unfold RUN
  have hr:∀t∈ts,qqz N s t:=fun t ht=>hk t (List.mem_cons_of_mem _ ht)
  split
  ·exact qq3 v0 hnm hN hg n ts st hI hr hs
  ·split
   ·exact ⟨hI,hs⟩
   ·rename_i he
    have hgt:=hk (c,d) List.mem_cons_self
    obtain ⟨f1,f2,f3⟩:=qiP (c:=c) (d:=d) hI v0 he
    refine qq3 v0 hnm hN hg n _ (nxt s st c) f1 (fun t ht=> ?_) (fun c' hc'=> ?_)
    ·rcases List.mem_append.1 ht with ht|ht
     ·exact qsb (qfm v0) hnm hN hg hgt he f3 t ht
     ·exact hr t ht
    ·rcases List.mem_append.1 hc' with hc'|hc'
     ·exact hs c' hc'
     ·have:c'=c:=List.mem_singleton.1 hc'
      rw [this]
      exact ⟨hgt.sm.key c (List.mem_singleton.2 rfl),hgt.sm.row c (List.mem_singleton.2 rfl)⟩
def qdE:qj:=([([105,116,101,109],([([105,100],(1,(false,()))),([115,105,122,101],(1,(true,()))),([102,105,114,115,116],(3,(false,()))),([108,97,115,116],(3,(false,())))],([0],()))),([111,114,100,101,114],([([105,100],(1,(false,()))),([105,116,101,109],(1,(true,()))),([112,97,105,100],(2,(false,())))],([0],())))],([([111,114,100,101,114],([1],([105,116,101,109],())))],([([105,116,101,109],(1,([60,61],(-1,((1,(6,([],()))),())))))],())))
def qeF:List qcg:=[([105,116,101,109],([],())),([111,114,100,101,114],([],()))]
def qdn:qbV:=(1,([105,116,101,109],([],([(1,(5,([],()))),(0,(0,([],()))),(3,(0,([],()))),(3,(0,([],())))],()))))
theorem qqQ:qkN qdE=0:=by
 delta qkN qqk fkL qqP qnT pkE vFk quS fkE qjl
 simp only [qdu,qi0]
 decide+kernel
theorem qp3:qeo qdE qeF=0:=by
 delta qeo qrD qk6 qny qlM qjl
 simp only [qdu]
 decide+kernel
theorem quP:qcU 2000000 qdE:=qpG (by decide+kernel)
theorem qpp:qfK qdE qdn qeF=none:=by
 delta qfK qoJ qpj qdl qnE qny qlM qjl
 simp only [qdu]
 decide+kernel
theorem quK:(qga qdE qdn qeF).length=2∧((qga qdE qdn qeF)[0]?.map (fun q=>q.2.1.length))=some 1:=by
 delta qga setI qpj qdl
 simp only [qdu,qbm]
 decide+kernel
theorem qpL:∀v∈qdn.2.2.2.1,qjF v=0:=by decide+kernel
theorem qwz:qfV 5000000 qdE [qdn]:=by
 have one:∀c∈[qdn],c=qdn:=fun c hc=>List.mem_singleton.1 hc
 have hv:=qfm qqQ
 refine ⟨by decide,fun c hc=> ?_,fun c hc=> ?_,fun c hc=> ?_,fun c hc=> ?_,fun c hc t ht=> ?_,fun c hc=> ?_⟩ <;> rw [one c hc]
 ·show (([]:qam)).length<5000000
  simp
 ·show 4<5000000
  omega
 ·exact qfl (r:=qdn.2.2.1) (by decide) (fun v hv=>by cases hv)
 ·exact qfl (r:=qdn.2.2.2.1) (by decide) qpL
 ·exact qfl (r:=qlk t qdn) (by
   show (qaY t.2.2.1 qdn.2.2.2.1).length≤6
   rw [qdf]; exact keyK (qc8 hv ht)) (qlS (pk:=t.2.2.1) qpL)
 ·show 4≤1048576
  omega
theorem qwI:qr1 5000000 qdE qeF [] [qdn] where
 ss:=quP.mono (by omega) (by omega)
 ri:=⟨by decide,fun r hr=>by
  have:r.2.1=[]:=by
   rcases List.mem_cons.1 hr with rfl|hr
   ·rfl
   ·rw [List.mem_singleton.1 hr]
  (rw [this]; simp),fun r hr x hx=>by
  have:r.2.1=[]:=by
   rcases List.mem_cons.1 hr with rfl|hr
   ·rfl
   ·rw [List.mem_singleton.1 hr]
  (rw [this] at hx; cases hx),fun r hr x hx=>by
  have:r.2.1=[]:=by
   rcases List.mem_cons.1 hr with rfl|hr
   ·rfl
   ·rw [List.mem_singleton.1 hr]
  rw [this] at hx; cases hx⟩
 nm:=by decide+kernel
 gs:=⟨by simp,fun x hx=>(by cases hx),fun x hx=>(by cases hx)⟩
 cc:=qwz
 hN:=by omega
 hB:=by omega
theorem qvU:qsz qdE qeF [] [qdn]=some (([qdn],(qga qdE qdn qeF,(0,()))),()):=by
 have ht:qng qdE []=0:=by
  unfold qng
  rw [if_neg (by simp [qqQ]),if_neg (by simp)]
  rfl
 have hf:qR (cdA qdE qeF [qdn]) [qdn].length=none:=by
  show (match qR (cdA qdE qeF [qdn]) 0 with
   |some e=>some e
   |none=>cdA qdE qeF [qdn] 0)=none
  show cdA qdE qeF [qdn] 0=none
  rw [qpg (by simp)]
  exact qpp
 obtain ⟨hva,hou⟩:qlh qdE qeF [qdn]=0∧qnh qdE qeF [qdn]=qga qdE qdn qeF:=by
  rcases qgV qdE qeF [qdn] qqQ qp3 (by simp) with ⟨f1,f2,f3⟩|⟨e,f1,_⟩
  ·refine ⟨f2,?_⟩
   rw [f3]
   show stA qdE qeF [qdn] 1=_
   rw [qrE (by simp)]
   show (if qfK qdE qdn qeF=none then qga qdE qdn qeF else qeF)=_
   rw [if_pos qpp]
  ·rw [hf] at f1; cases f1
 unfold qsz
 rw [if_neg (by omega),if_neg (by simp [qp3])]
 show qr5 (RR qdE [] [(qdn,0)] (qeF,[]))=_
 have he:qjU qdE (qeF,[]) qdn 0=0:=by
  unfold qjU
  rw [if_neg (by omega),if_neg (by simp)]
  exact hva
 rw [qmz (by simp),if_neg (by simp [qlx]),if_neg (by omega)]
 show qr5 (0,nxt qdE (qeF,[]) qdn)=_
 unfold qr5 nxt
 rw [if_pos rfl]
 simp only [hou,List.nil_append]
theorem qqU:qbd 5000000 ()=some ((true,()),()):=by
 have hb:qag 5000000 ()=some ((qdE,()),()):=rfl
 have hE:qab 5000000 (qdE,())=some ((qeF,()),()):=qp8 5000000 qdE (quP.mono (by omega) (by omega))
 have hX:qaK 5000000 (qdE,(qeF,(([]:List qe),(([(1,(([105,116,101,109]:List UInt8),(([]:List qa),(([(1,(5,(([]:List UInt8),()))),(0,(0,(([]:List UInt8),()))),(3,(0,(([]:List UInt8),()))),(3,(0,(([]:List UInt8),())))]:List qa),()))))]:List qg),()))))=some (([qdn],(qga qdE qdn qeF,(0,()))),()):=(qpE 5000000 qdE qeF [] [qdn] qwI).trans qvU
 simp only [qbd,qK,hb,hE,hX,qp,qu,cond_true,Bool.and_self]
 obtain ⟨b1,b2⟩:=quK
 generalize qga qdE qdn qeF=I at *
 have h0:0<I.length:=by omega
 have l1:eqI (qr [qdn]) 1=true:=by rw [qaC,qt]; rfl
 have l2:eqI 0 0=true:=eqT rfl
 have l3:eqI (qr I) 2=true:=by rw [qaC,qt]; exact decide_eq_true (by omega)
 have l4:inB 0 (qr I)=true:=by rw [qdj,qt]; exact decide_eq_true ⟨by omega,by omega⟩
 have l5:∀d,qk I 0 d=I[0]:=fun d=>qD (i:=0) d h0
 rw [List.getElem?_eq_getElem h0] at b2
 have b2:(I[0]).2.1.length=1:=by simpa using b2
 have l6:eqI (qr (I[0]).2.1) 1=true:=by rw [qaC,qt]; exact decide_eq_true (by omega)
 simp only [l1,l2,l3,l4,l5,l6,Bool.and_self,Bool.or_true,cond_true]
theorem qvs {N:Nat} {s:qj} :1000<N→qfV N s []:=fun h=>⟨by simp; omega,fun c hc=>(by cases hc),fun c hc=>(by cases hc),fun c hc=>(by cases hc),fun c hc=>(by cases hc),fun c hc=>(by cases hc),fun c hc=>(by cases hc)⟩
abbrev qu8:Ty:= .pair (.int .i64) (.pair .str (.pair (.slice (.pair (.int .i64) (.pair .str (.pair (.slice (.pair (.int .i64) (.pair qhT .unit))) .unit)))) .unit))
abbrev TAct:Ty:= .pair (.int .i64) (.pair .str (.pair (.slice (.pair (.int .i64) (.pair qhT .unit))) .unit))
theorem qrt (x:qh4):qu8.bulk x=1+(x.2.1.length+1+((x.2.2.1.map TAct.bulk).sum+1+1)):=by
 obtain ⟨a,b,c,⟨⟩⟩:=x; rfl
theorem qrA (x:qo3):TAct.bulk x=1+(x.2.1.length+1+((x.2.2.1.map (Ty.bulk (.pair (.int .i64) (.pair qhT .unit)))).sum+1+1)):=by
 obtain ⟨a,b,c,⟨⟩⟩:=x; rfl
theorem que {xs:List qh4} {b:Nat} (hb:(Ty.slice qu8).bulk xs≤b) (hl:b≤1048576):qoc 5000000 xs:=by
 have e:(Ty.slice qu8).bulk xs=(xs.map qu8.bulk).sum+1:=rfl
 have h1:=qgZ qu8 xs
 refine ⟨by omega,fun x hx=> ?_,fun x hx a ha=> ?_⟩
 ·have h2:=qe5 qu8.bulk hx
  rw [qrt] at h2
  have h3:=qhm TAct.bulk x.2.2.1 fun a _=>by rw [qrA]; omega
  omega
 ·have h2:=qe5 qu8.bulk hx
  rw [qrt] at h2
  have h3:=qe5 TAct.bulk ha
  rw [qrA] at h3
  have h4:=qhm (Ty.bulk (.pair (.int .i64) (.pair qhT .unit))) a.2.2.1 fun o _=>by
   obtain ⟨o1,o2,⟨⟩⟩:=o
   show 1≤1+_
   omega
  omega
theorem law31 (x:qj×(List qcg×(List qh4×(List qbV×Unit)))) (hg:qoG [qQ,.slice qF,.slice qY,.slice qP] x) (hb:qmn [qQ,.slice qF,.slice qY,.slice qP] x≤1048576):∃N z,qal N x=some ((true,()),z):=by
 obtain ⟨s,inst,trs,cs,⟨⟩⟩:=x
 have gs:TSch.good s:=hg.1
 have gr:(Ty.slice qrO).good inst:=hg.2.1
 have gc:(Ty.slice qsX).good cs:=hg.2.2.2.1
 have hb':TSch.bulk s+((Ty.slice qrO).bulk inst+((Ty.slice qu8).bulk trs+((Ty.slice qsX).bulk cs+0)))≤1048576:=hb
 have ea:(Ty.slice qrO).bulk inst=(inst.map qrO.bulk).sum+1:=rfl
 have ia:=rin_of (b:=(inst.map qrO.bulk).sum) gr (by omega)
 have ss:qcU 5000000 s:=(qpG (by omega)).mono (by omega) (by omega)
 have ri:qgs 5000000 inst:=(qtf ia (by omega)).mono (by omega)
 have sg:qoc 5000000 trs:=que (b:=(Ty.slice qu8).bulk trs) (Nat.le_refl _) (by omega)
 have hnm:∀t∈s.1,t.1.length≤1048576:=fun t ht=>by
  obtain ⟨a,b,c,⟨⟩⟩:=s
  rw [qlZ] at hb'
  have:=qe5 qtE.bulk ht
  rw [qou] at this
  simp only at this
  omega
 have hxs:qr1 5000000 s inst trs cs:=⟨ss,ri,hnm,sg,qtl gc (by omega),by omega,by omega⟩
 have bf:∀f∈s.2.1,TFk.bulk f≤1048576:=fun f hf=>by
  obtain ⟨a,b,c,⟨⟩⟩:=s
  rw [qlZ] at hb'
  have:=qe5 TFk.bulk hf
  simp only at this
  omega
 have gf:∀f∈s.2.1,TFk.good f:=by
  obtain ⟨a,b,c,⟨⟩⟩:=s
  exact gs.2.1.2
 have hid:∀f∈s.2.1,(fkC f).length≤1099511627776:=fun f hf=>by have:=qw9 (gf f hf); have:=bf f hf; omega
 refine ⟨5000000,(),?_⟩
 have f1:=qpE 5000000 s inst trs cs hxs
 have f2:=qt3 5000000 s trs ss sg hid
 have f3:=qp9 5000000 s trs ss sg
 have f4:=qnO 5000000 s inst ss ri
 have l0:eqI (qax .i64 (qr ([]:List qbV)) (qr ([]:List qcg))) 0=true:=by rw [qaC,qt,qt,qj2]; decide
 by_cases h0:qng s trs=0
 case neg=>
  have e:qsz s inst trs cs=some ((([]:List qbV),(([]:List qcg),(qng s trs,()))),()):=by unfold qsz; rw [if_pos h0]
  rw [e] at f1
  simp only [qal,qK,f1,f2,f3,qqU,qp,qu,cond_true,Bool.not_true,Bool.not_false,Bool.false_or,Bool.or_true,Bool.and_self,neF (rfl:qng s trs=qng s trs),cond_false,eqF h0,neT h0,l0,eqT (rfl:qng s trs=qng s trs)]
 by_cases h1:qeo s inst=0
 case neg=>
  have e:qsz s inst trs cs=some ((([]:List qbV),(([]:List qcg),(qeo s inst,()))),()):=by unfold qsz; rw [if_neg (by omega),if_pos h1]
  rw [e] at f1
  simp only [qal,qK,f1,f2,f3,f4,qqU,qp,qu,cond_true,Bool.not_true,Bool.not_false,Bool.false_or,Bool.or_true,Bool.and_self,neF (rfl:qng s trs=qng s trs),cond_false,eqT h0,neT h1,l0,eqT (rfl:qeo s inst=qeo s inst)]
 have f5:=qtp 5000000 s inst trs cs hxs hid h0 h1
 obtain ⟨v0,hgt⟩:=qow h0
 have hC:=qme h1
 have e:qsz s inst trs cs=qr5 (RR s trs (cs.map (fun c=>(c,0))) (inst,[])):=by unfold qsz; rw [if_neg (by omega),if_neg (by omega)]
 obtain ⟨i1,i2⟩:=qq3 (N:=5000000) v0 hnm (by omega) hgt (muR trs (cs.map (fun c=>(c,0))) (inst,[])+1) (cs.map (fun c=>(c,0))) (inst,[]) ⟨hC,by simp⟩ (fun t ht=>by
  obtain ⟨c,hc,rfl⟩:=List.mem_map.1 ht
  exact ⟨hxs.cc.one (by omega) hc,fun q=>by have q:(0:Int)<0:=q; omega,Int.le_refl _,by show (0:Int)≤7; omega⟩) (fun c hc=>by cases hc)
 have hz:∃A B z,qsz s inst trs cs=some ((A,(B,(z,()))),())∧qaT 5000000 (A,(A,()))=some ((true,()),())∧qaZ 5000000 (B,(B,()))=some ((true,()),()):=by
  rw [e]
  change qq7 s (RR s trs (cs.map (fun c=>(c,0))) (inst,[])).2 at i1
  change ∀c∈(RR s trs (cs.map (fun c=>(c,0))) (inst,[])).2.2,_ at i2
  generalize RR s trs (cs.map (fun c=>(c,0))) (inst,[])=r at *
  unfold qr5
  by_cases hr:r.1=0
  ·rw [if_pos hr]
   have hlen:=i1.len
   have hC2:=i1.conf
   have hv:=qfm v0
   have hasm:=qnr.asm hv hC2 ss (qvs (by omega)) (by omega) (by omega)
   exact ⟨_,_,_,rfl,qp2 5000000 _ (by omega) i2 (by omega),qn0 5000000 _ hasm.ri.n hasm.ri.rows hasm.ri.row (by omega)⟩
  ·rw [if_neg hr]
   exact ⟨_,_,_,rfl,qp2 5000000 [] (by simp) (fun c hc=>(by cases hc)) (by omega),qn0 5000000 [] (by simp) (fun c hc=>by cases hc) (fun c hc=>by cases hc) (by omega)⟩
 obtain ⟨A,B,z,g1,g2,g3⟩:=hz
 rw [g1] at f1 f5
 simp only [qal,qK,f1,f2,f3,f4,f5,g2,g3,qqU,qp,qu,cond_true,Bool.not_true,Bool.not_false,Bool.false_or,Bool.or_true,Bool.and_self,neF (rfl:qng s trs=qng s trs),cond_false,eqT h0,neF h1,eqT (rfl:z=z)]
end
end Go.Proofs.YtnlkfgdojfijpaaGreatDoor
