import Derived.Test.YtpdhkfofjpankaaGreatDoorFns
import Derived.Test.YtpdhkfofjpankaaGreatDoorViXD
set_option linter.unusedVariables false
set_option linter.unusedSimpArgs false
set_option linter.unnecessarySimpa false
set_option linter.unusedSectionVars false
set_option linter.unusedSimpArgs false
set_option maxRecDepth 100000
namespace Go.Proofs.YtpdhkfofjpankaaGreatDoor
open Go.Vi
noncomputable section
def qf6 (c:UInt8):Bool:=decide (97≤c.toNat)&&decide (c.toNat≤122)
def qgM (c:UInt8):Bool:=decide (48≤c.toNat)&&decide (c.toNat≤57)
def qey (s:List UInt8):Bool:=match s with
 |[]=>false
 |c::r=>decide ((c::r).length≤12)&&(qf6 c&&r.all fun c=>qf6 c||qgM c)
theorem qdW (c:UInt8):qcn c=(c.toNat:Int):=qfC c
theorem qrh (c:UInt8):(ltI (qcn c) 97||ltI 122 (qcn c))= !qf6 c:=by
 rw [qdW,qaZ,qaZ,qf6]
 rw [Bool.eq_iff_iff]
 simp only [Bool.or_eq_true,decide_eq_true_eq,Bool.not_eq_true',Bool.and_eq_false_iff,decide_eq_false_iff_not]
 omega
theorem qrj (c:UInt8):(ltI (qcn c) 48||ltI 57 (qcn c))= !qgM c:=by
 rw [qdW,qaZ,qaZ,qgM]
 rw [Bool.eq_iff_iff]
 simp only [Bool.or_eq_true,decide_eq_true_eq,Bool.not_eq_true',Bool.and_eq_false_iff,decide_eq_false_iff_not]
 omega
def qhJ (av:List Bool) (c:UInt8):Bool:=qn av (qcn c) false
theorem qj8 (N:Nat) (av:List Bool) (c:UInt8):qae N (av,(qcn c,()))=some ((qhJ av c,()),(av,())):=by
 simp only [qae]
 rw [qw (by rw [qdW,qcB]; have:=c.toNat_lt; simp; omega)]
 rfl
theorem qoB (N:Nat) (av:List Bool) (s:List UInt8) (hN:s.length<N):qbi N (s,(av,()))=some ((s.dropWhile (qhJ av),()),(av,())):=by
 simp only [qbi]
 refine qeo (S:=(List UInt8)×((List Bool)×Unit)) (R:=((List UInt8)×Unit)×((List Bool)×Unit)) (fun p=>p.1.length) (fun p=>p.2.1=av) (fun p=>((p.1.dropWhile (qhJ av),()),(av,()))) ?_ N _ rfl hN
 rintro ih ⟨s,av',_⟩ h2 hih
 simp only at h2 hih⊢
 subst h2
 cases s with
 |nil=>rw [qF (by rw [qaZ,qe]; rfl)]; rfl
 |cons c r=>
  have hg:qn (c::r) 0 0=c:=qf9 (i:=0) rfl
  rw [qw (by rw [qaZ,qe]; simp)]
  simp only [hg,qj8,qh,qr,Bool.and_true]
  rw [qw (show inB 0 (qk (c::r))=true from qC (i:=0) (by simp))]
  by_cases h:qhJ av' c=true
  ·rw [qF (by simp [h]),qw (show inS 1 (qk (c::r)) (qk (c::r))=true from qoW (i:=1) (by simp)),show qam (c::r) 1 (qk (c::r))=r from qpI _ 1,hih (r,(av',())) rfl (by simp)]
   simp [List.dropWhile_cons,h]
  ·rw [qw (by simpa using h)]
   simp [List.dropWhile_cons,h]
def qjy (p:UInt8→Bool) (s:List UInt8):List UInt8:=(s.reverse.dropWhile p).reverse
theorem qpv (p:UInt8→Bool) (s:List UInt8) (c:UInt8):qjy p (s++[c])=if p c=true then qjy p s else s++[c]:=by
 simp only [qjy,List.reverse_append,List.reverse_cons,List.reverse_nil,List.nil_append,List.cons_append,List.dropWhile_cons]
 split <;> simp
theorem qnm (N:Nat) (av:List Bool) (s:List UInt8) (hN:s.length<N) (hl:s.length<4000000000000000000):qah N (s,(av,()))=some ((qjy (qhJ av) s,()),(av,())):=by
 simp only [qah]
 refine qeo (S:=(List UInt8)×((List Bool)×Unit)) (R:=((List UInt8)×Unit)×((List Bool)×Unit)) (fun p=>p.1.length) (fun p=>p.2.1=av∧p.1.length<4000000000000000000) (fun p=>((qjy (qhJ av) p.1,()),(av,()))) ?_ N _ ⟨rfl,hl⟩ hN
 rintro ih ⟨s,av',_⟩ ⟨h2,h3⟩ hih
 simp only at h2 h3 hih⊢
 subst h2
 rcases List.eq_nil_or_concat s with rfl|⟨r,c,rfl⟩
 ·rw [qF (by rw [qaZ,qe]; rfl)]; rfl
 ·rw [List.concat_eq_append] at h3 hih⊢
  simp only [List.length_append,List.length_cons,List.length_nil] at h3
  have el:qda .i64 (qk (r++[c])) 1=(r.length:Int):=by
   have e:((r++[c]).length:Int)=(r.length:Int)+1:=by simp
   rw [qe,e,qeC (by omega) (by omega)]; omega
  have hg:qn (r++[c]) (r.length:Int) 0=c:=qf9 (by simp)
  rw [qw (by rw [qaZ,qe]; simp)]
  simp only [el,hg,qj8,qh,qr,Bool.and_true]
  rw [qw (qC (by simp)),qpv]
  by_cases h:qhJ av' c=true
  ·rw [qF (by simp [h]),qw (by rw [qiY,qe]; simp; omega),qjQ,if_pos h]
   have e:(r++[c]).take r.length=r:=by simp
   rw [e,hih (r,(av',())) ⟨rfl,by simp only; omega⟩ (by simp)]
  ·rw [qw (by simpa using h),if_neg h]
theorem qiE {p:UInt8→Bool} :(s:List UInt8)→(s.dropWhile p=[]↔s.all p=true)
 |[]=>by simp
 |c::r=>by
  rw [List.dropWhile_cons,List.all_cons]
  by_cases h:p c=true
  ·rw [if_pos h,qiE r,h]; simp
  ·rw [if_neg h]; simp [h]
theorem qie {p:UInt8→Bool} :(s:List UInt8)→(s.dropWhile p).all p=s.all p
 |[]=>rfl
 |c::r=>by
  rw [List.dropWhile_cons]
  by_cases h:p c=true
  ·rw [if_pos h,qie r]; simp [h]
  ·rw [if_neg h]
theorem qsa {p:UInt8→Bool} (s:List UInt8):((qjy p s).dropWhile p=[])↔s.all p=true:=by
 rw [qiE,qjy,List.all_reverse,qie,List.all_reverse]
def qdf:List UInt8:=[97,98,99,100,101,102,103,104,105,106,107,108,109,110,111,112,113,114,115,116,117,118,119,120,121,122,48,49,50,51,52,53,54,55,56,57]
def qpk (i:Nat):List Bool:=(qdf.take i).foldl (fun av c=>av.set c.toNat true) (List.replicate 256 false)
theorem qtm:∀m:Fin 256,(qpk 36).getD m.val false=((decide (97≤m.val)&&decide (m.val≤122))||(decide (48≤m.val)&&decide (m.val≤57))):=by decide+kernel
theorem qmi:∀c∈qdf,c.toNat<128:=by decide+kernel
theorem qsf (c:UInt8):qhJ (qpk 36) c=(qf6 c||qgM c):=by
 rw [qhJ,qdW,qdH,Int.toNat_natCast]
 exact qtm ⟨c.toNat,c.toNat_lt⟩
theorem qpM (N:Nat) (hN:40<N):q9 N (qdf,())=some ((qpk 36,(true,())),()):=by
 simp only [q9]
 refine qfn (S:=(List Bool)×(Int×Unit)) (fun i=>(qpk i,((i:Int),()))) 36 _ rfl ?_ ?_ (by omega)
 ·intro i hi ih
  have hl:i<qdf.length:=hi
  have hg:qn qdf (i:Int) 0=qdf[i]:=qf9 (List.getElem?_eq_getElem hl)
  have hs:=qmi qdf[i] (List.getElem_mem hl)
  rw [qw (qaE hl),qw (qC hl),hg,qF (by rw [qci,qdW]; simp; omega),qw (by rw [qdW,qcB]; simp; omega),qO (by omega)]
  have e:qpk (i+1)=(qpk i).set qdf[i].toNat true:=by
   rw [qpk,qbj hl,List.foldl_append]; rfl
  simp only [e,qbL,qdW,Int.toNat_natCast]
 ·intro ih
  rw [qF (qal (show ¬36<qdf.length by decide))]
theorem qtD (N:Nat) (s:List UInt8) (hs:s≠[]) (hl:s.length<4000000000000000000) (hN:s.length+40<N):qcQ N (s,(qdf,()))=some (((qjy (qhJ (qpk 36)) s).dropWhile (qhJ (qpk 36)),()),()):=by
 have hrl:(qjy (qhJ (qpk 36)) s).length≤s.length:=by
  have:∀(p:UInt8→Bool) (l:List UInt8),(l.dropWhile p).length≤l.length:=fun p l=>(List.dropWhile_sublist p).length_le
  rw [qjy,List.length_reverse]
  exact Nat.le_trans (this _ _) (by simp)
 simp only [qcQ,qM,qpM N (by omega),qh,qr,cond_true,qnm N _ s (by omega) hl,qoB N _ (qjy (qhJ (qpk 36)) s) (by omega),Bool.and_self]
 rw [qF (by rw [qbw,qbw]; simp [hs,qdf]),qw (by rw [show eqI (qk qdf) 1=false from by rw [qbE,qe]; rfl]; rfl),qF (by rw [show eqI (qk qdf) 1=false from by rw [qbE,qe]; rfl]; rfl)]
def az:List UInt8:=[97,98,99,100,101,102,103,104,105,106,107,108,109,110,111,112,113,114,115,116,117,118,119,120,121,122]
theorem az_is:∀m:Fin 256,decide (0≤Lib.indexByte az (UInt8.ofNat m.val))=(decide (97≤m.val)&&decide (m.val≤122)):=by decide+kernel
theorem qsq (c:UInt8):leI 0 (Lib.indexByte az c)=qf6 c:=by
 have:=az_is ⟨c.toNat,c.toNat_lt⟩
 simp only [UInt8.ofNat_toNat] at this
 rw [qci,this,qf6]
theorem qnQ (N:Nat) (c:UInt8):qbH N (az,([c],()))=some ((qf6 c,()),()):=by
 simp only [qbH,qdo,qbd,qmj,qh,qr,cond_true,qsq]
theorem qlR (N:Nat) (s:List UInt8) (hN:100<N):qaW N (s,())=some ((qey s,()),()):=by
 simp only [qaW]
 cases s with
 |nil=>
  have e:eqS ([]:List UInt8) []=true:=by rw [qbw]; simp
  simp only [e]
  rfl
 |cons c r=>
  have e1:eqS (c::r) []=false:=by rw [qbw]; simp
  have e2:leI (qk (c::r)) 12=decide ((c::r).length≤12):=by rw [qci,qe]; exact decide_eq_decide.2 (by omega)
  have e3:inS 0 1 (qk (c::r))=true:=by rw [qkF,qe]; simp; omega
  have e4:qam (c::r) 0 1=[c]:=by rw [qcg]; rfl
  have e5:=qnQ N c
  unfold az at e5
  rw [e1,e2,e3,e4,e5]
  by_cases h:(c::r).length≤12
  ·have e6:=qtD N (c::r) (by simp) (by omega) (by omega)
   unfold qdf at e6
   rw [e6]
   simp only [h,decide_true,Bool.not_false,Bool.true_and,Bool.and_true,Bool.not_true,Bool.false_or,qh,qr,Bool.or_true,cond_true]
   congr 3
   rw [qbw,qey]
   simp only [h,decide_true,Bool.true_and]
   have key:decide ((qjy (qhJ (qpk 36)) (c::r)).dropWhile (qhJ (qpk 36))=[])=(c::r).all (fun c=>qf6 c||qgM c):=by
    rw [Bool.eq_iff_iff,decide_eq_true_iff,qsa]
    simp only [List.all_eq_true,qsf]
   rw [key,List.all_cons]
   cases qf6 c <;> simp
  ·have h':decide ((c::r).length≤12)=false:=decide_eq_false h
   rw [qey]
   simp only [h',Bool.and_false,Bool.false_and,Bool.not_false,Bool.true_or,Bool.and_self,cond_true]
theorem qjv (N:Nat) (s:List UInt8) (hl:s.length≤4000000000000000000) (hN:s.length<N):qbl N (s,())=some ((qey s,()),()):=by
 simp only [qbl,qM]
 cases s with
 |nil=>
  have e1:ltI (qk ([]:List UInt8)) 1=true:=by rw [qaZ,qe]; rfl
  simp [e1,qey]
 |cons c r=>
  have hg:qn (c::r) 0 0=c:=qf9 (i:=0) rfl
  have e1:ltI (qk (c::r)) 1=false:=by rw [qaZ,qe]; simp; omega
  have e2:ltI 12 (qk (c::r))= !decide ((c::r).length≤12):=by
   rw [qaZ,qe]
   by_cases h:(c::r).length≤12
   ·simp only [h,decide_true,Bool.not_true,decide_eq_false_iff_not]; omega
   ·simp only [h,decide_false,Bool.not_false,decide_eq_true_eq]; omega
  have e3:inB 0 (qk (c::r))=true:=qC (i:=0) (by simp)
  have e4:(leI 48 (qcn c)&&leI (qcn c) 57)=qgM c:=by
   rw [qdW,qci,qci,qgM]
   congr 1 <;> exact decide_eq_decide.2 (by omega)
  rw [e1,e2,e3,hg,e4]
  simp only [Bool.or_true,Bool.and_self,cond_true]
  by_cases h:(c::r).length≤12
  ·simp only [h,decide_true,Bool.not_true,Bool.or_self,Bool.false_or]
   by_cases hd:qgM c=true
   ·have hlow:qf6 c=false:=by
     simp only [qgM,qf6,Bool.and_eq_true,decide_eq_true_eq] at hd⊢
     simp; omega
    rw [hd,cond_true,qey,hlow]
    simp
   ·have hd:qgM c=false:=by simpa using hd
    rw [hd,cond_false]
    refine (qY (S:=Int×Unit) (R:=(Bool×Unit)×Unit) (fun i=>((i:Int),())) (c::r).length (fun i=>if h:i<(c::r).length then (if qf6 (c::r)[i]||qgM (c::r)[i] then none else some ()) else none) (fun _=>some ((false,()),())) (some ((true,()),())) rfl (fun i hi _ ih=> ?_) (fun _ ih=> ?_) hN).trans ?_
    rotate_left
    rotate_left
    ·have key:(q8 (fun i=>if h:i<(c::r).length then (if qf6 (c::r)[i]||qgM (c::r)[i] then none else some ()) else none) (c::r).length).isNone=(c::r).all (fun c=>qf6 c||qgM c):=by
      rw [Bool.eq_iff_iff,List.all_eq_true]
      constructor
      ·intro hn x hx
       obtain ⟨i,hi,rfl⟩:=List.getElem_of_mem hx
       have:=qbh (Option.isNone_iff_eq_none.1 hn) i hi
       rw [dif_pos hi] at this
       by_cases hb:(qf6 (c::r)[i]||qgM (c::r)[i])=true
       ·exact hb
       ·rw [if_neg hb] at this; cases this
      ·intro ha
       rw [Option.isNone_iff_eq_none]
       cases hf:q8 (fun i=>if h:i<(c::r).length then (if qf6 (c::r)[i]||qgM (c::r)[i] then none else some ()) else none) (c::r).length with
       |none=>rfl
       |some u=>
        obtain ⟨i,hi,hg,_⟩:=qc1 hf
        rw [dif_pos hi,if_pos (ha _ (List.getElem_mem hi))] at hg
        cases hg
     rw [qey]
     simp only [h,decide_true,Bool.true_and]
     rw [List.all_cons,hd,Bool.or_false] at key
     rw [←key]
     cases q8 (fun i=>if h:i<(c::r).length then (if qf6 (c::r)[i]||qgM (c::r)[i] then none else some ()) else none) (c::r).length <;> rfl
    ·have hlb:qk (qeb (c::r))=qk (c::r):=by rw [qe,qe,qc5,List.length_map]
     have hgi:qn (qeb (c::r)) (i:Int) 0=qcn (c::r)[i]:=by
      rw [qc5]
      exact qf9 (by rw [List.getElem?_map,List.getElem?_eq_getElem hi]; rfl)
     simp only
     rw [hlb,qw (qaE hi),qw (qC hi),hgi,qrh,qrj,qO (by omega),dif_pos hi]
     cases qf6 (c::r)[i] <;> cases qgM (c::r)[i] <;> rfl
    ·have hlb:qk (qeb (c::r))=qk (c::r):=by rw [qe,qe,qc5,List.length_map]
     simp only
     rw [hlb,qF (qal (Nat.lt_irrefl _))]
  ·have h':decide ((c::r).length≤12)=false:=decide_eq_false h
   rw [qey]
   simp only [h',Bool.not_false,Bool.false_and,Bool.false_or,Bool.true_or,cond_true]
end
end Go.Proofs.YtpdhkfofjpankaaGreatDoor
namespace Go.Proofs.YtpdhkfofjpankaaGreatDoor
open Go.Vi
noncomputable section
theorem qoX (N:Nat) (s:List UInt8) (h:(qeu s).length≤1099511627776):qa3 N (s,())=some ((qeu s,()),()):=by
 have hl:(Lib.itoa (s.length:Int)).length+1+s.length≤1099511627776:=by
  unfold qeu at h
  simp only [List.length_append,List.length_cons] at h
  omega
 simp only [qa3,qa0,qh,qr,Bool.true_and,qe s,qbI]
 rw [qqB (by omega) (by simp)]
 rw [←qe s,qqB (by rw [qe]; simp only [List.length_append,List.length_cons,List.length_nil]; omega) (by omega)]
 rw [qe]
 simp [qeu]
theorem ql0 {α:Type} (f:α→List UInt8) (l:List α) (i:Nat):(((l.take i).map f).flatten).length≤((l.map f).flatten).length:=by
 have e:l.map f=(l.take i).map f++(l.drop i).map f:=by rw [←List.map_append,List.take_append_drop]
 rw [e,List.flatten_append,List.length_append]
 omega
theorem qra {α:Type} (f:α→List UInt8) (l:List α) {i:Nat} (hi:i<l.length):((l.take (i+1)).map f).flatten=((l.take i).map f).flatten++f l[i]:=by
 rw [qbj hi,List.map_append,List.flatten_append,List.map_cons,List.map_nil,List.flatten_cons,List.flatten_nil,List.append_nil]
theorem qkA (N:Nat) (f:qs) (hN:f.2.1.length<N) (h:(fkC f).length≤1099511627776) (hb:f.2.1.length≤1099511627776):qbn N (f,())=some ((fkC f,()),()):=by
 obtain ⟨t,cs,r,⟨⟩⟩:=f
 simp only at hN hb
 have h0:(qeu t).length+(qeu r).length+(qhi cs).length≤1099511627776:=by
  unfold fkC at h
  simp only [List.length_append] at h
  omega
 simp only [qbn,qM]
 rw [qoX N t (by omega),qoX N r (by omega)]
 simp only [qh,qr,Bool.true_and]
 rw [qw (qqB (by omega) (by omega))]
 refine qfn (S:=qbe) (fun i=>(qeu t++(qeu r++qhi (cs.take i)),((i:Int),()))) cs.length _ (by simp [qbI,qhi]) (fun i hi ih=> ?_) (fun ih=> ?_) hN
 ·have h1:(qhi (cs.take (i+1))).length≤(qhi cs).length:=ql0 _ _ _
  have e1:qhi (cs.take (i+1))=qhi (cs.take i)++44::Lib.itoa cs[i]:=qra _ _ hi
  rw [e1,List.length_append,List.length_cons] at h1
  simp only
  rw [qw (qaE hi),qC hi,cond_true,qH _ hi]
  simp only [qa0,qh,qr,Bool.true_and,qbI]
  rw [qqB (by simp) (by omega),qqB (by simp only [List.length_append]; omega) (by simp only [List.length_append,List.length_cons,List.length_nil]; omega)]
  simp only [Bool.and_self,cond_true]
  rw [qO (by omega),e1]
  simp
 ·simp only
  rw [qF (qal (Nat.lt_irrefl _)),List.take_length]
  rfl
set_option synthInstance.maxHeartbeats 400000 in
set_option synthInstance.maxSize 4000 in
instance decTable:DecidableEq qj:=inferInstance
set_option synthInstance.maxHeartbeats 400000 in
set_option synthInstance.maxSize 4000 in
instance dec0:DecidableEq qa:=inferInstance
set_option synthInstance.maxHeartbeats 400000 in
set_option synthInstance.maxSize 4000 in
instance dec1:DecidableEq qv:=inferInstance
instance dec2:DecidableEq qs:=inferInstance
instance dec3:DecidableEq (List qv×Unit):=instDecidableEqProd
instance dec4:DecidableEq (List qs×(List qv×Unit)):=instDecidableEqProd
instance decSch:DecidableEq qc:=instDecidableEqProd
theorem qrc (N:Nat) (xs ys:List Int) (hN:xs.length<N) (hb:xs.length≤1099511627776):qb5 N (xs,(ys,()))=some ((decide (xs=ys),()),()):=by
 simp only [qb5]
 by_cases hl:xs.length=ys.length
 ·rw [qF (by rw [qaF,qe,qe,hl]; simp)]
  exact qmV (ne:=neI) (fun a b=>qaF a b) xs ys 0 hl hb hN
 ·rw [qw (by rw [qaF,qe,qe]; simp; omega)]
  have:xs≠ys:=fun h=>hl (by rw [h])
  simp [this]
theorem qpn (N:Nat) (a b:qs) (hN:a.2.1.length<N) (hB:N≤1099511627776):qa1 N (a,(b,()))=some ((decide (a=b),()),()):=by
 obtain ⟨a1,a2,a3,⟨⟩⟩:=a
 obtain ⟨b1,b2,b3,⟨⟩⟩:=b
 simp only at hN
 simp only [qa1,qrc N a2 b2 hN (by omega),qh,qr,qbw,Bool.or_true,cond_true,Prod.mk.injEq,and_true,Bool.decide_and,Bool.and_assoc]
structure Small (N:Nat) (s:qc):Prop where
 n:N≤1099511627776
 t:s.1.length<N
 f:s.2.1.length<N
 c:s.2.2.1.length<N
 tc:∀t∈s.1,t.2.1.length<N
 tk:∀t∈s.1,t.2.2.1.length<N
 fc:∀f∈s.2.1,f.2.1.length<N
 tn:∀t∈s.1,t.1.length<N
 cn:∀t∈s.1,∀c∈t.2.1,c.1.length<N
end
end Go.Proofs.YtpdhkfofjpankaaGreatDoor
namespace Go.Proofs.YtpdhkfofjpankaaGreatDoor
open Go.Vi
noncomputable section
def atE {α:Type} (q:α→Bool) (xs:List α) (i:Nat):Option Nat:=match xs[i]? with
 |some x=>if q x=true then some i else none
 |none=>none
def qgx {α:Type} (q:α→Bool) (xs:List α):Option Nat:=q8 (atE q xs) xs.length
theorem qdp {α:Type} {q:α→Bool} {xs:List α} {i:Nat} (h:qgx q xs=some i):∃hi:i<xs.length,q xs[i]=true∧∀j (hj:j<i),q (xs[j]'(by omega))=false:=by
 obtain ⟨k,h1,h2,h3⟩:=qc1 h
 have hk:xs[k]? =some xs[k]:=List.getElem?_eq_getElem h1
 simp only [atE,hk] at h2
 split at h2
 ·rename_i hq
  injection h2 with h2
  subst h2
  refine ⟨h1,hq,fun j hj=> ?_⟩
  have:=qbh h3 j hj
  simp only [atE,List.getElem?_eq_getElem (show j<xs.length by omega)] at this
  split at this
  ·cases this
  ·rename_i hn; simpa using hn
 ·cases h2
theorem qkK {α:Type} {q:α→Bool} {xs:List α} (h:qgx q xs=none):∀x∈xs,q x=false:=fun x hx=>by
 obtain ⟨i,hi,rfl⟩:=List.getElem_of_mem hx
 have:=qbh h i hi
 simp only [atE,List.getElem?_eq_getElem hi] at this
 split at this
 ·cases this
 ·rename_i hn; simpa using hn
def qiZ {α:Type} (q:α→Bool) (xs:List α):Int:=match qgx q xs with
 |some i=>(i:Int)
 |none=> -1
theorem qdL {α:Type} (f:(α×Unit)→Option (Bool×Unit)) (q:α→Bool) (xs:List α) (hf:∀a∈xs,f (a,())=some (q a,())) (d:α) (N:Nat) (hN:xs.length<N) (hb:xs.length≤1099511627776):
  (qaI (S:=(Int×Unit)) (R:=((Int×Unit)×Unit)) N (fun ih0=>(fun p1=>(bif (ltI p1.1 (qk xs)) then (bif ((inB p1.1 (qk xs))&&(qA (f ((qn xs p1.1 d),())))) then (qaw (qP (f ((qn xs p1.1 d),())) (false,())).1 (fun y2=>(bif y2 then (some ((p1.1,()),())) else (ih0 ((qcq .i64 p1.1 1),()))))) else none) else (some (((-1),()),()))))) (0,()))=some ((qiZ q xs,()),()):=by
 refine (qY (S:=Int×Unit) (fun i=>((i:Int),())) xs.length (atE q xs) (fun i=>some (((i:Int),()),())) (some ((-1,()),())) rfl (fun i hi _ ih=> ?_) (fun _ ih=> ?_) hN).trans ?_
 ·simp only [qM]
  rw [qw (qaE hi),qH _ hi,hf _ (List.getElem_mem hi),qh,qr,Bool.and_true,qw (qC hi),qO (by omega)]
  simp only [atE,List.getElem?_eq_getElem hi]
  cases q xs[i] <;> rfl
 ·simp only
  rw [qF (qal (Nat.lt_irrefl _))]
 ·rw [qiZ,qgx]
  cases q8 (atE q xs) xs.length <;> rfl
theorem qpe {α:Type} (q:α→Bool) (xs:List α):qtr (qiZ q xs) 0=(((qgx q xs).getD 0:Nat):Int):=by
 rw [qiZ,ql2]
 cases qgx q xs with
 |none=>rfl
 |some i=>simp only [Option.getD_some]; split <;> omega
theorem qme {α:Type} (q:α→Bool) (xs:List α):leI 0 (qiZ q xs)=(qgx q xs).isSome:=by
 rw [qiZ,qci]
 cases qgx q xs with
 |none=>rfl
 |some i=>simp
def qll (n:List UInt8) (c:qb):Bool:=decide (c.1=n)
def qcj (n:List UInt8) (t:qj):Bool:=decide (t.1=n)
theorem ql3 (N:Nat) (t:qj) (n:List UInt8) (hN:t.2.1.length<N) (hB:N≤1099511627776):qbQ N (t,(n,()))=some (((((qgx (qll n) t.2.1).getD 0:Nat):Int),((qgx (qll n) t.2.1).isSome,())),()):=by
 simp only [qbQ,qM]
 have h:=qdL (fun x0=>(qjZ (fun y1:((Bool×Unit)×Unit)=>(y1.1.1,())) (qa8 N (x0.1,(n,()))))) (qll n) t.2.1 (fun a _=>by simp only [qa8,qeg,Option.map_some,qbw,qll]) (([]:List UInt8),(0,(false,()))) N hN (by omega)
 rw [show qa2 N (t.2.1,((fun x0=>(qjZ (fun y1=>(y1.1.1,())) (qa8 N (x0.1,(n,()))))),()))=some ((qiZ (qll n) t.2.1,()),()) from h]
 simp only [qh,qr,cond_true,qpe,qme]
theorem qc8 (N:Nat) (s:qc) (n:List UInt8) (hN:s.1.length<N) (hB:N≤1099511627776):qx N (s,(n,()))=some (((((qgx (qcj n) s.1).getD 0:Nat):Int),((qgx (qcj n) s.1).isSome,())),()):=by
 simp only [qx,qM]
 have h:=qdL (fun x0=>(qjZ (fun y1:((Bool×Unit)×Unit)=>(y1.1.1,())) (qbo N (x0.1,(n,()))))) (qcj n) s.1 (fun a _=>by simp only [qbo,qeg,Option.map_some,qbw,qcj]) (([]:List UInt8),(([]:List qb),(([]:List Int),()))) N hN (by omega)
 rw [show qbc N (s.1,((fun x0=>(qjZ (fun y1=>(y1.1.1,())) (qbo N (x0.1,(n,()))))),()))=some ((qiZ (qcj n) s.1,()),()) from h]
 simp only [qh,qr,cond_true,qpe,qme]
def qd5 (s:qc) (n:List UInt8):Option qj:=(qgx (qcj n) s.1).bind fun i=>s.1[i]?
theorem qg8 (N:Nat) (s:qc) (n:List UInt8) (hN:s.1.length<N) (hB:N≤1099511627776):qu N (s,(n,()))=some ((qd5 s n,()),()):=by
 simp only [qu]
 refine (qY (S:=Int×Unit) (fun i=>((i:Int),())) s.1.length (atE (qcj n) s.1) (fun i=>some ((s.1[i]?,()),())) (some ((none,()),())) rfl (fun i hi _ ih=> ?_) (fun _ ih=> ?_) hN).trans ?_
 ·simp only
  rw [qw (qaE hi),qC hi,qH _ hi,qO (by omega),qbw]
  simp only [atE,List.getElem?_eq_getElem hi,qcj,cond_true,decide_eq_true_eq]
  by_cases hq:(s.1[i]).1=n <;> simp [hq]
 ·simp only
  rw [qF (qal (Nat.lt_irrefl _))]
 ·rw [qd5,qgx]
  cases q8 (atE (qcj n) s.1) s.1.length <;> rfl
structure qkU (N:Nat) (t:qj):Prop where
 n:N≤1099511627776
 m:100<N
 nm:t.1.length<N
 c:t.2.1.length<N
 k:t.2.2.1.length<N
 cn:∀c∈t.2.1,c.1.length<N
open Classical in
def qsX (cs:List qb) (i:Nat):Option Int:=match cs[i]? with
 |none=>none
 |some c=>if qey c.1=false then some 23 else if c.1∈(cs.take i).map (fun c=>c.1) then some 5 else if c.2.1<1∨3<c.2.1 then some 7 else none
def qiP:qb:=(([]:List UInt8),(0,(false,())))
def pkE (cs:List qb) (ks:List Int) (i:Nat):Option Int:=match ks[i]? with
 |none=>none
 |some k=>if k<0∨(cs.length:Int)≤k∨(qn cs k qiP).2.2.1=true∨(0<i∧k≤ks.getD (i - 1) 0) then some 9 else none
def qpE (t:qj):Int:=if qey t.1=false then 23 else if t.2.1.length=0 then 3 else if 6<t.2.1.length then 2 else match q8 (qsX t.2.1) t.2.1.length with
 |some e=>e
 |none=>match q8 (pkE t.2.1 t.2.2.1) t.2.2.1.length with
  |some e=>e
  |none=>if t.2.2.1.length=0 then 9 else 0
theorem qso {cs:List qb} {i:Nat} (hi:i<cs.length):ltI (((qgx (qll (cs[i]).1) cs).getD 0:Nat):Int) (i:Int)=open Classical in decide ((cs[i]).1∈(cs.take i).map (fun c=>c.1)):=by
 rw [qbF]
 apply decide_eq_decide.2
 cases h:qgx (qll (cs[i]).1) cs with
 |none=>
  have:=qkK h cs[i] (List.getElem_mem hi)
  simp [qll] at this
 |some j=>
  obtain ⟨hj,h1,h2⟩:=qdp h
  simp only [Option.getD_some]
  constructor
  ·intro hlt
   refine List.mem_map.2 ⟨cs[j],?_,by simpa [qll] using h1⟩
   exact List.mem_take_iff_getElem.2 ⟨j,by omega,rfl⟩
  ·intro hm
   obtain ⟨c,hc,he⟩:=List.mem_map.1 hm
   obtain ⟨k,hk,rfl⟩:=List.mem_take_iff_getElem.1 hc
   have hki:k<i:=by omega
   by_cases hjk:k<j
   ·have:=h2 k hjk
    simp [qll,he] at this
   ·omega
theorem qqH {α:Type} (xs:List α):eqI (qk xs) 0=decide (xs.length=0):=by
 rw [qbE,qe]; exact decide_eq_decide.2 (by omega)
theorem qj6 {α:Type} (xs:List α) (n:Nat):ltI (n:Int) (qk xs)=decide (n<xs.length):=by
 rw [qaZ,qe]; exact decide_eq_decide.2 (by omega)
theorem qnN (N:Nat) (t:qj) (h:qkU N t):qbv N (t,())=some ((qpE t,()),()):=by
 have hn:=h.n
 have hc:=h.c
 have hk:=h.k
 simp only [qbv,qM]
 rw [qjv N t.1 (by have:=h.nm; omega) h.nm]
 simp only [qh,qr,cond_true,qqH,show ltI 6 (qk t.2.1)=decide (6<t.2.1.length) from qj6 _ 6]
 unfold qpE
 cases h1:qey t.1 with
 |false=>rfl
 |true=>
  simp only [Bool.not_true,cond_false,if_false,Bool.true_eq_false]
  by_cases h2:t.2.1.length=0
  ·simp [h2]
  by_cases h3:6<t.2.1.length
  ·simp [h2,h3]
  simp only [h2,h3,decide_false,cond_false,if_false]
  refine (qY (S:=Int×Unit) (fun i=>((i:Int),())) t.2.1.length (qsX t.2.1) (fun e=>some ((e,()),())) (match q8 (pkE t.2.1 t.2.2.1) t.2.2.1.length with
   |some e=>some ((e,()),())
   |none=>some ((if t.2.2.1.length=0 then 9 else 0,()),())) rfl (fun i hi _ ih=> ?_) (fun _ ih=> ?_) hc).trans ?_
  ·simp only
   have hm:(t.2.1[i]).1.length<N:=h.cn _ (List.getElem_mem hi)
   rw [qw (qaE hi),qw (qC hi),qH _ hi,qjv N _ (by omega) hm,ql3 N t _ hc hn,qO (by omega)]
   simp only [qh,qr,cond_true,qso hi,qsX,List.getElem?_eq_getElem hi]
   cases qey (t.2.1[i]).1 with
   |false=>rfl
   |true=>
    simp only [Bool.not_true,cond_false,if_false,Bool.true_eq_false]
    by_cases h4:(t.2.1[i]).1∈(t.2.1.take i).map (fun c=>c.1)
    ·simp only [h4,decide_true,cond_true,if_true]
    ·simp only [h4,decide_false,cond_false,if_false]
     rw [qbF,qbF,←Bool.decide_or,qad]
     split <;> rfl
  ·simp only
   rw [qF (qal (Nat.lt_irrefl _))]
   refine (qY (S:=Int×Unit) (fun i=>((i:Int),())) t.2.2.1.length (pkE t.2.1 t.2.2.1) (fun e=>some ((e,()),())) (some ((if t.2.2.1.length=0 then 9 else 0,()),())) rfl (fun i hi _ ih=> ?_) (fun _ ih=> ?_) hk).trans ?_
   ·simp only
    rw [qw (qaE hi),qw (qC hi),qH _ hi,qO (by omega)]
    simp only [pkE,List.getElem?_eq_getElem hi]
    have e1:ltI (t.2.2.1[i]) 0=decide (t.2.2.1[i]<0):=qbF _ _
    have e2:leI (qk t.2.1) (t.2.2.1[i])=decide ((t.2.1.length:Int)≤t.2.2.1[i]):=by rw [qcX,qe]
    have e3:inB (t.2.2.1[i]) (qk t.2.1)=(decide (0≤t.2.2.1[i])&&decide (t.2.2.1[i]<(t.2.1.length:Int))):=by rw [qcB,qe]
    have e4:ltI 0 (i:Int)=decide (0<i):=by rw [qbF]; exact decide_eq_decide.2 (by omega)
    rw [e1,e2,e3,e4]
    change (bif _ then (bif ((_||(qn t.2.1 (t.2.2.1[i]) qiP).2.2.1)||_) then _ else _) else _)=_
    by_cases h4:t.2.2.1[i]<0
    ·simp [h4]
    by_cases h5:(t.2.1.length:Int)≤t.2.2.1[i]
    ·simp [h4,h5]
    have h6:0≤t.2.2.1[i]:=by omega
    have h7:t.2.2.1[i]<(t.2.1.length:Int):=by omega
    by_cases h8:0<i
    ·have e5:inB (qda .i64 (i:Int) 1) (qk t.2.2.1)=true:=by rw [qeC (by omega) (by omega),qg1,qe]; simp; omega
     have e6:qn t.2.2.1 (qda .i64 (i:Int) 1) 0=t.2.2.1.getD (i - 1) 0:=by
      rw [qeC (by omega) (by omega),qdH,show ((i:Int) - 1).toNat=i - 1 by omega]
     rw [e5,e6,qcX]
     generalize (qn t.2.1 (t.2.2.1[i]) qiP).2.2.1=bb
     generalize t.2.2.1.getD (i - 1) 0=pv
     cases bb <;> by_cases h9:t.2.2.1[i]≤pv <;> simp [h4,h5,h6,h7,h8,h9]
    ·generalize (qn t.2.1 (t.2.2.1[i]) qiP).2.2.1=bb
     cases bb <;> simp [h4,h5,h6,h7,h8]
   ·simp only
    rw [qF (qal (Nat.lt_irrefl _)),qad]
    split <;> rfl
   ·cases q8 (pkE t.2.1 t.2.2.1) t.2.2.1.length <;> rfl
  ·cases q8 (qsX t.2.1) t.2.1.length with
   |some e=>rfl
   |none=>cases q8 (pkE t.2.1 t.2.2.1) t.2.2.1.length <;> rfl
theorem qoj (N:Nat) (t:qj) (h:qkU N t):qbb N (t,())=some ((qpE t,()),()):=by
 have hn:=h.n
 have hc:=h.c
 have hk:=h.k
 have hm0:=h.m
 simp only [qbb,qM]
 rw [qlR N t.1 hm0]
 simp only [qh,qr,cond_true,qqH,show ltI 6 (qk t.2.1)=decide (6<t.2.1.length) from qj6 _ 6]
 unfold qpE
 cases h1:qey t.1 with
 |false=>rfl
 |true=>
  simp only [Bool.not_true,cond_false,if_false,Bool.true_eq_false]
  by_cases h2:t.2.1.length=0
  ·simp [h2]
  by_cases h3:6<t.2.1.length
  ·simp [h2,h3]
  simp only [h2,h3,decide_false,cond_false,if_false]
  refine (qY (S:=(List ((List UInt8)×Int))×(Int×Unit)) (fun i=>(qnK ((t.2.1.take i).map (fun c=>c.1)),((i:Int),()))) t.2.1.length (qsX t.2.1) (fun e=>some ((e,()),())) (match q8 (pkE t.2.1 t.2.2.1) t.2.2.1.length with
   |some e=>some ((e,()),())
   |none=>some ((if t.2.2.1.length=0 then 9 else 0,()),())) rfl (fun i hi _ ih=> ?_) (fun _ ih=> ?_) hc).trans ?_
  ·simp only
   have hm:(t.2.1[i]).1.length<N:=h.cn _ (List.getElem_mem hi)
   have hlen:((t.2.1.take i).map (fun c=>c.1)).length<4611686018427387904:=by
    rw [List.length_map,List.length_take]; omega
   rw [qw (qaE hi),qw (qC hi),qH _ hi,qlR N _ hm0,qlx _ hlen,qO (by omega),←qkw]
   have e0:(t.2.1.take i).map (fun c=>c.1)++[(t.2.1[i]).1]=(t.2.1.take (i+1)).map (fun c=>c.1):=by rw [qbj hi,List.map_append]; rfl
   simp only [qh,qr,cond_true,qsX,List.getElem?_eq_getElem hi,e0]
   cases qey (t.2.1[i]).1 with
   |false=>rfl
   |true=>
    simp only [Bool.not_true,cond_false,if_false,Bool.true_eq_false]
    by_cases h4:(t.2.1[i]).1∈(t.2.1.take i).map (fun c=>c.1)
    ·simp only [h4,decide_true,cond_true,if_true]
    ·simp only [h4,decide_false,cond_false,if_false]
     rw [qbF,qbF,←Bool.decide_or,qad]
     split <;> rfl
  ·simp only
   rw [qF (qal (Nat.lt_irrefl _))]
   have hprev:∀i,i≤t.2.2.1.length→q8 (pkE t.2.1 t.2.2.1) i=none→0<i→0≤t.2.2.1.getD (i - 1) 0:=fun i hi hf h0=>by
    have hlt:i - 1<t.2.2.1.length:=by omega
    have:=qbh hf (i - 1) (by omega)
    simp only [pkE,List.getElem?_eq_getElem hlt] at this
    split at this
    ·cases this
    ·rename_i hc
     simp only [not_or] at hc
     rw [List.getD_eq_getElem?_getD,List.getElem?_eq_getElem hlt]
     simp only [Option.getD_some]
     omega
   refine (qY (S:=qav) (fun i=>(if i=0 then -1 else t.2.2.1.getD (i - 1) 0,((i:Int),()))) t.2.2.1.length (pkE t.2.1 t.2.2.1) (fun e=>some ((e,()),())) (some ((if t.2.2.1.length=0 then 9 else 0,()),())) rfl (fun i hi hf ih=> ?_) (fun hf ih=> ?_) hk).trans ?_
   ·simp only
    rw [qw (qaE hi),qw (qC hi),qH _ hi,qO (by omega)]
    simp only [pkE,List.getElem?_eq_getElem hi]
    have e2:leI (qk t.2.1) (t.2.2.1[i])=decide ((t.2.1.length:Int)≤t.2.2.1[i]):=by rw [qcX,qe]
    have e3:inB (t.2.2.1[i]) (qk t.2.1)=(decide (0≤t.2.2.1[i])&&decide (t.2.2.1[i]<(t.2.1.length:Int))):=by rw [qcB,qe]
    have e5:t.2.2.1.getD (i+1 - 1) 0=t.2.2.1[i]:=by
     rw [List.getD_eq_getElem?_getD,Nat.add_sub_cancel,List.getElem?_eq_getElem hi]; rfl
    rw [e2,e3,qcX]
    have hp:=hprev i (Nat.le_of_lt hi) hf
    simp only [show ¬(i+1=0) by omega,if_false,e5]
    change (bif _ then (bif (_||(qn t.2.1 (t.2.2.1[i]) qiP).2.2.1) then _ else _) else _)=_
    generalize (qn t.2.1 (t.2.2.1[i]) qiP).2.2.1=bb
    by_cases h8:i=0
    ·subst h8
     by_cases h4:t.2.2.1[0]<0
     ·have h6:t.2.2.1[0]≤ -1:=by omega
      simp [h4,h6]
     ·have h6:¬t.2.2.1[0]≤ -1:=by omega
      have h7:(0:Int)≤t.2.2.1[0]:=by omega
      by_cases h5:(t.2.1.length:Int)≤t.2.2.1[0]
      ·simp [h4,h5]
      ·have h9:t.2.2.1[0]<(t.2.1.length:Int):=by omega
       cases bb <;> simp [h4,h5,h6,h7,h9]
    ·have h0:0<i:=by omega
     have hp:=hp h0
     generalize t.2.2.1.getD (i - 1) 0=pv at *
     by_cases h4:t.2.2.1[i]≤pv
     ·simp [h4,h8,h0]
     ·have h6:¬t.2.2.1[i]<0:=by omega
      have h7:0≤t.2.2.1[i]:=by omega
      by_cases h5:(t.2.1.length:Int)≤t.2.2.1[i]
      ·simp [h4,h5,h8]
      ·have h9:t.2.2.1[i]<(t.2.1.length:Int):=by omega
       cases bb <;> simp [h4,h5,h6,h7,h8,h9]
   ·simp only
    rw [qF (qal (Nat.lt_irrefl _)),qbF,qad]
    by_cases h0:t.2.2.1.length=0
    ·simp [h0]
    ·have:=hprev _ (Nat.le_refl _) hf (by omega)
     rw [if_neg h0,if_neg h0,if_neg (by omega)]
   ·cases q8 (pkE t.2.1 t.2.2.1) t.2.2.1.length <;> rfl
  ·cases q8 (qsX t.2.1) t.2.1.length with
   |some e=>rfl
   |none=>cases q8 (pkE t.2.1 t.2.2.1) t.2.2.1.length <;> rfl
end
end Go.Proofs.YtpdhkfofjpankaaGreatDoor
namespace Go.Proofs.YtpdhkfofjpankaaGreatDoor
open Go.Vi
noncomputable section
theorem qlV {α:Type} (q:α→Bool) (xs:List α):(qgx q xs).isSome=xs.any q:=by
 cases h:qgx q xs with
 |none=>
  have:=qkK h
  rw [Option.isSome_none,eq_comm,Bool.eq_false_iff]
  simp only [ne_eq,List.any_eq_true,not_exists,not_and]
  intro x hx
  rw [this x hx]
  simp
 |some i=>
  obtain ⟨hi,h1,_⟩:=qdp h
  rw [Option.isSome_some,eq_comm,List.any_eq_true]
  exact ⟨_,List.getElem_mem hi,h1⟩
def qp5 (s:qc):Prop:=∀t∈s.1,∀k∈t.2.2.1,0≤k∧k<(t.2.1.length:Int)
theorem qlo {s:qc} {n:List UInt8} {t:qj} (h:qd5 s n=some t):t∈s.1:=by
 unfold qd5 at h
 cases hi:qgx (qcj n) s.1 with
 |none=>rw [hi] at h; cases h
 |some i=>
  rw [hi] at h
  exact List.mem_of_getElem? h
theorem qgE (s:qc) (n:List UInt8):(qgx (qcj n) s.1=none∧qd5 s n=none)∨∃i t,qgx (qcj n) s.1=some i∧qd5 s n=some t∧i<s.1.length∧∀d,qn s.1 (i:Int) d=t:=by
 unfold qd5
 cases h:qgx (qcj n) s.1 with
 |none=>exact .inl ⟨rfl,rfl⟩
 |some i=>
  obtain ⟨hi,_⟩:=qdp h
  exact .inr ⟨i,s.1[i],rfl,by simp [hi],hi,fun d=>qH d hi⟩
def fkE (t r:qj) (cs:List Int) (j:Nat):Option Int:=match cs[j]? with
 |none=>none
 |some c=>if c<0∨(t.2.1.length:Int)≤c then some 3 else if (qn t.2.1 c qiP).2.1≠(qn r.2.1 (r.2.2.1.getD j 0) qiP).2.1 then some 7 else none
def vFk (s:qc) (f:qs):Int:=match qd5 s f.1,qd5 s f.2.2.1 with
 |some t,some r=>if f.2.1.length≠r.2.2.1.length then 3 else match q8 (fkE t r f.2.1) f.2.1.length with
  |some e=>e
  |none=>0
 |_,_=>4
theorem qhw {α β:Type} (xs:List α) (ys:List β):neI (qk xs) (qk ys)=decide (xs.length≠ys.length):=by
 rw [qaF,qe,qe,←decide_not]; exact decide_eq_decide.2 (by omega)
theorem qrT (N:Nat) (s:qc) (f:qs) (hB:N≤1099511627776) (ht:s.1.length<N) (hf:f.2.1.length<N) (hv:qp5 s):qaO N (s,(f,()))=some ((vFk s f,()),()):=by
 simp only [qaO,qM]
 rw [qc8 N s f.1 ht hB,qc8 N s f.2.2.1 ht hB]
 simp only [qh,qr,cond_true,vFk]
 rcases qgE s f.1 with ⟨h1,h2⟩|⟨i,t,h1,h2,h3,h4⟩
 ·rw [h1,h2]; rfl
 rcases qgE s f.2.2.1 with ⟨g1,g2⟩|⟨k,r,g1,g2,g3,g4⟩
 ·rw [g1,g2,h1,h2]; rfl
 rw [h1,h2,g1,g2]
 simp only [Option.isSome_some,Bool.not_true,Bool.or_self,cond_false,Option.getD_some,qC h3,qC g3,Bool.and_self,cond_true,h4,g4,qhw,qad]
 by_cases hl:f.2.1.length≠r.2.2.1.length
 ·rw [if_pos hl,if_pos hl]
 rw [if_neg hl,if_neg hl]
 have hl:f.2.1.length=r.2.2.1.length:=by omega
 have hr:=hv r (qlo g2)
 refine (qY (S:=Int×Unit) (fun i=>((i:Int),())) f.2.1.length (fkE t r f.2.1) (fun e=>some ((e,()),())) (some ((0,()),())) rfl (fun j hj _ ih=> ?_) (fun _ ih=> ?_) hf).trans ?_
 ·simp only
  have hjr:j<r.2.2.1.length:=by omega
  have e0:r.2.2.1.getD j 0=r.2.2.1[j]:=by rw [List.getD_eq_getElem?_getD,List.getElem?_eq_getElem hjr]; rfl
  rw [qw (qaE hj),qw (qC hj),qH _ hj,qO (by omega),qC hjr,qH _ hjr]
  simp only [fkE,List.getElem?_eq_getElem hj,e0]
  obtain ⟨q1,q2⟩:=hr _ (List.getElem_mem hjr)
  have e1:ltI (f.2.1[j]) 0=decide (f.2.1[j]<0):=qbF _ _
  have e2:leI (qk t.2.1) (f.2.1[j])=decide ((t.2.1.length:Int)≤f.2.1[j]):=by rw [qcX,qe]
  have e3:inB (f.2.1[j]) (qk t.2.1)=(decide (0≤f.2.1[j])&&decide (f.2.1[j]<(t.2.1.length:Int))):=by rw [qcB,qe]
  have e4:inB (r.2.2.1[j]) (qk r.2.1)=true:=by rw [qg1,qe]; simp [q1,q2]
  rw [e1,e2,e3,e4]
  change (bif _ then _ else (bif _ then (bif neI (qn t.2.1 (f.2.1[j]) qiP).2.1 (qn r.2.1 (r.2.2.1[j]) qiP).2.1 then _ else _) else _))=_
  by_cases h5:f.2.1[j]<0
  ·simp [h5]
  by_cases h6:(t.2.1.length:Int)≤f.2.1[j]
  ·simp [h6]
  have h7:0≤f.2.1[j]:=by omega
  have h8:f.2.1[j]<(t.2.1.length:Int):=by omega
  simp only [h5,h6,h7,h8,decide_false,decide_true,Bool.or_self,Bool.and_self,cond_false,cond_true,or_self,if_false,qaF,←decide_not,qad]
  split <;> rename_i hq <;> simp [hq]
 ·simp only
  rw [qF (qal (Nat.lt_irrefl _))]
 ·cases q8 (fkE t r f.2.1) f.2.1.length <;> rfl
theorem qrQ (N:Nat) (s:qc) (f:qs) (hB:N≤1099511627776) (ht:s.1.length<N) (hf:f.2.1.length<N) (hv:qp5 s):qaC N (s,(f,()))=some ((vFk s f,()),()):=by
 simp only [qaC,qM]
 rw [qg8 N s f.1 ht hB,qg8 N s f.2.2.1 ht hB]
 simp only [qh,qr,Bool.and_self,cond_true,vFk]
 cases h2:qd5 s f.1 with
 |none=>rw [qfp]; rfl
 |some t=>
 cases g2:qd5 s f.2.2.1 with
 |none=>rw [qfp,qh]; rfl
 |some r=>
 simp only [qh,qr,Bool.not_true,Bool.or_self,cond_false,cond_true,qhw,qad]
 by_cases hl:f.2.1.length≠r.2.2.1.length
 ·rw [if_pos hl,if_pos hl]
 rw [if_neg hl,if_neg hl]
 have hl:f.2.1.length=r.2.2.1.length:=by omega
 have hr:=hv r (qlo g2)
 refine (qY (S:=Int×Unit) (fun i=>((i:Int),())) f.2.1.length (fkE t r f.2.1) (fun e=>some ((e,()),())) (some ((0,()),())) rfl (fun j hj _ ih=> ?_) (fun _ ih=> ?_) hf).trans ?_
 ·simp only
  have hjr:j<r.2.2.1.length:=by omega
  have e0:r.2.2.1.getD j 0=r.2.2.1[j]:=by rw [List.getD_eq_getElem?_getD,List.getElem?_eq_getElem hjr]; rfl
  rw [qw (qaE hj),qw (qC hj),qH _ hj,qO (by omega),qC hjr,qH _ hjr]
  simp only [fkE,List.getElem?_eq_getElem hj,e0]
  obtain ⟨q1,q2⟩:=hr _ (List.getElem_mem hjr)
  have e1:ltI (f.2.1[j]) 0=decide (f.2.1[j]<0):=qbF _ _
  have e2:leI (qk t.2.1) (f.2.1[j])=decide ((t.2.1.length:Int)≤f.2.1[j]):=by rw [qcX,qe]
  have e3:inB (f.2.1[j]) (qk t.2.1)=(decide (0≤f.2.1[j])&&decide (f.2.1[j]<(t.2.1.length:Int))):=by rw [qcB,qe]
  have e4:inB (r.2.2.1[j]) (qk r.2.1)=true:=by rw [qg1,qe]; simp [q1,q2]
  rw [e1,e2,e3,e4]
  change (bif _ then (bif _ then _ else (bif _ then (bif neI (qn t.2.1 (f.2.1[j]) qiP).2.1 (qn r.2.1 (r.2.2.1[j]) qiP).2.1 then _ else _) else _)) else _)=_
  by_cases h5:f.2.1[j]<0
  ·simp [h5]
  by_cases h6:(t.2.1.length:Int)≤f.2.1[j]
  ·simp [h6]
  have h7:0≤f.2.1[j]:=by omega
  have h8:f.2.1[j]<(t.2.1.length:Int):=by omega
  simp only [h5,h6,h7,h8,decide_false,decide_true,Bool.or_self,Bool.and_self,Bool.or_true,cond_false,cond_true,or_self,if_false,qaF,←decide_not,qad]
  split <;> rename_i hq <;> simp [hq]
 ·simp only
  rw [qF (qal (Nat.lt_irrefl _))]
 ·cases q8 (fkE t r f.2.1) f.2.1.length <;> rfl
def qoz (v:qa):Int:=
 if v.1<0∨3<v.1 then 7 else if (v.1≠3∧v.2.2.1≠[])∨((v.1=0∨v.1=3)∧v.2.1≠0) then 3
 else if (v.1=2∧(v.2.1<0∨1<v.2.1))∨1000000000000<v.2.1∨v.2.1< -1000000000000 then 1 else if 24<v.2.2.1.length then 2 else 0
theorem qkn (N:Nat) (v:qa):qQ N (v,())=some ((qoz v,()),()):=by
 obtain ⟨k,n,s,⟨⟩⟩:=v
 simp only [qQ,qM,qoz,qbF,qaF,qbE,qbw,qe]
 simp only [qss,Bool.or_eq_true,Bool.and_eq_true,decide_eq_true_eq,Bool.not_eq_true',decide_eq_false_iff_not]
 grind
theorem qkM (N:Nat) (v:qa):qa5 N (v,())=some ((qoz v,()),()):=by
 obtain ⟨k,n,s,⟨⟩⟩:=v
 simp only [qa5,qM,qoz,qbF,qaF,qbE,qbw,qe]
 simp only [qss,Bool.or_eq_true,Bool.and_eq_true,decide_eq_true_eq,Bool.not_eq_true',decide_eq_false_iff_not]
 by_cases k0:k=0
 ·subst k0; grind
 by_cases k1:k=1
 ·subst k1; grind
 by_cases k2:k=2
 ·subst k2; grind
 by_cases k3:k=3
 ·subst k3; grind
 grind
def qrJ (o:List UInt8):Bool:=decide (o=[61])||(decide (o=[60])||decide (o=[60,61]))
def qnP (v:qa):Bool:=decide (v.1=0)&&(decide (v.2.1=0)&&decide (v.2.2.1=[]))
def qrI (s:qc) (c:qv):Int:=match qd5 s c.1 with
 |none=>4
 |some t=>if c.2.1<0∨(t.2.1.length:Int)≤c.2.1∨qrJ c.2.2.1=false∨c.2.2.2.1< -1∨(t.2.1.length:Int)≤c.2.2.2.1∨(0≤c.2.2.2.1∧qnP c.2.2.2.2.1=false) then 3
  else if 0≤c.2.2.2.1 then (if (qn t.2.1 c.2.1 qiP).2.1≠(qn t.2.1 c.2.2.2.1 qiP).2.1 then 7 else 0)
  else if c.2.2.2.2.1.1≠(qn t.2.1 c.2.1 qiP).2.1 then 7 else qoz c.2.2.2.2.1
theorem qnr (N:Nat) (o:List UInt8):∃b,qcd N ((0,(0,(([]:List UInt8),()))),(o,((0,(0,(([]:List UInt8),()))),())))=some ((b,(if qrJ o=true then 0 else 3,())),()):=by
 simp only [qcd,qM,qbw,qbE,qrJ]
 by_cases h1:o=[61]
 ·exact ⟨true,by simp [h1]⟩
 by_cases h2:o=[60]
 ·exact ⟨true,by simp [h2]⟩
 by_cases h3:o=[60,61]
 ·exact ⟨true,by simp [h3]⟩
 ·exact ⟨false,by simp [h1,h2,h3]⟩
theorem qqa (N:Nat) (s:qc) (c:qv) (hB:N≤1099511627776) (ht:s.1.length<N):qaM N (s,(c,()))=some ((qrI s c,()),()):=by
 obtain ⟨b,hb⟩:=qnr N c.2.2.1
 simp only [qaM,qM]
 rw [qc8 N s c.1 ht hB,hb,qkM]
 simp only [qh,qr,cond_true,qrI]
 rcases qgE s c.1 with ⟨h1,h2⟩|⟨i,t,h1,h2,h3,h4⟩
 ·rw [h1,h2]; rfl
 rw [h1,h2]
 simp only [Option.isSome_some,Bool.not_true,cond_false,Option.getD_some,qC h3,cond_true,h4]
 obtain ⟨c1,l,o,r,v,⟨⟩⟩:=c
 simp only at *
 have e1:ltI l 0=decide (l<0):=qbF _ _
 have e2:leI (qk t.2.1) l=decide ((t.2.1.length:Int)≤l):=by rw [qcX,qe]
 have e3:neI (if qrJ o=true then 0 else 3) 0= !qrJ o:=by rw [qaF]; cases qrJ o <;> simp
 have e4:ltI r (-1)=decide (r< -1):=qbF _ _
 have e5:leI (qk t.2.1) r=decide ((t.2.1.length:Int)≤r):=by rw [qcX,qe]
 have e6:leI 0 r=decide (0≤r):=qcX _ _
 have e7:(eqI v.1 0&&(eqI v.2.1 0&&eqS v.2.2.1 []))=qnP v:=by simp only [qbE,qbw,qnP]
 have e8:inB l (qk t.2.1)=(decide (0≤l)&&decide (l<(t.2.1.length:Int))):=by rw [qcB,qe]
 have e9:inB r (qk t.2.1)=(decide (0≤r)&&decide (r<(t.2.1.length:Int))):=by rw [qcB,qe]
 rw [e1,e2,e3,e4,e5,e6,e7,e8,e9]
 change (bif _ then _ else (bif _ then (bif _ then (bif neI (qn t.2.1 l qiP).2.1 (qn t.2.1 r qiP).2.1 then _ else _) else _) else (bif _ then (bif neI v.1 (qn t.2.1 l qiP).2.1 then _ else _) else _)))=_
 rw [qaF,qaF]
 generalize (qn t.2.1 l qiP).2.1=kl
 generalize (qn t.2.1 r qiP).2.1=kr
 simp only [qss,Bool.or_eq_true,Bool.and_eq_true,decide_eq_true_eq,Bool.not_eq_true',decide_eq_false_iff_not]
 generalize qoz v=vv
 generalize qnP v=vz
 generalize qrJ o=oo
 cases vz <;> cases oo <;> grind
theorem qrq (N:Nat) (s:qc) (c:qv) (hB:N≤1099511627776) (ht:s.1.length<N):qaD N (s,(c,()))=some ((qrI s c,()),()):=by
 have hop:qb3 N (c.2.2.1,())=some ((qrJ c.2.2.1,()),()):=by
  simp only [qb3,qbw,qrJ,Bool.or_assoc]
 simp only [qaD,qM]
 rw [qg8 N s c.1 ht hB,hop,qkn]
 simp only [qh,qr,cond_true,qrI]
 cases h2:qd5 s c.1 with
 |none=>rw [qfp]; rfl
 |some t=>
 simp only [qh,qr,Bool.not_true,cond_false,cond_true,Bool.or_true]
 obtain ⟨c1,l,o,r,v,⟨⟩⟩:=c
 simp only at *
 have e1:ltI l 0=decide (l<0):=qbF _ _
 have e2:leI (qk t.2.1) l=decide ((t.2.1.length:Int)≤l):=by rw [qcX,qe]
 have e4:ltI r (-1)=decide (r< -1):=qbF _ _
 have e5:leI (qk t.2.1) r=decide ((t.2.1.length:Int)≤r):=by rw [qcX,qe]
 have e6:neI r (-1)= !decide (r= -1):=qaF _ _
 have e7:(eqI v.1 0&&(eqI v.2.1 0&&eqS v.2.2.1 []))=qnP v:=by simp only [qbE,qbw,qnP]
 have e8:inB l (qk t.2.1)=(decide (0≤l)&&decide (l<(t.2.1.length:Int))):=by rw [qcB,qe]
 have e9:inB r (qk t.2.1)=(decide (0≤r)&&decide (r<(t.2.1.length:Int))):=by rw [qcB,qe]
 rw [e1,e2,e4,e5,e6,e7,e8,e9]
 change (bif _ then _ else (bif _ then (bif _ then (bif neI (bif _ then (qn t.2.1 r qiP).2.1 else v.1) (qn t.2.1 l qiP).2.1 then _ else _) else _) else _))=_
 rw [qaF]
 generalize (qn t.2.1 l qiP).2.1=kl
 generalize (qn t.2.1 r qiP).2.1=kr
 simp only [qss,Bool.or_eq_true,Bool.and_eq_true,decide_eq_true_eq,Bool.not_eq_true',decide_eq_false_iff_not]
 generalize qoz v=vv
 generalize qnP v=vz
 generalize qrJ o=oo
 cases vz <;> cases oo <;> grind
def qn6 (ts:List qj) (i:Nat):Option Int:=match ts[i]? with
 |none=>none
 |some t=>if qpE t≠0 then some (qpE t) else if 0<i∧qdg (qn ts ((i:Int) - 1) (([]:List UInt8),(([]:List qb),(([]:List Int),())))).1 t.1=false then some 6 else none
open Classical in
def fkL (s:qc) (i:Nat):Option Int:=match s.2.1[i]? with
 |none=>none
 |some f=>if vFk s f≠0 then some (vFk s f) else if f∈s.2.1.take i then some 5 else none
open Classical in
def qol (s:qc) (i:Nat):Option Int:=match s.2.2.1[i]? with
 |none=>none
 |some c=>if qrI s c≠0 then some (qrI s c) else if c∈s.2.2.1.take i then some 5 else none
def qmG (s:qc):Int:=if 6<s.1.length∨8<s.2.1.length∨8<s.2.2.1.length then 2 else match q8 (qn6 s.1) s.1.length with
 |some e=>e
 |none=>match q8 (fkL s) s.2.1.length with
  |some e=>e
  |none=>match q8 (qol s) s.2.2.1.length with
   |some e=>e
   |none=>0
theorem qkS {s:qc} (h:q8 (qn6 s.1) s.1.length=none):qp5 s:=fun t ht k hk=>by
 obtain ⟨i,hi,rfl⟩:=List.getElem_of_mem ht
 have:=qbh h i hi
 simp only [qn6,List.getElem?_eq_getElem hi] at this
 split at this
 ·cases this
 rename_i hv
 have hv:qpE s.1[i]=0:=by simpa using hv
 unfold qpE at hv
 split at hv
 ·cases hv
 split at hv
 ·cases hv
 split at hv
 ·cases hv
 split at hv
 ·rename_i e he
  obtain ⟨j,h1,h2,_⟩:=qc1 he
  simp only [qsX,List.getElem?_eq_getElem h1] at h2
  subst hv
  split at h2
  ·cases h2
  split at h2
  ·cases h2
  split at h2 <;> cases h2
 split at hv
 ·rename_i e he
  obtain ⟨j,h1,h2,_⟩:=qc1 he
  simp only [pkE,List.getElem?_eq_getElem h1] at h2
  subst hv
  split at h2 <;> cases h2
 rename_i hpk
 obtain ⟨j,hj,rfl⟩:=List.getElem_of_mem hk
 have:=qbh hpk j hj
 simp only [pkE,List.getElem?_eq_getElem hj] at this
 split at this
 ·cases this
 ·rename_i hc
  simp only [not_or] at hc
  omega
structure qct (N:Nat) (s:qc):Prop where
 sm:Small N s
 m:100<N
theorem qct.tab {N:Nat} {s:qc} (h:qct N s) {t:qj} (ht:t∈s.1):qkU N t:=
 ⟨h.sm.n,h.m,h.sm.tn t ht,h.sm.tc t ht,h.sm.tk t ht,h.sm.cn t ht⟩
theorem gt3 (s:qc):((ltI 6 (qk s.1)||ltI 8 (qk s.2.1))||ltI 8 (qk s.2.2.1))=decide (6<s.1.length∨8<s.2.1.length∨8<s.2.2.1.length):=by
 rw [show ltI 6 (qk s.1)=decide (6<s.1.length) from qj6 _ 6,show ltI 8 (qk s.2.1)=decide (8<s.2.1.length) from qj6 _ 8,show ltI 8 (qk s.2.2.1)=decide (8<s.2.2.1.length) from qj6 _ 8,←Bool.decide_or,←Bool.decide_or]
 exact decide_eq_decide.2 or_assoc
theorem qru (N:Nat) (xs:List qv) (c:qv) (hN:xs.length<N) (hb:xs.length≤1099511627776):qaB N (xs,(c,()))=some ((qiZ (fun x=>decide (c=x)) xs,()),()):=by
 simp only [qaB]
 refine (qY (S:=Int×Unit) (fun i=>((i:Int),())) xs.length (atE (fun x=>decide (c=x)) xs) (fun i=>some (((i:Int),()),())) (some ((-1,()),())) rfl (fun i hi _ ih=> ?_) (fun _ ih=> ?_) hN).trans ?_
 ·simp only
  rw [qw (qaE hi),qw (qC hi),qH _ hi,qO (by omega)]
  simp only [atE,List.getElem?_eq_getElem hi]
  generalize xs[i]=x
  obtain ⟨a1,a2,a3,a4,⟨a5,a6,a7,⟨⟩⟩,⟨⟩⟩:=c
  obtain ⟨b1,b2,b3,b4,⟨b5,b6,b7,⟨⟩⟩,⟨⟩⟩:=x
  simp only [qbw,qbE,Prod.mk.injEq,and_true,←Bool.decide_and,qad,decide_eq_true_eq]
  split <;> rename_i hq <;> simp [hq]
 ·simp only
  rw [qF (qal (Nat.lt_irrefl _))]
 ·rw [qiZ,qgx]
  cases q8 (atE (fun x=>decide (c=x)) xs) xs.length <;> rfl
theorem qm8 (N:Nat) (xs:List qv) (c:qv) (hN:xs.length<N) (hb:xs.length≤1099511627776):qaq N (xs,(c,()))=some ((decide (c∈xs),()),()):=by
 simp only [qaq,qru N xs c hN hb,qh,qr,cond_true,qme,qlV]
 congr 3
 rw [Bool.eq_iff_iff]
 simp
theorem qot (N:Nat) (xs:List qs) (f:qs) (hN:xs.length<N) (hB:N≤1099511627776) (hc:∀x∈xs,x.2.1.length<N):
  qab N (xs,((fun x6=>(qjZ (fun y7=>(y7.1.1,())) (qa6 N (x6.1,(f,()))))),()))=some ((decide (f∈xs),()),()):=by
 simp only [qab]
 have h:=qdL (fun x6=>(qjZ (fun y7:((Bool×Unit)×Unit)=>(y7.1.1,())) (qa6 N (x6.1,(f,()))))) (fun x=>decide (x=f)) xs (fun a ha=>by simp only [qa6,qpn N a f (hc a ha) hB,qh,qr,cond_true,qeg,Option.map_some]) (([]:List UInt8),(([]:List Int),(([]:List UInt8),()))) N hN (by omega)
 rw [show qaG N (xs,((fun x6=>(qjZ (fun y7=>(y7.1.1,())) (qa6 N (x6.1,(f,()))))),()))=some ((qiZ (fun x=>decide (x=f)) xs,()),()) from h]
 simp only [qh,qr,cond_true,qme,qlV]
 congr 3
 rw [Bool.eq_iff_iff]
 simp
theorem qrs (N:Nat) (s:qc) (h:qct N s):qb9 N (s,())=some ((qmG s,()),()):=by
 have hn:=h.sm.n
 have ht:=h.sm.t
 have hf:=h.sm.f
 have hc:=h.sm.c
 simp only [qb9,qM,gt3,qad]
 unfold qmG
 by_cases h0:6<s.1.length∨8<s.2.1.length∨8<s.2.2.1.length
 ·rw [if_pos h0,if_pos h0]
 rw [if_neg h0,if_neg h0]
 refine (qY (S:=Int×Unit) (fun i=>((i:Int),())) s.1.length (qn6 s.1) (fun e=>some ((e,()),())) (some ((match q8 (fkL s) s.2.1.length with
  |some e=>e
  |none=>match q8 (qol s) s.2.2.1.length with
   |some e=>e
   |none=>0,()),())) rfl (fun i hi _ ih=> ?_) (fun hk ih=> ?_) ht).trans ?_
 ·simp only
  rw [qw (qaE hi),qw (qC hi),qH _ hi,qnN N _ (h.tab (List.getElem_mem hi)),qO (by omega)]
  simp only [qh,qr,cond_true,qn6,List.getElem?_eq_getElem hi,qaF,←decide_not,qad]
  by_cases h1:qpE s.1[i]=0
  ·have e4:ltI 0 (i:Int)=decide (0<i):=by rw [qbF]; exact decide_eq_decide.2 (by omega)
   rw [if_neg (by simp [h1]),if_neg (by simp [h1]),e4]
   by_cases h8:0<i
   ·have e5:qda .i64 (i:Int) 1=(i:Int) - 1:=qeC (by omega) (by omega)
    have e6:inB ((i:Int) - 1) (qk s.1)=true:=by rw [qg1,qe]; simp; omega
    rw [e5,e6,qn8]
    cases qdg (qn s.1 ((i:Int) - 1) (([]:List UInt8),(([]:List qb),(([]:List Int),())))).1 (s.1[i]).1 <;> simp [h8]
   ·simp [h8]
  ·rw [if_pos h1,if_pos h1]
 ·simp only
  have hv:=qkS hk
  rw [qF (qal (Nat.lt_irrefl _))]
  refine (qY (S:=Int×Unit) (fun i=>((i:Int),())) s.2.1.length (fkL s) (fun e=>some ((e,()),())) (some ((match q8 (qol s) s.2.2.1.length with
   |some e=>e
   |none=>0,()),())) rfl (fun i hi _ ih=> ?_) (fun _ ih=> ?_) hf).trans ?_
  ·simp only
   rw [qw (qaE hi),qw (qC hi),qH _ hi,qrT N s _ hn ht (h.sm.fc _ (List.getElem_mem hi)) hv,qO (by omega),qjQ,qot N (s.2.1.take i) _ (by rw [List.length_take]; omega) hn (fun x hx=>h.sm.fc x (List.mem_of_mem_take hx))]
   have e5:inS 0 (i:Int) (qk s.2.1)=true:=by rw [qkF,qe]; simp; omega
   simp only [qh,qr,cond_true,fkL,List.getElem?_eq_getElem hi,qaF,←decide_not,qad,e5,Bool.and_self]
   by_cases h1:vFk s s.2.1[i]=0
   ·simp only [h1,ne_eq,not_true_eq_false,if_false]
    by_cases h2:s.2.1[i]∈s.2.1.take i
    ·rw [if_pos h2,if_pos h2]
    ·rw [if_neg h2,if_neg h2]
   ·rw [if_pos h1,if_pos h1]
  ·simp only
   rw [qF (qal (Nat.lt_irrefl _))]
   refine (qY (S:=Int×Unit) (fun i=>((i:Int),())) s.2.2.1.length (qol s) (fun e=>some ((e,()),())) (some ((0,()),())) rfl (fun i hi _ ih=> ?_) (fun _ ih=> ?_) hc).trans ?_
   ·simp only
    rw [qw (qaE hi),qw (qC hi),qH _ hi,qqa N s _ hn ht,qO (by omega),qjQ,qm8 N (s.2.2.1.take i) _ (by rw [List.length_take]; omega) (by rw [List.length_take]; omega)]
    have e5:inS 0 (i:Int) (qk s.2.2.1)=true:=by rw [qkF,qe]; simp; omega
    simp only [qh,qr,cond_true,qol,List.getElem?_eq_getElem hi,qaF,←decide_not,qad,e5,Bool.and_self]
    by_cases h1:qrI s s.2.2.1[i]=0
    ·simp only [h1,ne_eq,not_true_eq_false,if_false]
     by_cases h2:s.2.2.1[i]∈s.2.2.1.take i
     ·rw [if_pos h2,if_pos h2]
     ·rw [if_neg h2,if_neg h2]
    ·rw [if_pos h1,if_pos h1]
   ·simp only
    rw [qF (qal (Nat.lt_irrefl _))]
   ·cases q8 (qol s) s.2.2.1.length <;> rfl
  ·cases q8 (fkL s) s.2.1.length <;> rfl
 ·cases q8 (qn6 s.1) s.1.length <;> rfl
theorem fk_ids (xs:List qs) (f:qs):fkC f∈xs.map fkC↔f∈xs:=by
 constructor
 ·intro h
  obtain ⟨x,hx,he⟩:=List.mem_map.1 h
  rw [qth he] at hx
  exact hx
 ·exact fun h=>List.mem_map_of_mem h
theorem qqT (N:Nat) (s:qc) (h:qct N s) (hid:∀f∈s.2.1,(fkC f).length≤1099511627776):qaY N (s,())=some ((qmG s,()),()):=by
 have hn:=h.sm.n
 have ht:=h.sm.t
 have hf:=h.sm.f
 have hc:=h.sm.c
 simp only [qaY,qM,gt3,qad]
 unfold qmG
 by_cases h0:6<s.1.length∨8<s.2.1.length∨8<s.2.2.1.length
 ·rw [if_pos h0,if_pos h0]
 rw [if_neg h0,if_neg h0]
 refine (qY (S:=Int×Unit) (fun i=>((i:Int),())) s.1.length (qn6 s.1) (fun e=>some ((e,()),())) (some ((match q8 (fkL s) s.2.1.length with
  |some e=>e
  |none=>match q8 (qol s) s.2.2.1.length with
   |some e=>e
   |none=>0,()),())) rfl (fun i hi _ ih=> ?_) (fun hk ih=> ?_) ht).trans ?_
 ·simp only
  rw [qw (qaE hi),qw (qC hi),qH _ hi,qoj N _ (h.tab (List.getElem_mem hi)),qO (by omega)]
  simp only [qh,qr,cond_true,qn6,List.getElem?_eq_getElem hi,qaF,←decide_not,qad]
  by_cases h1:qpE s.1[i]=0
  ·have e4:ltI 0 (i:Int)=decide (0<i):=by rw [qbF]; exact decide_eq_decide.2 (by omega)
   rw [if_neg (by simp [h1]),if_neg (by simp [h1]),e4]
   by_cases h8:0<i
   ·have e5:qda .i64 (i:Int) 1=(i:Int) - 1:=qeC (by omega) (by omega)
    have e6:inB ((i:Int) - 1) (qk s.1)=true:=by rw [qg1,qe]; simp; omega
    rw [e5,e6]
    cases qdg (qn s.1 ((i:Int) - 1) (([]:List UInt8),(([]:List qb),(([]:List Int),())))).1 (s.1[i]).1 <;> simp [h8]
   ·simp [h8]
  ·rw [if_pos h1,if_pos h1]
 ·simp only
  have hv:=qkS hk
  rw [qF (qal (Nat.lt_irrefl _))]
  refine (qY (S:=(List ((List UInt8)×Int))×(Int×Unit)) (fun i=>(qnK ((s.2.1.take i).map fkC),((i:Int),()))) s.2.1.length (fkL s) (fun e=>some ((e,()),())) (some ((match q8 (qol s) s.2.2.1.length with
   |some e=>e
   |none=>0,()),())) rfl (fun i hi _ ih=> ?_) (fun _ ih=> ?_) hf).trans ?_
  ·simp only
   have hm:=List.getElem_mem hi
   have hlen:((s.2.1.take i).map fkC).length<4611686018427387904:=by rw [List.length_map,List.length_take]; omega
   have q:=h.sm.fc _ hm
   rw [qw (qaE hi),qw (qC hi),qH _ hi,qrQ N s _ hn ht q hv,qO (by omega),qkA N _ q (hid _ hm) (by omega)]
   simp only [qh,qr,cond_true]
   rw [qlx _ hlen,←qkw]
   have e0:(s.2.1.take i).map fkC++[fkC s.2.1[i]]=(s.2.1.take (i+1)).map fkC:=by rw [qbj hi,List.map_append]; rfl
   simp only [fkL,List.getElem?_eq_getElem hi,qaF,←decide_not,qad,e0,fk_ids]
   by_cases h1:vFk s s.2.1[i]=0
   ·simp only [h1,ne_eq,not_true_eq_false,if_false]
    by_cases h2:s.2.1[i]∈s.2.1.take i
    ·rw [if_pos h2,if_pos h2]
    ·rw [if_neg h2,if_neg h2]
   ·rw [if_pos h1,if_pos h1]
  ·simp only
   rw [qF (qal (Nat.lt_irrefl _))]
   refine (qY (S:=Int×Unit) (fun i=>((i:Int),())) s.2.2.1.length (qol s) (fun e=>some ((e,()),())) (some ((0,()),())) rfl (fun i hi _ ih=> ?_) (fun _ ih=> ?_) hc).trans ?_
   ·simp only
    rw [qw (qaE hi),qw (qC hi),qH _ hi,qrq N s _ hn ht,qO (by omega),qjQ]
    have e5:inS 0 (i:Int) (qk s.2.2.1)=true:=by rw [qkF,qe]; simp; omega
    simp only [qh,qr,cond_true,qol,List.getElem?_eq_getElem hi,qaF,←decide_not,qad,e5]
    by_cases h1:qrI s s.2.2.1[i]=0
    ·simp only [h1,ne_eq,not_true_eq_false,if_false]
     have hlt:(s.2.2.1.take i).length<N:=by rw [List.length_take]; omega
     refine (qY (S:=Int×Unit) (fun j=>((j:Int),())) (s.2.2.1.take i).length (atE (fun x=>decide (x=s.2.2.1[i])) (s.2.2.1.take i)) (fun _=>some ((5,()),())) (ih (((i+1:Nat):Int),())) rfl (fun j hj _ ih2=> ?_) (fun _ ih2=> ?_) hlt).trans ?_
     ·simp only
      rw [qw (qaE hj),qw (qC hj),qH _ hj,qO (by omega)]
      simp only [atE,List.getElem?_eq_getElem hj]
      generalize (s.2.2.1.take i)[j]=x
      generalize s.2.2.1[i]=c
      obtain ⟨a1,a2,a3,a4,⟨a5,a6,a7,⟨⟩⟩,⟨⟩⟩:=c
      obtain ⟨b1,b2,b3,b4,⟨b5,b6,b7,⟨⟩⟩,⟨⟩⟩:=x
      simp only [qbw,qbE,Prod.mk.injEq,and_true,←Bool.decide_and,qad,decide_eq_true_eq]
      split <;> rename_i hq <;> simp [hq]
     ·simp only
      rw [qF (qal (Nat.lt_irrefl _))]
     ·have e6:=qlV (fun x=>decide (x=s.2.2.1[i])) (s.2.2.1.take i)
      unfold qgx at e6
      by_cases h2:s.2.2.1[i]∈s.2.2.1.take i
      ·have:(s.2.2.1.take i).any (fun x=>decide (x=s.2.2.1[i]))=true:=by simp only [List.any_eq_true,decide_eq_true_eq]; exact ⟨_,h2,rfl⟩
       rw [this] at e6
       obtain ⟨k,hk⟩:=Option.isSome_iff_exists.1 e6
       rw [hk,if_pos h2]
      ·have:(s.2.2.1.take i).any (fun x=>decide (x=s.2.2.1[i]))=false:=by
        rw [List.any_eq_false]
        intro x hx he
        rw [decide_eq_true_eq] at he
        subst he
        exact h2 hx
       rw [this] at e6
       have hk:q8 (atE (fun x=>decide (x=s.2.2.1[i])) (s.2.2.1.take i)) (s.2.2.1.take i).length=none:=by simpa using e6
       rw [hk,if_neg h2]
    ·rw [if_pos h1,if_pos h1]
   ·simp only
    rw [qF (qal (Nat.lt_irrefl _))]
   ·cases q8 (qol s) s.2.2.1.length <;> rfl
  ·cases q8 (fkL s) s.2.1.length <;> rfl
 ·cases q8 (qn6 s.1) s.1.length <;> rfl
end
end Go.Proofs.YtpdhkfofjpankaaGreatDoor
namespace Go.Proofs.YtpdhkfofjpankaaGreatDoor
open Go.Vi
noncomputable section
theorem qhA (N:Nat) (x y:Int):qay N (x,(y,()))=some ((ic x y,()),()):=by
 simp only [qay,qM,qaZ,condO,decide_eq_true_eq,ic]
 split
 ·rfl
 ·split <;> rfl
theorem qpL (N:Nat) (a b:List UInt8):qca N (a,(b,()))=some ((Lib.compareBytes a b,()),()):=by
 simp only [qca,qaK,qM,qh,qr,cond_true]
theorem qpj (N:Nat) (a b:qa):qbV N (a,(b,()))=some ((vc a b,()),()):=by
 simp only [qbV,qM,qhA,qpL,qh,qr,cond_true,qaF,condO,Bool.not_eq_true',decide_eq_false_iff_not,vc]
 split
 ·rfl
 ·split <;> rfl
theorem qtx (N:Nat) (a b:qa):qaT N (a,(b,()))=some ((decide (vc a b<0),()),()):=by
 simp only [qaT,qM,qaF,qaZ,qhd]
 have h1:=qbD a.1 b.1
 have h2:=qbD a.2.1 b.2.1
 by_cases e1:a.1=b.1
 ·have f1:ic a.1 b.1=0:=by omega
  by_cases e2:a.2.1=b.2.1
  ·have f2:ic a.2.1 b.2.1=0:=by omega
   have:vc a b=Lib.compareBytes a.2.2.1 b.2.2.1:=by simp [vc,f1,f2]
   simp [e1,e2,this]
  ·have f2:ic a.2.1 b.2.1≠0:=by omega
   have h3:vc a b=ic a.2.1 b.2.1:=by simp [vc,f1,f2]
   have h4:a.2.1<b.2.1↔vc a b<0:=by omega
   simp [e1,e2,h4]
 ·have f1:ic a.1 b.1≠0:=by omega
  have h3:vc a b=ic a.1 b.1:=by simp [vc,f1]
  have h4:a.1<b.1↔vc a b<0:=by omega
  simp [e1,h4]
theorem qhz (N:Nat) (xs ys:qcr) (hN:xs.length<N) (hB:N≤1099511627776):qaz N (xs,(ys,()))=some ((qbm xs ys,()),()):=by
 simp only [qaz,qM,qhA,qpj,qh,qr,cond_true,Bool.and_true]
 refine qeo (S:=Int×Unit) (R:=(Int×Unit)×Unit) (fun p=>xs.length - p.1.toNat) (fun p=>∃i:Nat,p.1=(i:Int)∧i≤xs.length∧i≤ys.length∧qbm (xs.drop i) (ys.drop i)=qbm xs ys) (fun _=>((qbm xs ys,()),())) ?_ N _ ⟨0,rfl,Nat.zero_le _,Nat.zero_le _,rfl⟩ (by simp; omega)
 rintro ih ⟨_,_⟩ ⟨i,rfl,hx,hy,he⟩ hih
 simp only [Int.toNat_natCast] at hih⊢
 by_cases h:i<xs.length∧i<ys.length
 ·obtain ⟨h1,h2⟩:=h
  rw [qw (by rw [qaZ,qjY,qe,qe]; simp; omega),qC h1,qC h2,qH _ h1,qH _ h2]
  simp only [Bool.and_self,cond_true]
  rw [List.drop_eq_getElem_cons h1,List.drop_eq_getElem_cons h2,qbm] at he
  by_cases hv:vc xs[i] ys[i]=0
  ·rw [if_neg (fun h=>h hv)] at he
   rw [qF (by rw [qaF,hv]; rfl),qO (by omega)]
   exact hih _ ⟨i+1,rfl,h1,h2,he⟩ (by simp only [Int.toNat_natCast]; omega)
  ·rw [if_pos hv] at he
   rw [qw (by rw [qaF]; simp [hv]),he]
 ·rw [qF (by rw [qaZ,qjY,qe,qe]; simp; omega)]
  rw [qlF xs ys i h hx hy] at he
  rw [qe,qe,he]
theorem qg5 (N:Nat) (xs ys:qcr) (hN:xs.length<N) (hB:N≤1099511627776):qaf N (xs,(ys,()))=some ((qbm xs ys,()),()):=by
 simp only [qaf,qM,qtx,qh,qr,cond_true,Bool.and_true]
 refine qeo (S:=Int×Unit) (R:=(Int×Unit)×Unit) (fun p=>xs.length - p.1.toNat) (fun p=>∃i:Nat,p.1=(i:Int)∧i≤xs.length∧i≤ys.length∧qbm (xs.drop i) (ys.drop i)=qbm xs ys) (fun _=>((qbm xs ys,()),())) ?_ N _ ⟨0,rfl,Nat.zero_le _,Nat.zero_le _,rfl⟩ (by simp; omega)
 rintro ih ⟨_,_⟩ ⟨i,rfl,hx,hy,he⟩ hih
 simp only [Int.toNat_natCast] at hih⊢
 by_cases h:i<xs.length∧i<ys.length
 ·obtain ⟨h1,h2⟩:=h
  rw [qaE h1,qaE h2,qC h1,qC h2,qH _ h1,qH _ h2]
  simp only [Bool.and_self,cond_true]
  rw [List.drop_eq_getElem_cons h1,List.drop_eq_getElem_cons h2,qbm] at he
  have hs:=qtn xs[i] ys[i]
  rcases qoL xs[i] ys[i] with hv|hv|hv
  ·rw [if_pos (by omega)] at he
   rw [qw (by rw [hv]; rfl),←he,hv]
  ·rw [if_neg (fun h=>h hv)] at he
   rw [qF (by rw [hv]; rfl),qF (by rw [hs,hv]; rfl),qO (by omega)]
   exact hih _ ⟨i+1,rfl,h1,h2,he⟩ (by simp only [Int.toNat_natCast]; omega)
  ·rw [if_pos (by omega)] at he
   rw [qF (by rw [hv]; rfl),qw (by rw [hs,hv]; rfl),←he,hv]
 ·rw [qF (by
   rw [qaZ,qaZ,qe,qe]
   simp only [Bool.and_eq_false_iff,decide_eq_false_iff_not]
   omega)]
  rw [qlF xs ys i h hx hy] at he
  rw [qe,qe,←he]
  have:=qbD (xs.length:Int) (ys.length:Int)
  rcases this with ⟨h1,h2⟩|⟨h1,h2⟩|⟨h1,h2⟩
  ·rw [qw (by rw [qaZ]; simp; omega),h2]
  ·rw [qF (by rw [qaZ]; simp; omega),qF (by rw [qaZ]; simp; omega),h2]
  ·rw [qF (by rw [qaZ]; simp; omega),qw (by rw [qaZ]; simp; omega),h2]
theorem qrB (N:Nat) (pk:List Int) (row:qcr) (hN:pk.length<N) (hb:pk.length≤1099511627776):
  qaI (S:=((List qa)×(Int×Unit))) (R:=(((List qa)×Unit)×Unit)) N (fun ih0=>(fun p1=>(bif (ltI p1.2.1 (qk pk)) then (bif (inB p1.2.1 (qk pk)) then (qaw ((leI 0 (qn pk p1.2.1 0))&&(ltI (qn pk p1.2.1 0) (qk row))) (fun y2=>(bif (bif y2 then (inB (qn pk p1.2.1 0) (qk row)) else true) then (qaw (bif y2 then (qn row (qn pk p1.2.1 0) (0,(0,(([]:List UInt8),())))) else (0,(0,(([]:List UInt8),())))) (fun y3=>(bif (qcP (qk p1.1) (qk ([y3]:List qa)) 32) then (ih0 ((qdI p1.1 ([y3]:List qa)),((qcq .i64 p1.2.1 1),()))) else none))) else none))) else none) else (some ((p1.1,()),()))))) (([]:List qa),(0,()))=some ((qdb pk row,()),()):=by
 simp only [qM]
 refine qfn (S:=((List qa)×(Int×Unit))) (fun i=>(qdb (pk.take i) row,((i:Int),()))) pk.length _ (by simp [qdb]) (fun i hi ih=> ?_) (fun ih=> ?_) hN
 ·have e1:qdb (pk.take (i+1)) row=qdb (pk.take i) row++[qse row pk[i]]:=by unfold qdb; rw [qbj hi,List.map_append]; rfl
  have e2:(bif (leI 0 pk[i]&&ltI pk[i] (qk row)) then qn row pk[i] (0,(0,(([]:List UInt8),()))) else (0,(0,(([]:List UInt8),()))))=qse row pk[i]:=by
   unfold qse
   by_cases h:0≤pk[i]∧pk[i]<(row.length:Int)
   ·rw [dif_pos h,qw (by rw [qci,qaZ,qe]; simp; exact h)]
    obtain ⟨k,hk⟩:∃k:Nat,pk[i]=(k:Int):=⟨pk[i].toNat,by omega⟩
    have hk':k<row.length:=by omega
    simp only [hk,Int.toNat_natCast]
    exact qH _ hk'
   ·rw [dif_neg h,qF (by rw [qci,qaZ,qe]; simp; omega)]
  have e3:(bif (leI 0 pk[i]&&ltI pk[i] (qk row)) then inB pk[i] (qk row) else true)=true:=by
   cases hc:(leI 0 pk[i]&&ltI pk[i] (qk row)) with
   |false=>rfl
   |true=>
    rw [qci,qaZ,qe] at hc
    rw [cond_true,qcB,qe]
    simpa using hc
  simp only
  rw [qw (qaE hi),qC hi,cond_true,qH _ hi,e3,cond_true,e2,qw (qek (by rw [qhc,List.length_take]; simp; omega)),qO (by omega),qbI,e1]
 ·simp only
  rw [qF (qal (Nat.lt_irrefl _)),List.take_length]
theorem qqc (N:Nat) (t:qj) (row:qcr) (hN:t.2.2.1.length<N) (hB:N≤1099511627776):qap N (t,(row,()))=some ((qdb t.2.2.1 row,()),()):=qrB N t.2.2.1 row hN (by omega)
theorem qmH (N:Nat) (t:qj) (row:qcr) (hN:t.2.2.1.length<N) (hB:N≤1099511627776):qaP N (t,(row,()))=some ((qdb t.2.2.1 row,()),()):=by
 have h:qcz N (row,(t.2.2.1,()))=some ((qdb t.2.2.1 row,()),()):=qrB N t.2.2.1 row hN (by omega)
 simp only [qaP,h,qh,qr,cond_true]
theorem qrD (N:Nat) (xs:qcr) (h:xs.length≤1099511627776):qba N (xs,())=some ((xs,()),()):=qqy xs 32 (by omega)
theorem qnX (N:Nat) (rows:List qcr) (hN:rows.length<N) (hB:N≤1099511627776) (hr:∀r∈rows,r.length≤1099511627776):qb1 N (rows,())=some ((rows,()),()):=by
 simp only [qb1]
 refine qfn (S:=((List qcr)×(Int×Unit))) (fun i=>(rows.take i,((i:Int),()))) rows.length _ (by simp) (fun i hi ih=> ?_) (fun ih=> ?_) hN
 ·simp only
  rw [qw (qaE hi),qC hi,cond_true,qH _ hi,qrD N _ (hr _ (List.getElem_mem hi))]
  simp only [qh,qr,Bool.true_and]
  rw [qw (qek (by rw [List.length_take]; simp; omega)),qO (by omega),qbI,qbj hi]
 ·simp only
  rw [qF (qal (Nat.lt_irrefl _)),List.take_length]
end
end Go.Proofs.YtpdhkfofjpankaaGreatDoor
namespace Go.Proofs.YtpdhkfofjpankaaGreatDoor
open Go.Vi
noncomputable section
theorem qf1 {g:Nat→Option Int} {n:Nat} (h:∀i e,g i=some e→e≠0) {z:Int} (hz:(match q8 g n with
  |some e=>e
  |none=>z)=0):q8 g n=none∧z=0:=by
 cases hf:q8 g n with
 |none=>rw [hf] at hz; exact ⟨rfl,hz⟩
 |some e=>
  rw [hf] at hz
  obtain ⟨i,_,h2,_⟩:=qc1 hf
  exact absurd hz (h i e h2)
theorem qqM (ts:List qj):∀i e,qn6 ts i=some e→e≠0:=fun i e h=>by
 unfold qn6 at h
 split at h
 ·cases h
 split at h
 ·rename_i hv; injection h with h; subst h; exact hv
 split at h
 ·injection h with h; subst h; decide
 ·cases h
theorem qsy (s:qc):∀i e,fkL s i=some e→e≠0:=fun i e h=>by
 unfold fkL at h
 split at h
 ·cases h
 split at h
 ·rename_i hv; injection h with h; subst h; exact hv
 split at h
 ·injection h with h; subst h; decide
 ·cases h
theorem qre (s:qc):∀i e,qol s i=some e→e≠0:=fun i e h=>by
 unfold qol at h
 split at h
 ·cases h
 split at h
 ·rename_i hv; injection h with h; subst h; exact hv
 split at h
 ·injection h with h; subst h; decide
 ·cases h
structure qta (s:qc):Prop where
 tabs:q8 (qn6 s.1) s.1.length=none
 few:s.1.length≤6
 fks:∀f∈s.2.1,vFk s f=0
 cons:∀c∈s.2.2.1,qrI s c=0
theorem qlW {s:qc} (h:qmG s=0):qta s:=by
 unfold qmG at h
 split at h
 ·cases h
 rename_i h0
 obtain ⟨h1,h⟩:=qf1 (qqM s.1) h
 obtain ⟨h2,h⟩:=qf1 (qsy s) h
 obtain ⟨h3,_⟩:=qf1 (qre s) h
 refine ⟨h1,by omega,fun f hf=> ?_,fun c hc=> ?_⟩
 ·obtain ⟨i,hi,rfl⟩:=List.getElem_of_mem hf
  have:=qbh h2 i hi
  simp only [fkL,List.getElem?_eq_getElem hi] at this
  split at this
  ·cases this
  ·rename_i hv; simpa using hv
 ·obtain ⟨i,hi,rfl⟩:=List.getElem_of_mem hc
  have:=qbh h3 i hi
  simp only [qol,List.getElem?_eq_getElem hi] at this
  split at this
  ·cases this
  ·rename_i hv; simpa using hv
theorem qkZ {a b c:List UInt8} (h1:qdg a b=true) (h2:qdg b c=true):qdg a c=true:=by
 rw [qhd,decide_eq_true_eq] at *
 exact qlU a b c h1 h2
theorem qkl (a:List UInt8):qdg a a=false:=by
 rw [qhd,(qmr a a).2 rfl]; rfl
theorem qta.names {s:qc} (h:qta s):s.1.Pairwise (fun a b=>qdg a.1 b.1=true):=
 qk0 (fun a b:qj=>qdg a.1 b.1=true) (fun _ _ _ h1 h2=>qkZ h1 h2) s.1 fun i hi=>by
  have:=qbh h.tabs (i+1) hi
  simp only [qn6,List.getElem?_eq_getElem hi] at this
  split at this
  ·cases this
  split at this
  ·cases this
  rename_i hq
  have e:((i+1:Nat):Int) - 1=(i:Int):=by omega
  rw [e,qH _ (show i<s.1.length by omega)] at hq
  simpa using hq
abbrev qcy:Type:=List UInt8×(List qcr×Unit)
def qm9 (t:qj) (row:qcr) (i:Nat):Option Int:=match row[i]? with
 |none=>none
 |some v=>if qoz v≠0 then some (qoz v) else if v.1=0∧(qn t.2.1 (i:Int) qiP).2.2.1=false then some 8 else if v.1≠0∧v.1≠(qn t.2.1 (i:Int) qiP).2.1 then some 7 else none
def qq6 (t:qj) (row:qcr):Int:=if row.length≠t.2.1.length then 3 else match q8 (qm9 t row) row.length with
 |some e=>e
 |none=>0
theorem qq8 (N:Nat) (t:qj) (row:qcr) (hN:row.length<N) (hB:N≤1099511627776):qbu N (t,(row,()))=some ((qq6 t row,()),()):=by
 simp only [qbu,qM,qhw,qad]
 unfold qq6
 by_cases h0:row.length≠t.2.1.length
 ·rw [if_pos h0,if_pos h0]
 rw [if_neg h0,if_neg h0]
 have hl:row.length=t.2.1.length:=by omega
 refine (qY (S:=Int×Unit) (fun i=>((i:Int),())) row.length (qm9 t row) (fun e=>some ((e,()),())) (some ((0,()),())) rfl (fun i hi _ ih=> ?_) (fun _ ih=> ?_) hN).trans ?_
 ·simp only
  have hit:i<t.2.1.length:=by omega
  rw [qw (qaE hi),qw (qC hi),qH _ hi,qkM,qO (by omega),qC hit]
  simp only [qh,qr,cond_true,qm9,List.getElem?_eq_getElem hi,qH _ hit,qaF,qbE,←decide_not,Bool.or_true]
  generalize qoz row[i]=vv
  generalize (t.2.1[i]).2.2.1=nb
  generalize (t.2.1[i]).2.1=ck
  generalize (row[i]).1=rk
  by_cases q1:vv=0 <;> by_cases q2:rk=0 <;> by_cases q3:rk=ck <;> cases nb <;> first|(simp [q1,q2,q3]; done)|(subst q3; simp [q1,q2])
 ·simp only
  rw [qF (qal (Nat.lt_irrefl _))]
 ·cases q8 (qm9 t row) row.length <;> rfl
theorem qqN (N:Nat) (t:qj) (row:qcr) (hN:row.length<N) (hB:N≤1099511627776):qbt N (t,(row,()))=some ((qq6 t row,()),()):=by
 simp only [qbt,qM,qhw,qad]
 unfold qq6
 by_cases h0:row.length≠t.2.1.length
 ·rw [if_pos h0,if_pos h0]
 rw [if_neg h0,if_neg h0]
 have hl:row.length=t.2.1.length:=by omega
 refine (qY (S:=Int×Unit) (fun i=>((i:Int),())) row.length (qm9 t row) (fun e=>some ((e,()),())) (some ((0,()),())) rfl (fun i hi _ ih=> ?_) (fun _ ih=> ?_) hN).trans ?_
 ·simp only
  have hit:i<t.2.1.length:=by omega
  rw [qw (qaE hi),qw (qC hi),qH _ hi,qkn,qO (by omega),qC hit]
  simp only [qh,qr,cond_true,qm9,List.getElem?_eq_getElem hi,qH _ hit,qaF,qbE,←decide_not,Bool.or_true]
  generalize qoz row[i]=vv
  generalize (t.2.1[i]).2.2.1=nb
  generalize (t.2.1[i]).2.1=ck
  generalize (row[i]).1=rk
  by_cases q1:vv=0 <;> by_cases q2:rk=0 <;> by_cases q3:rk=ck <;> cases nb <;> first|(simp [q1,q2,q3]; done)|(subst q3; simp [q1,q2])
 ·simp only
  rw [qF (qal (Nat.lt_irrefl _))]
 ·cases q8 (qm9 t row) row.length <;> rfl
abbrev qqZ:qcy:=(([]:List UInt8),(([]:List qcr),()))
abbrev qrL:qj:=(([]:List UInt8),(([]:List qb),(([]:List Int),())))
def qku (t:qj) (rows:List qcr) (i:Nat):Option Int:=match rows[i]? with
 |none=>none
 |some row=>if qq6 t row≠0 then some (qq6 t row) else if 0<i∧qbm (qdb t.2.2.1 (qn rows ((i:Int) - 1) [])) (qdb t.2.2.1 row)=0 then some 9 else if 0<i∧0<qbm (qdb t.2.2.1 (qn rows ((i:Int) - 1) [])) (qdb t.2.2.1 row) then some 6 else none
def qqm (ts:List qj) (rels:List qcy) (i:Nat):Option Int:=match rels[i]? with
 |none=>none
 |some r=>if r.1≠(qn ts (i:Int) qrL).1 then some 3 else if 24<r.2.1.length then some 2 else q8 (qku (qn ts (i:Int) qrL) r.2.1) r.2.1.length
def qgu (s:qc) (rels:List qcy):Int:=if rels.length≠s.1.length then 3 else match q8 (qqm s.1 rels) rels.length with
 |some e=>e
 |none=>0
structure qdj (N:Nat) (rels:List qcy):Prop where
 n:rels.length<N
 rows:∀r∈rels,r.2.1.length<N
 row:∀r∈rels,∀x∈r.2.1,x.length<N
 enc:∀r∈rels,∀x∈r.2.1,(encR x).length≤1099511627776
theorem qsN {α:Type} (xs:List α):ltI 24 (qk xs)=decide (24<xs.length):=qj6 xs 24
theorem qik:(a b:qcr)→qbm a b= -1∨qbm a b=0∨qbm a b=1
 |[],ys=>by have:=qbD 0 (ys.length:Int); simp only [qbm]; omega
 |_::xs,[]=>by have:=qbD ((xs.length:Int)+1) 0; simp only [qbm]; omega
 |x::xs,y::ys=>by
  have h1:=qoL x y
  have h2:=qik xs ys
  simp only [qbm]
  split <;> assumption
theorem qpO (N:Nat) (s:qc) (rels:List qcy) (hs:qct N s) (hr:qdj N rels):qbZ N (s,(rels,()))=some ((qgu s rels,()),()):=by
 have hn:=hs.sm.n
 have hrn:=hr.n
 simp only [qbZ,qM,qhw,qad]
 unfold qgu
 by_cases h0:rels.length≠s.1.length
 ·rw [if_pos h0,if_pos h0]
 rw [if_neg h0,if_neg h0]
 have hl:rels.length=s.1.length:=by omega
 refine (qY (S:=Int×Unit) (fun i=>((i:Int),())) rels.length (qqm s.1 rels) (fun e=>some ((e,()),())) (some ((0,()),())) rfl (fun i hi _ ih=> ?_) (fun _ ih=> ?_) hr.n).trans ?_
 ·have hit:i<s.1.length:=by omega
  have hm:=List.getElem_mem hi
  have ht:qkU N s.1[i]:=hs.tab (List.getElem_mem hit)
  have hrows:=hr.rows _ hm
  have hrow:=hr.row _ hm
  simp only [qH _ hi,qH _ hit,qaE hi,qC hi,qC hit,cond_true,qqm,List.getElem?_eq_getElem hi,qO (show i<4611686018427387904 by omega)]
  generalize hrel:rels[i]=rel at *
  generalize htab:s.1[i]=t at *
  simp only [qbw,←decide_not,qad,qsN]
  by_cases h1:rel.1=t.1
  ·have h1':¬(rel.1≠t.1):=fun h=>h h1
   rw [if_neg h1']; try rw [if_neg h1']
   by_cases h2:24<rel.2.1.length
   ·rw [if_pos h2]; try rw [if_pos h2]
   rw [if_neg h2]; try rw [if_neg h2]
   refine qY (S:=Int×Unit) (fun k=>((k:Int),())) rel.2.1.length (qku t rel.2.1) (fun e=>some ((e,()),())) _ rfl (fun k hk _ ih2=> ?_) (fun _ ih2=> ?_) hrows
   ·have hrk:=hrow _ (List.getElem_mem hk)
    have hcmp:∀a b:qcr,qaz N (qdb t.2.2.1 a,(qdb t.2.2.1 b,()))=some ((qbm (qdb t.2.2.1 a) (qdb t.2.2.1 b),()),()):=fun a b=>qhz N _ _ (by rw [qhc]; exact ht.k) hn
    simp only [qH _ hk,qaE hk,qC hk,cond_true,qq8 N t _ hrk hn,qh,qr,qaF,qbE,qbF,qqc N t _ ht.k hn,hcmp,qO (show k<4611686018427387904 by omega),qku,List.getElem?_eq_getElem hk,qad,Bool.and_true]
    by_cases h3:qq6 t rel.2.1[k]=0
    ·simp only [h3,decide_true,Bool.not_true,cond_false,ne_eq,not_true_eq_false,if_false]
     by_cases h8:0<k
     ·have e5:qda .i64 (k:Int) 1=(k:Int) - 1:=qeC (by omega) (by omega)
      have e6:inB ((k:Int) - 1) (qk rel.2.1)=true:=by rw [qg1,qe]; simp; omega
      rw [e5,e6,if_neg (by omega),cond_true]
      have c:=qik (qdb t.2.2.1 (qn rel.2.1 ((k:Int) - 1) [])) (qdb t.2.2.1 rel.2.1[k])
      generalize qbm (qdb t.2.2.1 (qn rel.2.1 ((k:Int) - 1) [])) (qdb t.2.2.1 rel.2.1[k])=cc at *
      by_cases c0:cc=0
      ·simp [c0,h8]
      ·by_cases c1:0<cc
       ·simp [c0,c1,h8]
       ·simp [c0,c1,h8]
     ·rw [if_pos (by omega)]
      simp [h8]
    ·simp only [h3,decide_false,Bool.not_false,cond_true,ne_eq,not_false_eq_true,if_true]
   ·simp only
    rw [qF (qal (Nat.lt_irrefl _))]
  ·rw [if_pos h1]; try rw [if_pos h1]
 ·simp only
  rw [qF (qal (Nat.lt_irrefl _))]
 ·cases q8 (qqm s.1 rels) rels.length <;> rfl
theorem qpG (N:Nat) (s:qc) (rels:List qcy) (hs:qct N s) (hr:qdj N rels):qbY N (s,(rels,()))=some ((qgu s rels,()),()):=by
 have hn:=hs.sm.n
 have hrn:=hr.n
 simp only [qbY,qM,qhw,qad]
 unfold qgu
 by_cases h0:rels.length≠s.1.length
 ·rw [if_pos h0,if_pos h0]
 rw [if_neg h0,if_neg h0]
 have hl:s.1.length=rels.length:=by omega
 rw [←hl]
 refine (qY (S:=Int×Unit) (fun i=>((i:Int),())) s.1.length (qqm s.1 rels) (fun e=>some ((e,()),())) (some ((0,()),())) rfl (fun i hit _ ih=> ?_) (fun _ ih=> ?_) hs.sm.t).trans ?_
 ·have hi:i<rels.length:=by omega
  have hm:=List.getElem_mem hi
  have ht:qkU N s.1[i]:=hs.tab (List.getElem_mem hit)
  have hrows:=hr.rows _ hm
  have hrow:=hr.row _ hm
  simp only [qH _ hi,qH _ hit,qaE hit,qC hi,qC hit,cond_true,qqm,List.getElem?_eq_getElem hi,qO (show i<4611686018427387904 by omega)]
  generalize hrel:rels[i]=rel at *
  generalize htab:s.1[i]=t at *
  simp only [qbw,←decide_not,qad,qsN]
  by_cases h1:rel.1=t.1
  ·have h1':¬(rel.1≠t.1):=fun h=>h h1
   rw [if_neg h1']; try rw [if_neg h1']
   by_cases h2:24<rel.2.1.length
   ·rw [if_pos h2]; try rw [if_pos h2]
   rw [if_neg h2]; try rw [if_neg h2]
   refine qY (S:=qcr×(Int×Unit)) (fun k=>((if 0<k then qdb t.2.2.1 (qn rel.2.1 ((k:Int) - 1) []) else []),((k:Int),()))) rel.2.1.length (qku t rel.2.1) (fun e=>some ((e,()),())) _ rfl (fun k hk _ ih2=> ?_) (fun _ ih2=> ?_) hrows
   ·have hrk:=hrow _ (List.getElem_mem hk)
    have hnx:(if 0<k+1 then qdb t.2.2.1 (qn rel.2.1 (((k+1:Nat):Int) - 1) []) else [])=qdb t.2.2.1 rel.2.1[k]:=by
     rw [if_pos (by omega),show ((k+1:Nat):Int) - 1=(k:Int) by omega,qH _ hk]
    rw [hnx]
    simp only [qH _ hk,qaE hk,qC hk,cond_true,qqN N t _ hrk hn,qh,qr,qaF,qbE,qbF,qmH N t _ ht.k hn,qO (show k<4611686018427387904 by omega),qku,List.getElem?_eq_getElem hk,qad,Bool.and_true]
    by_cases h3:qq6 t rel.2.1[k]=0
    ·simp only [h3,decide_true,Bool.not_true,cond_false,ne_eq,not_true_eq_false,if_false]
     by_cases h8:0<k
     ·rw [if_pos h8,if_pos (show (0:Int)<(k:Int) by omega)]
      have hcmp:∀a b:qcr,qaf N (qdb t.2.2.1 a,(qdb t.2.2.1 b,()))=some ((qbm (qdb t.2.2.1 a) (qdb t.2.2.1 b),()),()):=fun a b=>qg5 N _ _ (by rw [qhc]; exact ht.k) hn
      simp only [hcmp,qh,qr,cond_true]
      have c:=qik (qdb t.2.2.1 (qn rel.2.1 ((k:Int) - 1) [])) (qdb t.2.2.1 rel.2.1[k])
      generalize qbm (qdb t.2.2.1 (qn rel.2.1 ((k:Int) - 1) [])) (qdb t.2.2.1 rel.2.1[k])=cc at *
      by_cases c0:cc=0
      ·simp [c0,h8]
      ·by_cases c1:cc=1
       ·simp [c1,h8]
       ·have:¬0<cc:=by omega
        simp [c0,c1,this]
     ·rw [if_neg (show ¬(0:Int)<(k:Int) by omega)]
      simp [h8]
    ·simp only [h3,decide_false,Bool.not_false,cond_true,ne_eq,not_false_eq_true,if_true]
   ·simp only
    rw [qF (qal (Nat.lt_irrefl _))]
  ·rw [if_pos h1]; try rw [if_pos h1]
 ·simp only
  rw [qF (qal (Nat.lt_irrefl _))]
 ·cases q8 (qqm s.1 rels) s.1.length <;> rfl
theorem qrO {t:qj} {row:qcr} (h:qq6 t row=0):row.length=t.2.1.length:=by
 unfold qq6 at h
 split at h
 ·cases h
 ·omega
theorem qpV (t:qj) (rows:List qcr):∀i e,qku t rows i=some e→e≠0:=fun i e h=>by
 unfold qku at h
 split at h
 ·cases h
 split at h
 ·rename_i hv; injection h with h; subst h; exact hv
 split at h
 ·injection h with h; subst h; decide
 split at h
 ·injection h with h; subst h; decide
 ·cases h
theorem qqt (ts:List qj) (rels:List qcy):∀i e,qqm ts rels i=some e→e≠0:=fun i e h=>by
 unfold qqm at h
 split at h
 ·cases h
 split at h
 ·injection h with h; subst h; decide
 split at h
 ·injection h with h; subst h; decide
 ·obtain ⟨j,_,h2,_⟩:=qc1 h
  exact qpV _ _ j e h2
structure Form (s:qc) (rels:List qcy):Prop where
 len:rels.length=s.1.length
 name:∀i (hi:i<rels.length) (ht:i<s.1.length),(rels[i]).1=(s.1[i]).1
 row:∀i (hi:i<rels.length) (ht:i<s.1.length),∀r∈(rels[i]).2.1,r.length=(s.1[i]).2.1.length
 sorted:∀i (hi:i<rels.length) (ht:i<s.1.length),(rels[i]).2.1.Pairwise (fun a b=>qbm (qdb (s.1[i]).2.2.1 a) (qdb (s.1[i]).2.2.1 b)<0)
theorem qkf {s:qc} {rels:List qcy} (h:qgu s rels=0):Form s rels:=by
 unfold qgu at h
 split at h
 ·cases h
 rename_i h0
 obtain ⟨h1,_⟩:=qf1 (qqt s.1 rels) h
 have key:∀i (hi:i<rels.length) (ht:i<s.1.length),(rels[i]).1=(s.1[i]).1∧q8 (qku s.1[i] (rels[i]).2.1) (rels[i]).2.1.length=none:=fun i hi ht=>by
  have:=qbh h1 i hi
  simp only [qqm,List.getElem?_eq_getElem hi,qH _ ht] at this
  split at this
  ·cases this
  rename_i hq
  split at this
  ·cases this
  exact ⟨by simpa using hq,this⟩
 refine ⟨by omega,fun i hi ht=>(key i hi ht).1,fun i hi ht r hr=> ?_,fun i hi ht=> ?_⟩
 ·obtain ⟨k,hk,rfl⟩:=List.getElem_of_mem hr
  have:=qbh (key i hi ht).2 k hk
  simp only [qku,List.getElem?_eq_getElem hk] at this
  split at this
  ·cases this
  rename_i hv
  exact qrO (by simpa using hv)
 ·refine qk0 (fun a b:qcr=>qbm (qdb (s.1[i]).2.2.1 a) (qdb (s.1[i]).2.2.1 b)<0) (fun _ _ _ h1 h2=>qnz _ _ _ h1 h2) (rels[i]).2.1 fun k hk=> ?_
  have:=qbh (key i hi ht).2 (k+1) hk
  simp only [qku,List.getElem?_eq_getElem hk] at this
  rw [show ((k+1:Nat):Int) - 1=(k:Int) by omega,qH _ (show k<(rels[i]).2.1.length by omega)] at this
  split at this
  ·cases this
  split at this
  ·cases this
  rename_i h3
  split at this
  ·cases this
  rename_i h4
  have c:=qik (qdb (s.1[i]).2.2.1 (rels[i]).2.1[k]) (qdb (s.1[i]).2.2.1 (rels[i]).2.1[k+1])
  have h3':=fun h=>h3 ⟨Nat.succ_pos _,h⟩
  have h4':=fun h=>h4 ⟨Nat.succ_pos _,h⟩
  omega
def qpr (s:qc) (rels:List qcy) (n:List UInt8):List qcr:=match qgx (qcj n) s.1 with
 |none=>[]
 |some i=>match rels[i]? with
  |none=>[]
  |some r=>r.2.1
def tabS (s:qc) (n:List UInt8):qj:=(qd5 s n).getD qrL
theorem Form.at {s:qc} {rels:List qcy} (h:Form s rels) {n:List UInt8} {t:qj} (ht:qd5 s n=some t):∃(i:Nat) (hi:i<s.1.length) (hr:i<rels.length),qgx (qcj n) s.1=some i∧s.1[i]=t∧qpr s rels n=(rels[i]).2.1∧tabS s n=t:=by
 rcases qgE s n with ⟨_,h2⟩|⟨i,t',h1,h2,hi,h3⟩
 ·rw [h2] at ht; cases ht
 ·rw [h2] at ht
  injection ht with ht
  subst ht
  have hr:i<rels.length:=by rw [h.len]; exact hi
  refine ⟨i,hi,hr,h1,?_,?_,?_⟩
  ·have:=h3 qrL; rwa [qH _ hi] at this
  ·unfold qpr; rw [h1]; simp only [List.getElem?_eq_getElem hr]
  ·unfold tabS; rw [h2]; rfl
end
end Go.Proofs.YtpdhkfofjpankaaGreatDoor
namespace Go.Proofs.YtpdhkfofjpankaaGreatDoor
open Go.Vi
noncomputable section
structure KSmall (s:qc) (rels:List qcy):Prop where
 kt:∀r∈rels,∀row∈r.2.1,∀t∈s.1,(encR (qdb t.2.2.1 row)).length≤1099511627776
 kf:∀r∈rels,∀row∈r.2.1,∀f∈s.2.1,(encR (qdb f.2.1 row)).length≤1099511627776
end
end Go.Proofs.YtpdhkfofjpankaaGreatDoor
namespace Go.Proofs.YtpdhkfofjpankaaGreatDoor
open Go.Vi
noncomputable section
theorem qno (N:Nat) (xs:List qcy) (hx:qdj N xs) (hB:N≤1099511627776):qcs N (xs,())=some ((xs,()),()):=by
 have hn:=hx.n
 simp only [qcs]
 refine qfn (S:=(List qcy)×(Int×Unit)) (fun i=>(xs.take i,((i:Int),()))) xs.length _ (by simp) (fun i hi ih=> ?_) (fun ih=> ?_) hn
 ·have hm:=List.getElem_mem hi
  have e5:qcP (qk (xs.take i)) (qk ([((xs[i]).1,((xs[i]).2.1,()))]:List qcy)) 40=true:=qek (by rw [List.length_take]; simp; omega)
  simp only [qaE hi,qC hi,cond_true,qH _ hi,qnX N _ (hx.rows _ hm) hB (fun r h=>by have:=hx.row _ hm r h; omega),qh,qr,e5,Bool.and_self,qbI,qO (show i<4611686018427387904 by omega)]
  rw [qbj hi]
 ·simp only
  rw [qF (qal (Nat.lt_irrefl _)),List.take_length]
def qgf (s:qc):List qcy:=s.1.map fun t=>(t.1,(([]:List qcr),()))
theorem qq9 (N:Nat) (s:qc) (hs:qct N s):qZ N (s,())=some ((qgf s,()),()):=by
 have hn:=hs.sm.n
 have ht:=hs.sm.t
 have e1:((leI 0 (qk s.1))&&((leI (qk s.1) (qk s.1))&&(qsO (qk s.1) 40)))=true:=by
  rw [qci,qci,qlY,qe]; simp; omega
 simp only [qZ,qM,e1,cond_true]
 refine qfn (S:=(List qcy)×(Int×Unit)) (fun i=>((s.1.take i).map (fun t=>(t.1,(([]:List qcr),())))++List.replicate (s.1.length - i) qqZ,((i:Int),()))) s.1.length _ (by rw [qeS,qe]; simp) (fun i hi ih=> ?_) (fun ih=> ?_) ht
 ·have hrep:List.replicate (s.1.length - i) qqZ=qqZ::List.replicate (s.1.length - (i+1)) qqZ:=by
   rw [show s.1.length - i=(s.1.length - (i+1))+1 by omega,List.replicate_succ]
  have hl:i<((s.1.take i).map (fun t=>((t.1,(([]:List qcr),())):qcy))++List.replicate (s.1.length - i) qqZ).length:=by
   rw [List.length_append,List.length_map,List.length_take,List.length_replicate]; omega
  have hg:((s.1.take i).map (fun t=>((t.1,(([]:List qcr),())):qcy))++List.replicate (s.1.length - i) qqZ)[i]=qqZ:=by
   rw [List.getElem_append_right (by rw [List.length_map,List.length_take]; omega)]
   simp
  simp only [qaE hi,qC hi,qC hl,cond_true,qH _ hi,qH _ hl,hg,qO (show i<4611686018427387904 by omega),qbL,Int.toNat_natCast]
  have e2:(((s.1.take i).map (fun t=>((t.1,(([]:List qcr),())):qcy))++List.replicate (s.1.length - i) qqZ).set i ((s.1[i]).1,qqZ.2))=(s.1.take (i+1)).map (fun t=>((t.1,(([]:List qcr),())):qcy))++List.replicate (s.1.length - (i+1)) qqZ:=by
   rw [hrep,List.set_append_right _ _ (by rw [List.length_map,List.length_take]; omega),qbj hi,List.map_append,List.length_map,List.length_take,show i - min i s.1.length=0 by omega,List.set_cons_zero,List.append_assoc]
   rfl
  rw [e2]
 ·simp only
  rw [qF (qal (Nat.lt_irrefl _)),List.take_length,Nat.sub_self]
  simp [qgf]
theorem findIdx (s:qc) (rels:List qcy) (n:List UInt8):
  (bif ((leI 0 (qiZ (qcj n) s.1))&&(ltI (qiZ (qcj n) s.1) (qk rels))) then inB (qiZ (qcj n) s.1) (qk rels) else true)=true∧
  (bif (leI 0 (qiZ (qcj n) s.1)) then inB (qiZ (qcj n) s.1) (qk s.1) else true)=true∧
  (bif ((leI 0 (qiZ (qcj n) s.1))&&(ltI (qiZ (qcj n) s.1) (qk rels))) then (qn rels (qiZ (qcj n) s.1) qqZ).2.1 else ([]:List qcr))=qpr s rels n∧
  (bif (leI 0 (qiZ (qcj n) s.1)) then qn s.1 (qiZ (qcj n) s.1) qrL else qrL)=tabS s n:=by
 rcases qgE s n with ⟨h1,h2⟩|⟨i,t,h1,h2,hi,h3⟩
 ·have e:qiZ (qcj n) s.1= -1:=by rw [qiZ,h1]
  have e0:leI 0 (-1)=false:=by rw [qci]; rfl
  simp only [e,e0,Bool.false_and,cond_false,qpr,h1,tabS,h2,Option.getD_none,and_self]
 ·have e:qiZ (qcj n) s.1=(i:Int):=by rw [qiZ,h1]
  have e0:leI 0 (i:Int)=true:=by rw [qci]; simp
  by_cases hl:i<rels.length
  ·simp only [e,e0,qaE hl,qC hl,qC hi,Bool.and_self,cond_true,h3,qH _ hl,qpr,h1,List.getElem?_eq_getElem hl,tabS,h2,Option.getD_some,and_self]
  ·simp only [e,e0,qal hl,qC hi,Bool.true_and,Bool.and_false,cond_true,cond_false,h3,qpr,h1,List.getElem?_eq_none (show rels.length≤i by omega),tabS,h2,Option.getD_some,and_self]
end
end Go.Proofs.YtpdhkfofjpankaaGreatDoor
namespace Go.Proofs.YtpdhkfofjpankaaGreatDoor
open Go.Vi
noncomputable section
theorem qiT {α:Type} (f:α→Nat): {l:List α} → {x:α} →x∈l→f x≤(l.map f).sum
 |y::l,x,h=>by
  rw [List.map_cons,List.sum_cons]
  rcases List.mem_cons.1 h with rfl|h
  ·omega
  ·have:=qiT f h; omega
theorem qhX {α:Type} (f:α→Nat):(l:List α)→(∀x∈l,1≤f x)→l.length≤(l.map f).sum
 |[],_=>Nat.zero_le _
 |x::l,h=>by
  have h1:=h x List.mem_cons_self
  have h2:=qhX f l fun y hy=>h y (List.mem_cons_of_mem _ hy)
  rw [List.map_cons,List.sum_cons,List.length_cons]; omega
theorem qrV (t:qj):qtq.bulk t=t.1.length+1+((t.2.1.map TCol.bulk).sum+1+((t.2.2.1.map (Ty.bulk (.int .i64))).sum+1+1)):=by
 obtain ⟨t1,t2,t3,⟨⟩⟩:=t; rfl
theorem qr1 (c:qb):TCol.bulk c=c.1.length+1+(1+(1+1)):=by
 obtain ⟨c1,c2,c3,⟨⟩⟩:=c; rfl
theorem qs7 (f:qs):TFk.bulk f=f.1.length+1+((f.2.1.map (Ty.bulk (.int .i64))).sum+1+(f.2.2.1.length+1+1)):=by
 obtain ⟨f1,f2,f3,⟨⟩⟩:=f; rfl
theorem qp9 {t:qj} (h:qtq.bulk t≤1048576):qkU 2000000 t:=by
 rw [qrV,qit] at h
 have h1:=qhX TCol.bulk t.2.1 fun c _=>qfI TCol c
 refine ⟨by omega,by omega,by omega,by omega,by omega,fun c hc=> ?_⟩
 have:=qiT TCol.bulk hc
 rw [qr1] at this
 omega
theorem qnH {s:qc} (h:TSch.bulk s≤1048576):qct 2000000 s:=by
 obtain ⟨a,b,c,⟨⟩⟩:=s
 rw [qpb] at h
 have h1:=qhX qtq.bulk a fun x _=>qfI qtq x
 have h2:=qhX TFk.bulk b fun x _=>qfI TFk x
 have h3:=qhX TCon.bulk c fun x _=>qfI TCon x
 have ht:∀t∈a,qkU 2000000 t:=fun t ht=>qp9 (by have:=qiT qtq.bulk ht; omega)
 have hf:∀f∈b,f.2.1.length<2000000:=fun f hf=>by
  have:=qiT TFk.bulk hf
  rw [qs7,qit] at this
  omega
 exact ⟨⟨by omega,by simp only; omega,by simp only; omega,by simp only; omega,fun t h=>(ht t h).c,fun t h=>(ht t h).k,hf,fun t h=>(ht t h).nm,fun t h=>(ht t h).cn⟩,by omega⟩
theorem qtc {a b:Nat} (h:a+b≤1048576):a * (67+b)≤1000000000000:=by
 rcases Nat.le_total a 524288 with h1|h1
 ·have:=Nat.mul_le_mul h1 (show 67+b≤67+1048576 by omega)
  omega
 ·have:=Nat.mul_le_mul (show a≤1048576 by omega) (show 67+b≤67+524288 by omega)
  omega
theorem qrA {M:Nat} :(r:qcr)→(∀v∈r,(encV v).length≤M)→((r.map encV).flatten).length≤r.length * M
 |[],_=>by simp
 |v::r,h=>by
  have h1:=h v List.mem_cons_self
  have h2:=qrA r fun u hu=>h u (List.mem_cons_of_mem _ hu)
  simp only [List.map_cons,List.flatten_cons,List.length_append,List.length_cons,Nat.add_mul,Nat.one_mul] at h2⊢
  omega
theorem qpq {r:qcr} {a b:Nat} (ha:r.length≤a) (hab:a+b≤1048576) (h:∀v∈r,qiO.good v∧v.2.2.1.length≤b):(encR r).length≤1099511627776:=by
 have h1:=qrA (M:=67+b) r fun v hv=>by
  obtain ⟨⟨g1,g2,g3,_⟩,g4⟩:=h v hv
  have:=qr3 (v:=v) ⟨g1,g2,g3⟩
  omega
 have h2:=Nat.mul_le_mul_right (67+b) ha
 have h3:=qtc hab
 have h4:=qgT (n:=r.length) (by unfold maxLen; omega)
 unfold encR
 rw [List.length_append]
 omega
theorem qoQ:(r:qcr)→∀v∈r,v.2.2.1.length+r.length≤(r.map qiO.bulk).sum
 |[],v,hv=>by cases hv
 |u::r,v,hv=>by
  have hu:qiO.bulk u=1+(1+(u.2.2.1.length+1+1)):=rfl
  have hr:r.length≤(r.map qiO.bulk).sum:=by
   have:=qfu qiO r
   have e:(Ty.slice qiO).bulk r=(r.map qiO.bulk).sum+1:=rfl
   omega
  simp only [List.map_cons,List.sum_cons,List.length_cons]
  rcases List.mem_cons.1 hv with rfl|hv
  ·omega
  ·have:=qoQ r v hv
   omega
theorem qnE:(rows:List qcr)→∀r∈rows,(r.map qiO.bulk).sum+1≤(rows.map (Ty.slice qiO).bulk).sum
 |[],r,hr=>by cases hr
 |q::rows,r,hr=>by
  simp only [List.map_cons,List.sum_cons]
  have e:(Ty.slice qiO).bulk q=(q.map qiO.bulk).sum+1:=rfl
  rcases List.mem_cons.1 hr with rfl|hr
  ·omega
  ·have:=qnE rows r hr
   omega
abbrev qoy:Ty:= .pair .str (.pair (.slice (.slice qiO)) .unit)
theorem qpd (r:qcy):qoy.bulk r=r.1.length+1+((r.2.1.map (Ty.slice qiO).bulk).sum+1+1):=by
 obtain ⟨r1,r2,⟨⟩⟩:=r; rfl
structure RIn (b:Nat) (rels:List qcy):Prop where
 good:∀r∈rels,∀row∈r.2.1,∀v∈row,qiO.good v
 bulk:(rels.map qoy.bulk).sum≤b
theorem rin_of {rels:List qcy} {b:Nat} (hg:(Ty.slice qoy).good rels) (hb:(Ty.slice qoy).bulk rels≤b+1):RIn b rels:=by
 have e:(Ty.slice qoy).bulk rels=(rels.map qoy.bulk).sum+1:=rfl
 refine ⟨fun r hr row hrow v hv=> ?_,by omega⟩
 have h:=hg.2 r hr
 obtain ⟨r1,r2,⟨⟩⟩:=r
 exact (h.2.1.2 row hrow).2 v hv
theorem rlen (r:qcr):r.length≤(r.map qiO.bulk).sum:=by
 have:=qfu qiO r
 have e:(Ty.slice qiO).bulk r=(r.map qiO.bulk).sum+1:=rfl
 omega
theorem RIn.rows {b:Nat} {rels:List qcy} (h:RIn b rels) {r:qcy} (hr:r∈rels):r.2.1.length≤b∧∀row∈r.2.1,(row.map qiO.bulk).sum≤b:=by
 have h1:=qiT qoy.bulk hr
 have h2:=h.bulk
 rw [qpd] at h1
 refine ⟨?_,fun row hrow=> ?_⟩
 ·have:=qfu (.slice qiO) r.2.1
  have e:(Ty.slice (.slice qiO)).bulk r.2.1=(r.2.1.map (Ty.slice qiO).bulk).sum+1:=rfl
  omega
 ·have:=qnE r.2.1 row hrow
  omega
theorem qrz {b:Nat} {rels:List qcy} (h:RIn b rels) (hb:b≤1048576):qdj 2000000 rels:=by
 refine ⟨?_,fun r hr=> ?_,fun r hr row hrow=> ?_,fun r hr row hrow=> ?_⟩
 ·have h1:=qhX qoy.bulk rels fun x _=>qfI qoy x
  have:=h.bulk
  omega
 ·have:=(h.rows hr).1; omega
 ·have:=(h.rows hr).2 row hrow
  have:=rlen row
  omega
 ·have h2:=(h.rows hr).2 row hrow
  have h3:=rlen row
  exact qpq (a:=row.length) (b:=1048576 - row.length) (Nat.le_refl _) (by omega) fun v hv=>⟨h.good r hr row hrow v hv,by have:=qoQ row v hv; omega⟩
end
end Go.Proofs.YtpdhkfofjpankaaGreatDoor
namespace Go.Proofs.YtpdhkfofjpankaaGreatDoor
open Go.Vi
noncomputable section
theorem qmd (N:Nat) (xs:List qcr) (φ:(qcr×Unit)→Option (Bool×Unit)) (q:qcr→Bool) (hφ:∀a∈xs,φ (a,())=some (q a,())) (hN:xs.length<N) (hB:N≤1000000000):
  qaN N (xs,(φ,()))=some ((xs.filter (fun r=> !q r),()),()):=by
 have hix:qbr N (xs,(φ,()))=some ((qiZ q xs,()),()):=qdL φ q xs hφ ([]:qcr) N hN (by omega)
 simp only [qaN,hix,qM,qh,qr,cond_true]
 unfold qiZ
 cases hq:qgx q xs with
 |none=>
  have:=qkK hq
  simp only [eqT (rfl:(-1:Int)= -1),cond_true]
  rw [List.filter_eq_self.2 fun r hr=>by simp [this r hr]]
 |some i0=>
  obtain ⟨hi0,h1,h2⟩:=qdp hq
  simp only [eqF (show ¬((i0:Int)= -1) by omega),cond_false]
  have htk:xs.take i0=(xs.take i0).filter (fun r=> !q r):=(List.filter_eq_self.2 fun r hr=>by
   obtain ⟨j,hj,rfl⟩:=List.getElem_of_mem hr
   rw [List.length_take] at hj
   rw [List.getElem_take,h2 j (by omega)]; rfl).symm
  refine qiv (S:=List qcr×(Int×(Int×Unit))) (fun p=>xs.length - p.2.2.1.toNat) (fun p=>∃i j:Nat,p.2.1=(i:Int)∧p.2.2.1=(j:Int)∧i<j∧j≤xs.length∧p.1.length=xs.length∧p.1.take i=(xs.take j).filter (fun r=> !q r)∧p.1.drop j=xs.drop j)
   (fun r=>r=some ((xs.filter (fun r=> !q r),()),())) ?_ N _ ⟨i0,i0+1,rfl,by rw [qO (by omega)],by omega,by omega,rfl,?_,rfl⟩ (by rw [qO (by omega)]; simp only [Int.toNat_natCast]; omega)
  ·rintro ih ⟨ys,_,_,⟨⟩⟩ ⟨i,j,rfl,rfl,hij,hj,hl,ht,hd⟩ hih
   simp only at hl ht hd hih⊢
   by_cases hjl:j<xs.length
   ·have hjy:j<ys.length:=by omega
    have hyj:ys[j]=xs[j]:=by
     have e1:=List.drop_eq_getElem_cons hjy
     have e2:=List.drop_eq_getElem_cons hjl
     rw [hd,e2] at e1
     injection e1 with e1 _
     exact e1.symm
    have hdd:ys.drop (j+1)=xs.drop (j+1):=by
     have:=congrArg (List.drop 1) hd
     rwa [List.drop_drop,List.drop_drop] at this
    have hiy:i<ys.length:=by omega
    have hm:=List.getElem_mem hjl
    simp only [qaE hjy,qC hjy,qC hiy,cond_true,qH _ hjy,hyj,hφ _ hm,qh,qr,qO (show i<4611686018427387904 by omega),qO (show j<4611686018427387904 by omega),qbL,Int.toNat_natCast]
    cases hqj:q xs[j] with
    |true=>
     simp only [Bool.not_true,cond_false,cond_true]
     refine hih _ ⟨i,j+1,rfl,rfl,by omega,by omega,hl,?_,hdd⟩ (by simp only [Int.toNat_natCast]; omega)
     simp only
     rw [ht,qbj hjl,List.filter_append]
     simp [hqj]
    |false=>
     simp only [Bool.not_false,cond_true]
     refine hih _ ⟨i+1,j+1,rfl,rfl,by omega,by omega,by simp only [List.length_set]; exact hl,?_,?_⟩ (by simp only [Int.toNat_natCast]; omega)
     ·simp only
      rw [qbj (by rw [List.length_set]; exact hiy),qbj hjl,List.filter_append,←ht]
      have e3:(ys.set i xs[j]).take i=ys.take i:=by rw [List.take_set]; exact List.set_eq_of_length_le (by rw [List.length_take]; omega)
      rw [e3]
      simp [hqj]
     ·simp only
      rw [List.drop_set_of_lt (by omega)]
      exact hdd
   ·have hje:j=xs.length:=by omega
    subst hje
    have hly:qk ys=(xs.length:Int):=by rw [qe,hl]
    have e4:qam (qdI (qam ys 0 (i:Int)) (qdI (qo1 (α:=qcr) (qda .i64 (qk ys) (i:Int)) ([]:qcr)) (qam ys (qk ys) (qk ys)))) 0 (i:Int)=ys.take i:=by
     rw [hly,qeC (by omega) (by omega)]
     simp only [qcg,qbI,qeS,Int.toNat_natCast,Int.toNat_zero,List.drop_zero]
     rw [List.take_append_of_le_length (by rw [List.length_take]; omega),List.take_take,Nat.min_self]
    have e5:inS (i:Int) (qk ys) (qk ys)=true:=qoW (by omega)
    have e6:inS 0 (i:Int) (qk (qdI (qam ys 0 (i:Int)) (qdI (qo1 (α:=qcr) (qda .i64 (qk ys) (i:Int)) ([]:qcr)) (qam ys (qk ys) (qk ys)))))=true:=by
     rw [hly,qeC (by omega) (by omega),qkF,qe]
     simp only [qcg,qbI,qeS,Int.toNat_natCast,List.length_append,List.length_drop,List.length_take,List.length_replicate]
     refine decide_eq_true ?_
     omega
    have e7:ltI ((xs.length:Nat):Int) (qk ys)=false:=by rw [hly]; exact ltF (by omega)
    simp only [e7,cond_false,e5,e6,cond_true,e4]
    rw [ht,List.take_length]
  ·simp only
   rw [qbj hi0,List.filter_append,←htk]
   simp [h1]
abbrev qhm:Type:=List UInt8×(qcr×(Bool×Unit))
abbrev qmu:qhm:=(([]:List UInt8),(([]:qcr),(false,())))
abbrev zVl:qa:=(0,(0,(([]:List UInt8),())))
abbrev colW:qb:=(([]:List UInt8),(0,(false,())))
def qtb (t:qj) (key:qcr) (i:Nat):Option Int:=match t.2.2.1[i]? with
 |none=>none
 |some c=>if qoz (qn key (i:Int) zVl)≠0 then some (qoz (qn key (i:Int) zVl)) else if (qn key (i:Int) zVl).1≠(qn t.2.1 c colW).2.1 then some 7 else none
def qp1 (t:qj) (key:qcr):Int:=if key.length≠t.2.2.1.length then 7 else match q8 (qtb t key) t.2.2.1.length with
 |some e=>e
 |none=>0
def qiR (s:qc) (c:qhm):Int:=if qmG s≠0 then qmG s else if c.1=[] then (if 0<c.2.1.length∨c.2.2.1=true then 3 else 0) else match qd5 s c.1 with
 |none=>4
 |some t=>if c.2.2.1=true then (if 0<c.2.1.length then 3 else 0) else qp1 t c.2.1
theorem qr0 {s:qc} (h:qmG s=0) {t:qj} (ht:t∈s.1) {c:Int} (hc:c∈t.2.2.1):0≤c∧c<(t.2.1.length:Int):=qkS (qlW h).tabs t ht c hc
theorem qsM {α:Type} {xs:List α} {c:Int} (h:0≤c∧c<(xs.length:Int)):inB c (qk xs)=true:=by
 rw [qg1,qe]; exact decide_eq_true h
theorem qkq (N:Nat) (t:qj) (key:qcr) (hk:∀c∈t.2.2.1,0≤c∧c<(t.2.1.length:Int)) (hN:t.2.2.1.length<N) (hB:N≤1099511627776):qa7 N (t,(key,()))=some ((qp1 t key,()),()):=by
 simp only [qa7,qM,qhw,qad]
 unfold qp1
 by_cases h0:key.length≠t.2.2.1.length
 ·rw [if_pos h0,if_pos h0]
 rw [if_neg h0,if_neg h0]
 refine (qY (S:=Int×Unit) (fun i=>((i:Int),())) t.2.2.1.length (qtb t key) (fun e=>some ((e,()),())) (some ((0,()),())) rfl (fun i hi _ ih=> ?_) (fun _ ih=> ?_) hN).trans ?_
 ·have hik:i<key.length:=by omega
  simp only [qaE hi,qC hi,qC hik,cond_true,qkM,qh,qr,Bool.and_self,Bool.true_and,qH _ hi,qsM (hk _ (List.getElem_mem hi)),qO (show i<4611686018427387904 by omega),qaF,←decide_not,qad,qtb,List.getElem?_eq_getElem hi]
  by_cases h1:qoz (qn key (i:Int) zVl)≠0
  ·rw [if_pos h1,if_pos h1]
  rw [if_neg h1,if_neg h1]
  by_cases h2:(qn key (i:Int) zVl).1≠(qn t.2.1 (t.2.2.1[i]) colW).2.1
  ·rw [if_pos h2,if_pos h2]
  ·rw [if_neg h2,if_neg h2]
 ·simp only
  rw [qF (qal (Nat.lt_irrefl _))]
 ·cases q8 (qtb t key) t.2.2.1.length <;> rfl
theorem qtg {α:Type} (xs:List α):ltI 0 (qk xs)=decide (0<xs.length):=qj6 xs 0
theorem qhL (N:Nat) (s:qc) (c:qhm) (hs:qct N s):qa4 N (s,(c,()))=some ((qiR s c,()),()):=by
 have hB:=hs.sm.n
 simp only [qa4,qM,qrs N s hs,qh,qr,cond_true,qaF,←decide_not,qad,qbw,qtg]
 unfold qiR
 by_cases h0:qmG s≠0
 ·rw [if_pos h0,if_pos h0]
 rw [if_neg h0,if_neg h0]
 by_cases h1:c.1=[]
 ·rw [if_pos h1,if_pos h1]
  cases hd:c.2.2.1 <;> by_cases h2:0<c.2.1.length <;> simp [h2]
 rw [if_neg h1,if_neg h1]
 simp only [qc8 N s c.1 hs.sm.t hB,qh,qr,cond_true]
 unfold qd5
 cases hi:qgx (qcj c.1) s.1 with
 |none=>simp
 |some i=>
  obtain ⟨hi',_,_⟩:=qdp hi
  have hk:=qkq N s.1[i] c.2.1 (fun k hk=>qr0 (Classical.not_not.1 h0) (List.getElem_mem hi') hk) (hs.tab (List.getElem_mem hi')).k hB
  simp only [Option.isSome_some,Bool.not_true,cond_false,Option.getD_some,qC hi',qH _ hi',hk,qh,qr,Bool.and_self,cond_true,Option.bind_some,List.getElem?_eq_getElem hi']
  cases hd:c.2.2.1
  ·simp
  ·by_cases h2:0<c.2.1.length <;> simp [h2]
def qmL (s:qc) (c:qhm) (i:Nat) (key:qcr):Bool:=match qgx (qcj c.1) s.1 with
 |none=>false
 |some j=>if j<i then false else if i<j∨c.2.2.1=true then true else decide (qbm key c.2.1≤0)
theorem qnv (N:Nat) (s:qc) (c:qhm) (i:Nat) (key:qcr) (hN:s.1.length<N) (hk:key.length<N) (hB:N≤1099511627776):qbT N (c,(s,((i:Int),(key,()))))=some ((qmL s c i key,()),()):=by
 simp only [qbT,qM,qc8 N s c.1 hN hB,qhz N _ _ hk hB,qh,qr,cond_true,qbF,qcX]
 unfold qmL
 cases hi:qgx (qcj c.1) s.1 with
 |none=>simp
 |some j=>
  by_cases h1:j<i
  ·simp [h1]
  ·by_cases h2:i<j
   ·simp [h1,h2]
   ·cases hd:c.2.2.1 <;> simp [h1,h2]
theorem qsF {α:Type} {u a:List α} {i:Nat} (hu:u.length=a.length) (h:i<a.length) (d:α):qn (u.take i++a.drop i) (i:Int) d=a[i]:=by
 refine qf9 ?_
 rw [List.getElem?_append_right (by rw [List.length_take]; omega),List.length_take,show i - min i u.length=0 by omega,List.getElem?_drop,Nat.add_zero,List.getElem?_eq_getElem h]
theorem qsh {α:Type} {u a:List α} {i:Nat} (hu:u.length=a.length) (h:i<a.length) (v:α):qjr (u.take i++a.drop i) (i:Int) v=u.take i++v::a.drop (i+1):=by
 rw [qbL,Int.toNat_natCast,List.set_append_right _ _ (by rw [List.length_take]; omega),List.length_take,show i - min i u.length=0 by omega,qi9 h]
 rfl
theorem qr2 {α:Type} {u a:List α} {i:Nat} (hu:u.length=a.length):(u.take i++a.drop i).length=a.length:=by
 rw [List.length_append,List.length_take,List.length_drop]; omega
theorem qrf {α:Type} {u a:List α} {i:Nat} (hu:u.length=a.length) (h:i<a.length):u.take i++u[i]::a.drop (i+1)=u.take (i+1)++a.drop (i+1):=by
 rw [qbj (show i<u.length by omega),List.append_assoc]
 rfl
def filR (s:qc) (c:qhm) (b:Bool) (i:Nat) (q:qcy):qcy:=(q.1,(q.2.1.filter (fun r=>decide (qmL s c i (qdb (s.1.getD i qrL).2.2.1 r)=b)),()))
def qgX (s:qc) (c:qhm) (b:Bool) (inst:List qcy):List qcy:=inst.mapIdx (filR s c b)
theorem qco (s:qc) (c:qhm) (b:Bool) (inst:List qcy):(qgX s c b inst).length=inst.length:=by simp [qgX]
theorem qkr {s:qc} {c:qhm} {b:Bool} {inst:List qcy} {i:Nat} (h:i<inst.length) (hs:i<s.1.length):(qgX s c b inst)[i]'(by rw [qco]; exact h)=(inst[i].1,(inst[i].2.1.filter (fun r=>decide (qmL s c i (qdb (s.1[i]).2.2.1 r)=b)),())):=by
 simp only [qgX,List.getElem_mapIdx,filR,List.getD_eq_getElem?_getD,List.getElem?_eq_getElem hs,Option.getD_some]
theorem qmM (N:Nat) (s:qc) (inst:List qcy) (c:qhm) (b:Bool) (hs:qct N s) (hr:qdj N inst) (hl:inst.length=s.1.length) (hB:N≤1000000000):qbx N (s,(inst,(c,(b,()))))=some ((qgX s c b inst,()),()):=by
 have hu:=qco s c b inst
 simp only [qbx,qno N inst hr (by omega),qM,qh,qr,cond_true]
 have hn:=hr.n
 refine qdt (S:=List qcy×(Int×Unit)) (fun i=>((qgX s c b inst).take i++inst.drop i,((i:Int),()))) inst.length _ (by simp) (fun i hi ih=> ?_) (fun ih=> ?_) hr.n
 ·have hs':i<s.1.length:=by omega
  have hks:=(hs.tab (List.getElem_mem hs')).k
  have l1:qk ((qgX s c b inst).take i++inst.drop i)=qk inst:=by rw [qe,qe,qr2 hu]
  have dl:=qmd N inst[i].2.1 (fun x4=>(qjZ (fun y5:((Bool×Unit)×Unit)=>(y5.1.1,())) (qbS N (x4.1,(c,(s,((i:Int),(s.1[i],(b,()))))))))) (fun r=> !decide (qmL s c i (qdb (s.1[i]).2.2.1 r)=b)) (fun r _=>by
   simp only [qbS,qqc N _ r hks (show N≤1099511627776 by omega),qh,qr,cond_true,qnv N s c i _ hs.sm.t (show (qdb (s.1[i]).2.2.1 r).length<N by rw [qhc]; exact hks) (show N≤1099511627776 by omega),Bool.and_self,qeg,Option.map_some,ql9]) (hr.rows _ (List.getElem_mem hi)) hB
  simp only [Bool.not_not] at dl
  simp only [qaE hi,qC hi,qC hs',cond_true,l1,qsF hu hi,qsh hu hi,qH _ hs',qbE,decide_true,Bool.and_self,dl,qh,qr,Bool.and_true,qO (show i<4611686018427387904 by omega)]
  have e:(inst[i].1,(inst[i].2.1.filter (fun r=>decide (qmL s c i (qdb (s.1[i]).2.2.1 r)=b)),inst[i].2.2))=(qgX s c b inst)[i]'(by omega):=(qkr hi hs').symm
  rw [e,qrf hu hi]
 ·simp only
  rw [qF (qal (Nat.lt_irrefl _)),List.drop_length,List.append_nil,List.take_of_length_le (by omega)]
def qk4 (s:qc) (inst:List qcy) (c:qhm):List qcy×(List qcy×(Int×Unit)):=
 if qiR s c≠0 then ([],([],(qiR s c,()))) else if qgu s inst≠0 then ([],([],(qgu s inst,()))) else (qgX s c true inst,(qgX s c false inst,(0,())))
theorem qpf (N:Nat) (s:qc) (inst:List qcy) (c:qhm) (hs:qct N s) (hr:qdj N inst) (hB:N≤1000000000):qaQ N (s,(inst,(c,())))=some (qk4 s inst c,()):=by
 simp only [qaQ,qM,qhL N s c hs,qh,qr,cond_true,qaF,←decide_not,qad]
 unfold qk4
 by_cases h0:qiR s c≠0
 ·rw [if_pos h0,if_pos h0]
 rw [if_neg h0,if_neg h0]
 simp only [qpO N s inst hs hr,qh,qr,cond_true]
 by_cases h1:qgu s inst≠0
 ·rw [if_pos h1,if_pos h1]
 rw [if_neg h1,if_neg h1]
 have hl:=(qkf (Classical.not_not.1 h1)).len
 simp only [qmM N s inst c true hs hr hl hB,qmM N s inst c false hs hr hl hB,qh,qr,Bool.and_self,cond_true]
def qrM (s:qc):qhm:=if s.1.length=0 then qmu else ((s.1.getLastD qrL).1,(([]:qcr),(true,())))
theorem qoV (N:Nat) (s:qc) (hb:s.1.length≤1000000000):qbf N (s,())=some ((qrM s,()),()):=by
 simp only [qbf,qrM]
 by_cases h0:s.1.length=0
 ·rw [if_pos h0,qw (by rw [qbE,qe]; exact decide_eq_true (by omega))]
 ·rw [if_neg h0,qF (by rw [qbE,qe]; exact decide_eq_false (by omega))]
  have e:qda .i64 (qk s.1) 1=((s.1.length - 1:Nat):Int):=by rw [qe,qeC (by omega) (by omega)]; omega
  have hi:s.1.length - 1<s.1.length:=by omega
  rw [e,qw (qC hi),qH _ hi]
  have:s.1.getLastD qrL=s.1[s.1.length - 1]:=by
   rw [List.getLastD_eq_getLast?,List.getLast?_eq_getElem?,List.getElem?_eq_getElem hi]
   rfl
  rw [this]
def qfz (xs:List qcy):Nat:=(xs.map (fun q=>q.2.1.length)).sum
theorem qft {xs:List qcy} {i:Nat} (h:i<xs.length):qfz (xs.take (i+1))=qfz (xs.take i)+xs[i].2.1.length:=by
 simp only [qfz,qbj h,List.map_append,List.sum_append,List.map_cons,List.map_nil,List.sum_cons,List.sum_nil,Nat.add_zero]
theorem qmz (xs:List qcy) (i:Nat):qfz (xs.take i)≤qfz xs:=by
 conv=>rhs; rw [←List.take_append_drop i xs]
 simp only [qfz,List.map_append,List.sum_append]; omega
def qpt (s:qc):Nat→Nat→List qcy→qhm×(Bool×(Int×Unit))
 |_,_,[]=>(qrM s,(true,(0,())))
 |i,n,q::r=>if n<q.2.1.length then ((q.1,(qdb (s.1.getD i qrL).2.2.1 (q.2.1.getD (n - 1) ([]:qcr)),(false,()))),(false,(0,()))) else if n=q.2.1.length then ((q.1,(([]:qcr),(true,()))),(false,(0,()))) else qpt s (i+1) (n - q.2.1.length) r
def qle (s:qc) (inst:List qcy) (c:qhm) (n:Int):qhm×(Bool×(Int×Unit)):=
 if (qk4 s inst c).2.2.1≠0 then (qmu,(false,((qk4 s inst c).2.2.1,()))) else if n<1 then (qmu,(false,(1,()))) else
 if (qfz (qk4 s inst c).2.1:Int)≤n then (qrM s,(true,(0,()))) else qpt s 0 n.toNat (qk4 s inst c).2.1
theorem qlv (N:Nat) (s:qc) (inst:List qcy) (c:qhm) (n:Int) (hs:qct N s) (hr:qdj N inst) (hB:N≤1000000000) (hn: -9223372036854775808≤n∧n<9223372036854775808) (htot:qfz inst≤1000000000):qT N (s,(inst,(c,(n,()))))=some (qle s inst c n,()):=by
 have hsl:=hs.sm.t
 simp only [qT,qM,qpf N s inst c hs hr hB,qh,qr,cond_true,qaF,←decide_not,qad,qbF n 1]
 unfold qle
 by_cases h0:(qk4 s inst c).2.2.1≠0
 ·rw [if_pos h0,if_pos h0]
 rw [if_neg h0,if_neg h0]
 by_cases h1:n<1
 ·rw [if_pos h1,if_pos h1]
 rw [if_neg h1,if_neg h1]
 have hrem:(qk4 s inst c).2.1.length≤s.1.length∧qfz (qk4 s inst c).2.1≤qfz inst:=by
  unfold qk4 at h0⊢
  split
  ·rename_i h; rw [if_pos h] at h0; exact absurd h (by simpa using h0)
  rename_i h2
  rw [if_neg h2] at h0
  split
  ·rename_i h; rw [if_pos h] at h0; exact absurd h (by simpa using h0)
  rename_i h3
  have hl:=(qkf (Classical.not_not.1 h3)).len
  refine ⟨by rw [qco]; omega,?_⟩
  have key:∀(k:Nat) (xs:List qcy),((xs.mapIdx (fun i=>filR s c false (i+k))).map (fun q=>q.2.1.length)).sum≤(xs.map (fun q=>q.2.1.length)).sum:=fun k xs=>by
   induction xs generalizing k with
   |nil=>simp
   |cons x xs ih=>
    simp only [List.mapIdx_cons,List.map_cons,List.sum_cons]
    have h4:(filR s c false (0+k) x).2.1.length≤x.2.1.length:=List.length_filter_le ..
    have h5:=ih (k+1)
    simp only [show ∀i,i+(k+1)=i+1+k from fun i=>by omega] at h5
    omega
  exact key 0 inst
 obtain ⟨hl,ht⟩:=hrem
 generalize (qk4 s inst c).2.1=rem at hl ht⊢
 refine qdt (S:=qt×(Int×(Int×Unit))) (fun i=>(qmu,(((qfz (rem.take i):Nat):Int),((i:Int),())))) rem.length _ rfl (fun i hi ih=> ?_) (fun ih=> ?_) (by omega)
 ·have h2:=qmz rem (i+1)
  rw [qft hi] at h2
  simp only [qaE hi,qC hi,cond_true,qH _ hi]
  have e9:qcq .i64 ((qfz (rem.take i):Nat):Int) (qk rem[i].2.1)=((qfz (rem.take (i+1)):Nat):Int):=by
   rw [qe,qoP (by omega) (by omega),qft hi,Int.natCast_add]
  rw [qO (show i<4611686018427387904 by omega),e9]
 ·simp only [qal (Nat.lt_irrefl _),cond_false,List.take_length,qcX,qad,qoV N s (show s.1.length≤1000000000 by omega),qh,qr,cond_true]
  by_cases h2:(qfz rem:Int)≤n
  ·rw [if_pos h2,if_pos h2]
  rw [if_neg h2,if_neg h2]
  generalize hout:qpt s 0 n.toNat rem=out
  refine qiv (S:=Int×(qt×(Int×Unit))) (fun p=>rem.length - p.2.2.1.toNat) (fun p=>∃m i:Nat,p=((m:Int),(qmu,((i:Int),())))∧i≤rem.length∧1≤m∧(m:Int)≤n∧qpt s i m (rem.drop i)=out)
   (fun r=>r=some (out,())) ?_ N _ ⟨n.toNat,0,by rw [Int.toNat_of_nonneg (by omega)]; rfl,by omega,by omega,by omega,hout⟩ (by show rem.length - 0<N; omega)
  rintro ih _ ⟨m,i,rfl,hi,hm,hmn,he⟩ hih
  simp only [Int.toNat_natCast] at hih
  by_cases hi':i<rem.length
  case neg=>
   have:i=rem.length:=by omega
   subst this
   rw [List.drop_length] at he
   simp only [qal (Nat.lt_irrefl _),cond_false,qoV N s (show s.1.length≤1000000000 by omega),qh,qr,cond_true]
   rw [←he]
   rfl
  have hs':i<s.1.length:=by omega
  have hlb:rem[i].2.1.length≤qfz rem:=by
   have h3:=qmz rem (i+1)
   rw [qft hi'] at h3
   omega
  rw [qi9 hi'] at he
  simp only [qaE hi',qC hi',qC hs',cond_true,qH _ hi',qH _ hs',qqc N _ _ (hs.tab (List.getElem_mem hs')).k (show N≤1099511627776 by omega),qh,qr,Bool.and_true,Bool.true_and]
  unfold qpt at he
  by_cases h3:m<rem[i].2.1.length
  ·have e:qda .i64 (m:Int) 1=((m - 1:Nat):Int):=by rw [qeC (by omega) (by omega)]; omega
   have hm1:m - 1<rem[i].2.1.length:=by omega
   rw [if_pos h3] at he
   simp only [List.getD_eq_getElem?_getD,List.getElem?_eq_getElem hs',List.getElem?_eq_getElem hm1,Option.getD_some] at he
   simp only [qaE h3,e,qC hm1,cond_true,qH _ hm1]
   rw [←he]
  ·rw [if_neg h3] at he
   have e:qda .i64 (m:Int) (qk rem[i].2.1)=((m - rem[i].2.1.length:Nat):Int):=by rw [qe,qeC (by omega) (by omega)]; omega
   simp only [qal h3,cond_false,e,qbE,qad]
   by_cases h4:m=rem[i].2.1.length
   ·rw [if_pos h4] at he
    rw [if_pos (by omega),←he]
   ·rw [if_neg h4] at he
    rw [if_neg (by omega),qO (show i<4611686018427387904 by omega)]
    exact hih _ ⟨_,_,rfl,by omega,by omega,by omega,he⟩ (by simp only [Int.toNat_natCast]; omega)
end
end Go.Proofs.YtpdhkfofjpankaaGreatDoor
namespace Go.Proofs.YtpdhkfofjpankaaGreatDoor
open Go.Vi
noncomputable section
theorem qct.mono {N M:Nat} {s:qc} (h:qct N s) (hNM:N≤M) (hM:M≤1099511627776):qct M s:=by
 obtain ⟨⟨_,t,f,c,tc,tk,fc,tn,cn⟩,m⟩:=h
 exact ⟨⟨hM,by omega,by omega,by omega,fun x hx=>Nat.lt_of_lt_of_le (tc x hx) hNM,fun x hx=>Nat.lt_of_lt_of_le (tk x hx) hNM,fun x hx=>Nat.lt_of_lt_of_le (fc x hx) hNM,fun x hx=>Nat.lt_of_lt_of_le (tn x hx) hNM,fun x hx y hy=>Nat.lt_of_lt_of_le (cn x hx y hy) hNM⟩,by omega⟩
theorem qdj.mono {N M:Nat} {rels:List qcy} (h:qdj N rels) (hNM:N≤M):qdj M rels:=
 ⟨Nat.lt_of_lt_of_le h.n hNM,fun r hr=>Nat.lt_of_lt_of_le (h.rows r hr) hNM,fun r hr x hx=>Nat.lt_of_lt_of_le (h.row r hr x hx) hNM,h.enc⟩
theorem qjm (N:Nat) (xs ys:qcr) (hN:xs.length<N) (hb:xs.length≤1099511627776):qaV N (xs,(ys,()))=some ((decide (xs=ys),()),()):=by
 simp only [qaV]
 by_cases hl:xs.length=ys.length
 ·rw [qF (by rw [qaF,qe,qe,hl]; simp)]
  refine qmV (ne:=fun (a b:qa)=> !((eqI a.1 b.1)&&((eqI a.2.1 b.2.1)&&(eqS a.2.2.1 b.2.2.1)))) (fun a b=> ?_) xs ys (0,(0,(([]:List UInt8),()))) hl hb hN
  obtain ⟨a1,a2,a3,⟨⟩⟩:=a
  obtain ⟨b1,b2,b3,⟨⟩⟩:=b
  simp only [qbw,qbE,Prod.mk.injEq,and_true,Bool.decide_and]
 ·rw [qw (by rw [qaF,qe,qe]; simp; omega)]
  have:xs≠ys:=fun h=>hl (by rw [h])
  simp [this]
theorem ql5 (N:Nat) (a:List qcr) (hN:a.length<N) (hr:∀r∈a,r.length<N) (hB:N≤1099511627776):qa9 N (a,(a,()))=some ((true,()),()):=by
 simp only [qa9]
 rw [qhw,show decide (a.length≠a.length)=false by simp,cond_false]
 refine qdt (S:=Int×Unit) (fun i=>((i:Int),())) a.length _ rfl (fun i hi ih=> ?_) (fun ih=> ?_) hN
 ·simp only [qaE hi,qC hi,cond_true,qH _ hi,qjm N a[i] a[i] (hr _ (List.getElem_mem hi)) (Nat.le_trans (Nat.le_of_lt (hr _ (List.getElem_mem hi))) hB),qh,qr,Bool.and_self,decide_true,Bool.not_true,cond_false,qO (show i<4611686018427387904 by omega)]
 ·simp only
  rw [qF (qal (Nat.lt_irrefl _))]
theorem qlH (N:Nat) (a:List qcy) (hN:a.length<N) (h1:∀q∈a,q.2.1.length<N) (hr:∀q∈a,∀r∈q.2.1,r.length<N) (hB:N≤1099511627776):qac N (a,(a,()))=some ((true,()),()):=by
 simp only [qac,qM]
 rw [qhw,show decide (a.length≠a.length)=false by simp,cond_false]
 refine qdt (S:=Int×Unit) (fun i=>((i:Int),())) a.length _ rfl (fun i hi ih=> ?_) (fun ih=> ?_) hN
 ·have hm:=List.getElem_mem hi
  simp only [qaE hi,qC hi,cond_true,qH _ hi,ql5 N (a[i]).2.1 (h1 _ hm) (hr _ hm) hB,qh,qr,Bool.and_self,qbw,decide_true,Bool.not_true,Bool.or_true,Bool.or_false,cond_false,qO (show i<4611686018427387904 by omega)]
 ·simp only
  rw [qF (qal (Nat.lt_irrefl _))]
def qeI:qc:=([([105,116,101,109],([([105,100],(1,(false,()))),([115,105,122,101],(1,(true,()))),([102,105,114,115,116],(3,(false,()))),([108,97,115,116],(3,(false,())))],([0],()))),([111,114,100,101,114],([([105,100],(1,(false,()))),([105,116,101,109],(1,(true,()))),([112,97,105,100],(2,(false,())))],([0],())))],([([111,114,100,101,114],([1],([105,116,101,109],())))],([([105,116,101,109],(1,([60,61],(-1,((1,(6,([],()))),())))))],())))
theorem qs8:qmG qeI=0:=by
 delta qmG qn6 fkL qol qpE pkE vFk qrI fkE qiP
 simp only [qdH,qhd]
 decide+kernel
theorem qq5:qgu qeI (qgf qeI)=0:=by
 delta qgu qqm qku qq6 qm9 qiP qgf
 simp only [qdH]
 decide+kernel
theorem qs1:qct 2000000 qeI:=qnH (by decide+kernel)
theorem qsC:qle qeI (qgf qeI) qmu 1=(([111,114,100,101,114],([],(true,()))),(true,(0,()))):=by
 have h0:qiR qeI qmu=0:=by
  unfold qiR
  rw [if_neg (by rw [qs8]; decide),if_pos rfl,if_neg (by simp)]
 have h1:qk4 qeI (qgf qeI) qmu=(qgX qeI qmu true (qgf qeI),(qgX qeI qmu false (qgf qeI),(0,()))):=by
  unfold qk4
  rw [if_neg (by rw [h0]; decide),if_neg (by rw [qq5]; decide)]
 have h2:qfz (qgX qeI qmu false (qgf qeI))=0:=rfl
 unfold qle
 rw [h1,if_neg (by decide),if_neg (by decide),h2,if_pos (by decide)]
 rfl
theorem qov {N:Nat} (h:100<N):qdj N (qgf qeI):=by
 have e:∀r∈qgf qeI,r.2.1=[]:=fun r hr=>by
  obtain ⟨t,_,rfl⟩:=List.mem_map.1 hr
  rfl
 refine ⟨by show 2<N; omega,fun r hr=>by rw [e r hr]; show 0<N; omega,fun r hr x hx=> ?_,fun r hr x hx=> ?_⟩ <;> (rw [e r hr] at hx; cases hx)
theorem qsI (N:Nat) (h:2000000≤N) (hB:N≤1000000000):qaH N ()=some ((true,()),()):=by
 have ss:qct N qeI:=qs1.mono (by omega) (by omega)
 have hb:qJ N ()=some ((qeI,()),()):=rfl
 have hE:=qq9 N qeI ss
 have hA:=qlv N qeI (qgf qeI) qmu 1 ss (qov (by omega)) hB (by omega) (by decide)
 rw [qsC] at hA
 simp only [qaH,qM,hb,hE,hA,qh,qr,cond_true,Bool.and_self,eqT (rfl:(0:Int)=0),qbw,decide_true,Bool.and_true,Bool.true_and]
theorem qnc (N:Nat) (t:qj) (key:qcr) (hk:∀c∈t.2.2.1,0≤c∧c<(t.2.1.length:Int)) (hN:t.2.2.1.length<N) (hB:N≤1099511627776):qX N (t,(key,()))=some ((qp1 t key,()),()):=by
 simp only [qX,qM,qhw,qad]
 unfold qp1
 by_cases h0:key.length≠t.2.2.1.length
 ·rw [if_pos h0,if_pos h0]
 rw [if_neg h0,if_neg h0]
 refine (qY (S:=Int×Unit) (fun i=>((i:Int),())) t.2.2.1.length (qtb t key) (fun e=>some ((e,()),())) (some ((0,()),())) rfl (fun i hi _ ih=> ?_) (fun _ ih=> ?_) hN).trans ?_
 ·have hik:i<key.length:=by omega
  simp only [qaE hi,qC hi,qC hik,cond_true,qkn,qh,qr,Bool.and_self,Bool.and_true,qH _ hi,qsM (hk _ (List.getElem_mem hi)),qO (show i<4611686018427387904 by omega),qaF,←decide_not,qad,qtb,List.getElem?_eq_getElem hi]
  by_cases h1:qoz (qn key (i:Int) zVl)≠0
  ·rw [if_pos h1,if_pos h1]
  rw [if_neg h1,if_neg h1]
  by_cases h2:(qn key (i:Int) zVl).1≠(qn t.2.1 (t.2.2.1[i]) colW).2.1
  ·rw [if_pos h2,if_pos (Ne.symm h2)]
  ·rw [if_neg h2,if_neg (fun h=>h2 (Ne.symm h))]
 ·simp only
  rw [qF (qal (Nat.lt_irrefl _))]
 ·cases q8 (qtb t key) t.2.2.1.length <;> rfl
theorem qtz {α:Type} (xs:List α):neI (qk xs) 0=decide (0<xs.length):=by
 rw [qaF,qe,←decide_not]; exact decide_eq_decide.2 (by omega)
theorem qq7 (N:Nat) (s:qc) (c:qhm) (hs:qct N s) (hid:∀f∈s.2.1,(fkC f).length≤1099511627776):qbs N (s,(c,()))=some ((qiR s c,()),()):=by
 have hB:=hs.sm.n
 have hst:=hs.sm.t
 simp only [qbs,qM,qqT N s hs hid,qh,qr,cond_true,qtz,qbw,qad]
 unfold qiR
 by_cases h0:qmG s≠0
 ·rw [if_pos h0,neT h0]; rfl
 rw [if_neg h0,neF (Classical.not_not.1 h0),cond_false]
 by_cases h1:c.1=[]
 ·rw [if_pos h1,if_pos h1]
  cases hd:c.2.2.1 <;> by_cases h2:0<c.2.1.length <;> simp [h2]
 rw [if_neg h1,if_neg h1]
 refine (qY (S:=Int×Unit) (fun i=>((i:Int),())) s.1.length (atE (qcj c.1) s.1) (fun i=>some (((match s.1[i]? with
  |some t=>if c.2.2.1=true then (if 0<c.2.1.length then 3 else 0) else qp1 t c.2.1
  |none=>0),()),())) (some ((4,()),())) rfl (fun i hi _ ih=> ?_) (fun _ ih=> ?_) hs.sm.t).trans ?_
 ·have hk:=qnc N s.1[i] c.2.1 (fun k hk=>qr0 (Classical.not_not.1 h0) (List.getElem_mem hi) hk) (hs.tab (List.getElem_mem hi)).k hB
  simp only [qaE hi,qC hi,cond_true,qH _ hi,qO (show i<4611686018427387904 by omega),hk,qh,qr,atE,List.getElem?_eq_getElem hi,qcj]
  by_cases h2:(s.1[i]).1=c.1
  ·have e:s.1[i]? =some s.1[i]:=List.getElem?_eq_getElem hi
   cases hd:c.2.2.1 <;> by_cases h3:0<c.2.1.length <;> simp [h2,h3,e]
  ·simp [h2]
 ·simp only
  rw [qF (qal (Nat.lt_irrefl _))]
 ·rw [qd5,qgx]
  cases hf:q8 (atE (qcj c.1) s.1) s.1.length with
  |none=>rfl
  |some i=>
   have hi:i<s.1.length:=by
    obtain ⟨hi,_⟩:=qdp (show qgx (qcj c.1) s.1=some i from hf)
    exact hi
   simp only [Option.bind_some,List.getElem?_eq_getElem hi]
def qrE (c:qhm) (n:List UInt8) (key:qcr):Bool:= !(decide (c.1=[])|| !(qdg n c.1||decide (n=c.1)))&&(qdg n c.1||(c.2.2.1||decide (qbm key c.2.1≤0)))
theorem qni (N:Nat) (c:qhm) (n:List UInt8) (key:qcr) (hk:key.length<N) (hB:N≤1099511627776):qbz N (c,(n,(key,())))=some ((qrE c n key,()),()):=by
 simp only [qbz,qM,qg5 N _ _ hk hB,qh,qr,Bool.or_true,cond_true,qbw,qcX]
 unfold qrE
 cases hq:(decide (c.1=[])|| !(qdg n c.1||decide (n=c.1))) <;> simp [hq,Bool.or_assoc]
theorem qpJ {s:qc} (h:qmG s=0) {t:qj} (ht:t∈s.1):t.1≠[]:=by
 intro he
 obtain ⟨i,hi,rfl⟩:=List.getElem_of_mem ht
 have:=qbh (qlW h).tabs i hi
 simp only [qn6,List.getElem?_eq_getElem hi] at this
 split at this
 ·cases this
 rename_i hv
 have hv:qpE s.1[i]=0:=by simpa using hv
 unfold qpE at hv
 rw [he,if_pos (show qey []=false from rfl)] at hv
 cases hv
theorem qoM {s:qc} (h:qmG s=0) {c:qhm} (hc:qiR s c=0) {i:Nat} (hi:i<s.1.length) (key:qcr):qrE c (s.1[i]).1 key=qmL s c i key:=by
 unfold qmL
 have hv:=qlW h
 cases hx:qgx (qcj c.1) s.1 with
 |none=>
  have h1:c.1=[]:=by
   refine Classical.byContradiction fun hne=> ?_
   unfold qiR at hc
   rw [if_neg (by omega),if_neg hne] at hc
   simp only [qd5,hx,Option.bind_none] at hc
   cases hc
  simp [qrE,h1]
 |some j=>
  obtain ⟨hj,h1,h2⟩:=qdp hx
  have e:(s.1[j]).1=c.1:=by simpa [qcj] using h1
  have hne:¬c.1=[]:=fun q=>qpJ h (List.getElem_mem hj) (e.trans q)
  have hp:=List.pairwise_iff_getElem.1 hv.names
  simp only
  rcases Nat.lt_trichotomy i j with q|q|q
  ·have h3:=hp i j hi hj q
   rw [e] at h3
   rw [if_neg (by omega),if_pos (Or.inl q)]
   simp [qrE,hne,h3]
  ·subst q
   rw [if_neg (by omega)]
   have h3:qdg c.1 c.1=false:=qkl _
   simp only [qrE,e,hne,decide_false,h3,Bool.false_or,decide_true,Bool.not_true,Bool.not_false,Bool.true_and,Nat.lt_irrefl,false_or]
   cases hd:c.2.2.1 <;> simp
  ·have h3:=hp j i hj hi q
   rw [e] at h3
   have h4:qdg (s.1[i]).1 c.1=false:=by
    rw [Bool.eq_false_iff]
    intro h4
    have:=qkZ h3 h4
    rw [qkl] at this
    cases this
   have h5:¬(s.1[i]).1=c.1:=fun q=>by rw [q,qkl] at h3; cases h3
   rw [if_pos q]
   simp [qrE,hne,h4,h5]
theorem qoo {α:Type} {p:α→Bool} {xs:List α} {k:Nat} (h:k<xs.length):(xs.take (k+1)).filter p=(xs.take k).filter p++(if p xs[k]=true then [xs[k]] else []):=by
 rw [qbj h,List.filter_append]
 by_cases q:p xs[k]=true
 ·rw [if_pos q,List.filter_cons,if_pos q]; rfl
 ·rw [if_neg q,List.filter_cons,if_neg q]; rfl
theorem qnu {α:Type} (p:α→Bool) (xs:List α) (k:Nat):((xs.take k).filter p).length≤xs.length:=
 Nat.le_trans (List.length_filter_le ..) (by rw [List.length_take]; omega)
theorem qkg (N:Nat) (s:qc) (inst:List qcy) (c:qhm) (hs:qct N s) (hr:qdj N inst) (h:qmG s=0) (hc:qiR s c=0) (hf:qgu s inst=0) (hB:N≤1000000000):qag N (s,(inst,(c,())))=some ((qgX s c true inst,(qgX s c false inst,())),()):=by
 have hF:=qkf hf
 have hl:=hF.len
 have hrn:=hr.n
 simp only [qag,qM]
 refine qdt (S:=List qcy×(List qcy×(Int×Unit))) (fun i=>((qgX s c true inst).take i,((qgX s c false inst).take i,((i:Int),())))) inst.length _ rfl (fun i hi ih=> ?_) (fun ih=> ?_) hr.n
 ·have hs':i<s.1.length:=by omega
  have ht:=hs.tab (List.getElem_mem hs')
  have hrow:=hr.rows _ (List.getElem_mem hi)
  simp only [qaE hi,qC hi,qC hs',cond_true,qH _ hi,qH _ hs']
  refine qdt (S:=qcy×(qcy×(Int×Unit))) (fun k=>((inst[i].1,((inst[i].2.1.take k).filter (fun r=>decide (qmL s c i (qdb (s.1[i]).2.2.1 r)=true)),())),((inst[i].1,((inst[i].2.1.take k).filter (fun r=>decide (qmL s c i (qdb (s.1[i]).2.2.1 r)=false)),())),((k:Int),())))) inst[i].2.1.length _ rfl (fun k hk ih2=> ?_) (fun ih2=> ?_) hrow
  ·have l1:=qnu (fun r=>decide (qmL s c i (qdb (s.1[i]).2.2.1 r)=true)) inst[i].2.1 k
   have l2:=qnu (fun r=>decide (qmL s c i (qdb (s.1[i]).2.2.1 r)=false)) inst[i].2.1 k
   have r1:∀q:qcr,qcP (qk ((inst[i].2.1.take k).filter (fun r=>decide (qmL s c i (qdb (s.1[i]).2.2.1 r)=true)))) (qk ([q]:List qcr)) 24=true:=fun q=>qek (by simp only [List.length_cons,List.length_nil]; omega)
   have r2:∀q:qcr,qcP (qk ((inst[i].2.1.take k).filter (fun r=>decide (qmL s c i (qdb (s.1[i]).2.2.1 r)=false)))) (qk ([q]:List qcr)) 24=true:=fun q=>qek (by simp only [List.length_cons,List.length_nil]; omega)
   have hcv:=qni N c (inst[i].1) (qdb (s.1[i]).2.2.1 inst[i].2.1[k]) (show (qdb (s.1[i]).2.2.1 inst[i].2.1[k]).length<N by rw [qhc]; exact ht.k) (by omega)
   rw [hF.name i hi hs',qoM h hc hs'] at hcv
   rw [←hF.name i hi hs'] at hcv
   simp only [qaE hk,qC hk,cond_true,qH _ hk,qmH N _ _ ht.k (show N≤1099511627776 by omega),hcv,qh,qr,Bool.and_self,r1,r2,qbI,qO (show k<4611686018427387904 by omega),qoo hk]
   cases hq:qmL s c i (qdb (s.1[i]).2.2.1 inst[i].2.1[k]) <;> simp
  ·have r1:∀q:qcy,qcP (qk ((qgX s c true inst).take i)) (qk ([q]:List qcy)) 40=true:=fun q=>qek (by rw [List.length_take,qco]; simp only [List.length_cons,List.length_nil]; omega)
   have r2:∀q:qcy,qcP (qk ((qgX s c false inst).take i)) (qk ([q]:List qcy)) 40=true:=fun q=>qek (by rw [List.length_take,qco]; simp only [List.length_cons,List.length_nil]; omega)
   simp only [qal (Nat.lt_irrefl _),cond_false,List.take_length,r1,r2,Bool.and_self,cond_true,qbI,qO (show i<4611686018427387904 by omega)]
   have e1:(inst[i].1,(inst[i].2.1.filter (fun r=>decide (qmL s c i (qdb (s.1[i]).2.2.1 r)=true)),()))=(qgX s c true inst)[i]'(by rw [qco]; exact hi):=(qkr hi hs').symm
   have e2:(inst[i].1,(inst[i].2.1.filter (fun r=>decide (qmL s c i (qdb (s.1[i]).2.2.1 r)=false)),()))=(qgX s c false inst)[i]'(by rw [qco]; exact hi):=(qkr hi hs').symm
   rw [e1,e2,qbj (show i<(qgX s c true inst).length by rw [qco]; exact hi),qbj (show i<(qgX s c false inst).length by rw [qco]; exact hi)]
 ·simp only
  rw [qF (qal (Nat.lt_irrefl _)),List.take_of_length_le (by rw [qco]; omega),List.take_of_length_le (by rw [qco]; omega)]
theorem qn1 (N:Nat) (xs:List qcy) (hN:xs.length<N) (hB:N≤1000000000) (ht:qfz xs≤1000000000):qbP N (xs,())=some (((qfz xs:Int),()),()):=by
 simp only [qbP]
 refine qdt (S:=Int×(Int×Unit)) (fun i=>(((qfz (xs.take i):Nat):Int),((i:Int),()))) xs.length _ rfl (fun i hi ih=> ?_) (fun ih=> ?_) hN
 ·have h2:=qmz xs (i+1)
  rw [qft hi] at h2
  simp only [qaE hi,qC hi,cond_true,qH _ hi]
  have e9:qcq .i64 ((qfz (xs.take i):Nat):Int) (qk xs[i].2.1)=((qfz (xs.take (i+1)):Nat):Int):=by
   rw [qe,qoP (by omega) (by omega),qft hi,Int.natCast_add]
  rw [qO (show i<4611686018427387904 by omega),e9]
 ·simp only
  rw [qF (qal (Nat.lt_irrefl _)),List.take_length]
theorem qnJ (N:Nat) (s:qc) (hb:s.1.length≤1000000000):qaU N (s,())=some ((qrM s,()),()):=qoV N s hb
theorem qqE (s:qc) (c:qhm) (b:Bool) (inst:List qcy):qfz (qgX s c b inst)≤qfz inst:=by
 have key:∀(k:Nat) (xs:List qcy),((xs.mapIdx (fun i=>filR s c b (i+k))).map (fun q=>q.2.1.length)).sum≤(xs.map (fun q=>q.2.1.length)).sum:=fun k xs=>by
  induction xs generalizing k with
  |nil=>simp
  |cons x xs ih=>
   simp only [List.mapIdx_cons,List.map_cons,List.sum_cons]
   have h4:(filR s c b (0+k) x).2.1.length≤x.2.1.length:=List.length_filter_le ..
   have h5:=ih (k+1)
   simp only [show ∀i,i+(k+1)=i+1+k from fun i=>by omega] at h5
   omega
 exact key 0 inst
theorem qm4 (q:qcy) (r:List qcy):qfz (q::r)=q.2.1.length+qfz r:=by simp [qfz]
def advO (p:qhm×(Bool×(Int×Unit))):qhm×(Bool×Unit):=(p.1,(p.2.1,()))
theorem qrr (N:Nat) (s:qc) (inst:List qcy) (c:qhm) (n:Int) (hs:qct N s) (hr:qdj N inst) (h:qmG s=0) (hc:qiR s c=0) (hf:qgu s inst=0) (hB:N≤1000000000) (hn:1≤n∧n<9223372036854775808) (htot:qfz inst≤1000000000):qbk N (s,(inst,(c,(n,()))))=some (advO (qle s inst c n),()):=by
 have hst:=hs.sm.t
 have hF:=qkf hf
 have e0:qk4 s inst c=(qgX s c true inst,(qgX s c false inst,(0,()))):=by
  unfold qk4
  rw [if_neg (by omega),if_neg (by omega)]
 have hl:(qgX s c false inst).length=s.1.length:=by rw [qco]; exact hF.len
 have ht:=qqE s c false inst
 have hrow:∀q∈qgX s c false inst,q.2.1.length<N:=fun q hq=>by
  obtain ⟨i,hi,rfl⟩:=List.getElem_of_mem hq
  rw [qco] at hi
  rw [qkr hi (by rw [←hF.len]; exact hi)]
  exact Nat.lt_of_le_of_lt (List.length_filter_le ..) (hr.rows _ (List.getElem_mem hi))
 unfold qle
 rw [e0,if_neg (by simp),if_neg (by omega)]
 simp only [qbk,qM,qkg N s inst c hs hr h hc hf hB,qh,qr,cond_true]
 generalize qgX s c false inst=rem at hl ht hrow⊢
 have hlN:rem.length<N:=by omega
 simp only [qn1 N rem hlN hB (by omega),qh,qr,cond_true,qcX,qad]
 by_cases h2:(qfz rem:Int)≤n
 ·rw [if_pos h2,if_pos h2,qnJ N s (by omega)]
  simp only [qh,qr,cond_true,advO]
 rw [if_neg h2,if_neg h2]
 generalize hout:qpt s 0 n.toNat rem=out
 refine qiv (S:=Int×(qt×(Int×Unit))) (fun p=>rem.length - p.2.2.1.toNat) (fun p=>∃m i:Nat,p=((m:Int),(qmu,((i:Int),())))∧i≤rem.length∧1≤m∧m≤qfz (rem.drop i)∧qpt s i m (rem.drop i)=out)
  (fun r=>r=some (advO out,())) ?_ N _ ⟨n.toNat,0,by rw [Int.toNat_of_nonneg (by omega)]; rfl,by omega,by omega,by show n.toNat≤qfz rem; omega,hout⟩ (by show rem.length - 0<N; omega)
 rintro ih _ ⟨m,i,rfl,hi,hm,hmn,he⟩ hih
 simp only [Int.toNat_natCast] at hih
 by_cases hi':i<rem.length
 case neg=>
  have:i=rem.length:=by omega
  subst this
  rw [List.drop_length] at hmn
  have:qfz ([]:List qcy)=0:=rfl
  omega
 have hs':i<s.1.length:=by omega
 have hlb:rem[i].2.1.length≤qfz rem:=by
  have h3:=qmz rem (i+1)
  rw [qft hi'] at h3
  omega
 have hrN:=hrow _ (List.getElem_mem hi')
 have htd:qfz (rem.drop i)≤qfz rem:=by
  have:qfz rem=qfz (rem.take i)+qfz (rem.drop i):=by
   conv=>lhs; rw [←List.take_append_drop i rem]
   simp only [qfz,List.map_append,List.sum_append]
  omega
 have hmT:m≤1000000000:=by omega
 rw [qi9 hi'] at he hmn
 rw [qm4] at hmn
 simp only [qaE hi',qC hi',cond_true,qH _ hi']
 unfold qpt at he
 by_cases h3:m≤rem[i].2.1.length
 ·
  refine qdt (S:=Int×(qt×(Int×Unit))) (fun k=>(((m - k:Nat):Int),(qmu,((k:Int),())))) (m - 1) _ rfl (fun k hk ih2=> ?_) (fun ih2=> ?_) (by omega)
  ·have hk':k<rem[i].2.1.length:=by omega
   have e:qda .i64 ((m - k:Nat):Int) 1=((m - (k+1):Nat):Int):=by rw [qeC (by omega) (by omega)]; omega
   simp only [qaE hk',qC hk',cond_true,e,eqF (show ¬((m - (k+1):Nat):Int)=0 by omega),cond_false,qO (show k<4611686018427387904 by omega)]
  ·have hk':m - 1<rem[i].2.1.length:=by omega
   have e:qda .i64 ((m - (m - 1):Nat):Int) 1=0:=by rw [qeC (by omega) (by omega)]; omega
   have e2:qda .i64 (qk rem[i].2.1) 1=((rem[i].2.1.length - 1:Nat):Int):=by rw [qe,qeC (by omega) (by omega)]; omega
   simp only [qaE hk',qC hk',qC hs',cond_true,e,e2,eqT (rfl:(0:Int)=0),qH _ hs',qH _ hk',qmH N _ _ (hs.tab (List.getElem_mem hs')).k (show N≤1099511627776 by omega),qh,qr,Bool.and_true,qbE,qad]
   by_cases h4:m<rem[i].2.1.length
   ·rw [if_pos h4] at he
    simp only [List.getD_eq_getElem?_getD,List.getElem?_eq_getElem hs',List.getElem?_eq_getElem hk',Option.getD_some] at he
    rw [if_neg (by omega),←he]
    rfl
   ·rw [if_neg h4,if_pos (by omega)] at he
    rw [if_pos (by omega),←he]
    rfl
 ·rw [if_neg (by omega),if_neg (by omega)] at he
  refine qdt (S:=Int×(qt×(Int×Unit))) (fun k=>(((m - k:Nat):Int),(qmu,((k:Int),())))) rem[i].2.1.length _ rfl (fun k hk ih2=> ?_) (fun ih2=> ?_) hrN
  ·have e:qda .i64 ((m - k:Nat):Int) 1=((m - (k+1):Nat):Int):=by rw [qeC (by omega) (by omega)]; omega
   simp only [qaE hk,qC hk,cond_true,e,eqF (show ¬((m - (k+1):Nat):Int)=0 by omega),cond_false,qO (show k<4611686018427387904 by omega)]
  ·simp only [qal (Nat.lt_irrefl _),cond_false,qO (show i<4611686018427387904 by omega)]
   exact hih _ ⟨_,_,rfl,by omega,by omega,by omega,he⟩ (by simp only [Int.toNat_natCast]; omega)
def outC (s:qc) (c:qhm) (n:List UInt8) (key:qcr):Bool×(Int×Unit):=if qiR s c≠0 then (false,(qiR s c,())) else match qgx (qcj n) s.1 with
 |none=>(false,(4,()))
 |some i=>match s.1[i]? with
  |none=>(false,(4,()))
  |some t=>if qp1 t key≠0 then (false,(qp1 t key,())) else (qmL s c i key,(0,()))
theorem qr9 {t:qj} {key:qcr} (h:qp1 t key=0):key.length=t.2.2.1.length:=by
 unfold qp1 at h
 split at h
 ·cases h
 ·omega
theorem qpA (N:Nat) (s:qc) (c:qhm) (n:List UInt8) (key:qcr) (hs:qct N s):qbO N (s,(c,(n,(key,()))))=some (outC s c n key,()):=by
 have hB:=hs.sm.n
 simp only [qbO,qM,qhL N s c hs,qh,qr,cond_true]
 unfold outC
 by_cases h0:qiR s c≠0
 ·rw [if_pos h0,neT h0]; rfl
 rw [if_neg h0,neF (Classical.not_not.1 h0),cond_false]
 have h1:qmG s=0:=by
  unfold qiR at h0
  refine Classical.byContradiction fun q=>h0 ?_
  rw [if_pos q]; exact q
 simp only [qc8 N s n hs.sm.t hB,qh,qr,cond_true]
 cases hx:qgx (qcj n) s.1 with
 |none=>rfl
 |some i=>
  obtain ⟨hi,_,_⟩:=qdp hx
  have hk:=qkq N s.1[i] key (fun k hk=>qr0 h1 (List.getElem_mem hi) hk) (hs.tab (List.getElem_mem hi)).k hB
  simp only [Option.isSome_some,Option.getD_some,Bool.not_true,cond_false,qC hi,qH _ hi,hk,qh,qr,Bool.and_self,cond_true,List.getElem?_eq_getElem hi]
  by_cases h2:qp1 s.1[i] key≠0
  ·rw [if_pos h2,neT h2]; rfl
  ·have hkl:=qr9 (Classical.not_not.1 h2)
   have hkN:=(hs.tab (List.getElem_mem hi)).k
   rw [if_neg h2,neF (Classical.not_not.1 h2),cond_false,qnv N s c i key hs.sm.t (by omega) hB]
   simp only [qh,qr,cond_true]
theorem qmE (N:Nat) (a b:qhm) (hN:a.2.1.length<N) (hB:N≤1099511627776):qaa N (a,(b,()))=some ((decide (a=b),()),()):=by
 obtain ⟨a1,a2,a3,⟨⟩⟩:=a
 obtain ⟨b1,b2,b3,⟨⟩⟩:=b
 have hN:a2.length<N:=hN
 simp only [qaa,qjm N a2 b2 hN (show a2.length≤1099511627776 by omega),qh,qr,Bool.or_true,cond_true,qbw,ql9,←Bool.decide_and]
 congr 3
 exact decide_eq_decide.2 ⟨fun h=>by rw [h.1.1,h.1.2,h.2],fun h=>by cases h; exact ⟨⟨rfl,rfl⟩,rfl⟩⟩
theorem qoC {N:Nat} {s:qc} (hs:qct N s):(rem:List qcy)→(i n:Nat)→(qpt s i n rem).1.2.1.length<N
 |[],i,n=>by
  have:=hs.m
  unfold qpt qrM
  split
  ·show 0<N; omega
  ·show 0<N; omega
 |q::r,i,n=>by
  have hm:=hs.m
  unfold qpt
  split
  ·show (qdb _ _).length<N
   rw [qhc]
   by_cases h:i<s.1.length
   ·rw [List.getD_eq_getElem?_getD,List.getElem?_eq_getElem h]
    exact (hs.tab (List.getElem_mem h)).k
   ·rw [List.getD_eq_getElem?_getD,List.getElem?_eq_none (by omega)]
    show 0<N; omega
  ·split
   ·show 0<N; omega
   ·exact qoC hs r _ _
theorem qpg {N:Nat} (s:qc) (hN:0<N):(qrM s).2.1.length<N:=by
 unfold qrM
 split <;> exact hN
theorem qoG {N:Nat} {s:qc} (hs:qct N s) (inst:List qcy) (c:qhm) (n:Int):(qle s inst c n).1.2.1.length<N:=by
 have hm:=hs.m
 unfold qle
 split
 ·show 0<N; omega
 split
 ·show 0<N; omega
 split
 ·exact qpg s (by omega)
 ·exact qoC hs _ _ _
theorem qlE {N:Nat} {s:qc} {c:qhm} {b:Bool} {inst:List qcy} (hr:qdj N inst) (hl:inst.length=s.1.length):qdj N (qgX s c b inst):=by
 have key:∀r∈qgX s c b inst,∃q∈inst,r.2.1.length≤q.2.1.length∧∀x∈r.2.1,x∈q.2.1:=fun r hr=>by
  obtain ⟨i,hi,rfl⟩:=List.getElem_of_mem hr
  rw [qco] at hi
  rw [qkr hi (by omega)]
  exact ⟨_,List.getElem_mem hi,List.length_filter_le ..,fun x hx=>(List.mem_filter.1 hx).1⟩
 refine ⟨by rw [qco]; exact hr.n,fun r h=> ?_,fun r h x hx=> ?_,fun r h x hx=> ?_⟩
 ·obtain ⟨q,hq,h1,_⟩:=key r h
  have:=hr.rows q hq
  omega
 ·obtain ⟨q,hq,_,h1⟩:=key r h
  exact hr.row q hq x (h1 x hx)
 ·obtain ⟨q,hq,_,h1⟩:=key r h
  exact hr.enc q hq x (h1 x hx)
theorem out0:eqI (qcq .i64 (qk ([]:List qcy)) (qk ([]:List qcy))) 0=true:=by rw [qbE,qe,qih]; decide
theorem qrN {s:qc} {c:qhm} (h:qiR s c=0):qmG s=0:=by
 unfold qiR at h
 refine Classical.byContradiction fun q=> ?_
 rw [if_pos q] at h
 exact q h
theorem ref25 (N:Nat) (s:qc) (inst:List qcy) (c:qhm) (tn:List UInt8) (key:qcr) (n:Int) (hs:qct N s) (hr:qdj N inst) (hid:∀f∈s.2.1,(fkC f).length≤1099511627776) (hk:key.length<N) (hN:2000000≤N) (hB:N≤1000000000) (hn: -9223372036854775808≤n∧n<9223372036854775808) (htot:qfz inst≤1000000000):
  qN N (s,(inst,(c,(tn,(key,(n,()))))))=some ((true,()),()):=by
 have hst:=hs.sm.t
 have f1:=qpf N s inst c hs hr hB
 have f2:=qlv N s inst c n hs hr hB hn htot
 have f3:=qpA N s c tn key hs
 have f4:=qq7 N s c hs hid
 have f5:=qsI N hN hB
 have f6:=qhL N s c hs
 have f7:=qmE N (qle s inst c n).1 qmu (qoG hs inst c n) (by omega)
 have f8:=qoV N s (show s.1.length≤1000000000 by omega)
 have f9:=qnJ N s (show s.1.length≤1000000000 by omega)
 have f10:=qmE N (qrM s) (qrM s) (qpg s (by omega)) (by omega)
 have f11:=qg8 N s tn hst (by omega)
 have f12:=qpG N s inst hs hr
 by_cases h0:qiR s c=0
 case neg=>
  have e1:qk4 s inst c=([],([],(qiR s c,()))):=by unfold qk4; rw [if_pos h0]
  have e2:qle s inst c n=(qmu,(false,(qiR s c,()))):=by unfold qle; rw [e1,if_pos h0]
  have e3:outC s c tn key=(false,(qiR s c,())):=by unfold outC; rw [if_pos h0]
  rw [e1] at f1
  rw [e2] at f2 f7
  rw [e3] at f3
  simp only [qN,qM,f1,f2,f3,f4,f5,f6,f7,qh,qr,cond_true,Bool.not_true,Bool.not_false,Bool.false_or,Bool.or_true,Bool.and_self,Bool.and_true,neF (rfl:qiR s c=qiR s c),cond_false,neT h0,out0,eqT (rfl:qiR s c=qiR s c),decide_true]
 have hv:=qrN h0
 have hcv:∃ck:Int,(bif qA (qd5 s tn) then ((qA (qd5 s tn))&&(qA (qX N ((qP (qd5 s tn) (([]:List UInt8),(([]:List qb),(([]:List Int),())))),(key,()))))) else true)=true∧(bif qA (qd5 s tn) then (qP (qX N ((qP (qd5 s tn) (([]:List UInt8),(([]:List qb),(([]:List Int),())))),(key,()))) ((0,()),())).1.1 else 4)=ck∧outC s c tn key=(decide (ck=0)&&qrE c tn key,(ck,())):=by
  unfold outC qd5
  rw [if_neg (by omega)]
  cases hx:qgx (qcj tn) s.1 with
  |none=>exact ⟨4,by simp [qfp],by simp [qfp],rfl⟩
  |some i=>
   obtain ⟨hi,h1,_⟩:=qdp hx
   have e:(s.1[i]).1=tn:=by simpa [qcj] using h1
   have hkk:=qnc N s.1[i] key (fun k hk=>qr0 hv (List.getElem_mem hi) hk) (hs.tab (List.getElem_mem hi)).k (by omega)
   have hcs:=qoM hv h0 hi key
   rw [e] at hcs
   refine ⟨qp1 s.1[i] key,?_,?_,?_⟩
   ·simp only [Option.bind_some,List.getElem?_eq_getElem hi,qh,qr,hkk,Bool.and_self,cond_true]
   ·simp only [Option.bind_some,List.getElem?_eq_getElem hi,qh,qr,hkk,cond_true]
   ·simp only [List.getElem?_eq_getElem hi,hcs]
    by_cases h2:qp1 s.1[i] key≠0
    ·rw [if_pos h2,decide_eq_false h2]; rfl
    ·rw [if_neg h2,decide_eq_true (Classical.not_not.1 h2),Classical.not_not.1 h2]; rfl
 obtain ⟨ck,g1,g2,g3⟩:=hcv
 have f13:=qni N c tn key hk (by omega)
 rw [g3] at f3
 have l1:(neI ck ck|| !eqB (decide (ck=0)&&qrE c tn key) (eqI ck 0&&qrE c tn key))=false:=by
  rw [neF rfl,qbE,ql9]; simp
 have z0:neI (0:Int) 0=false:=neF rfl
 have z1:eqI (0:Int) 0=true:=eqT rfl
 by_cases h1:qgu s inst=0
 case neg=>
  have e1:qk4 s inst c=([],([],(qgu s inst,()))):=by unfold qk4; rw [if_neg (by omega),if_pos h1]
  have e2:qle s inst c n=(qmu,(false,(qgu s inst,()))):=by unfold qle; rw [e1,if_pos h1]
  rw [e1] at f1
  rw [e2] at f2 f7
  simp only [qN,qM,f1,f2,f3,f4,f5,f6,f7,f8,f9,f10,f11,f12,f13,h0,qh,qr,cond_true,Bool.not_true,Bool.not_false,Bool.false_or,Bool.or_true,Bool.and_self,Bool.and_true,z0,z1,cond_false,g1,g2,l1,neT h1,out0,eqT (rfl:qgu s inst=qgu s inst),decide_true]
 have hl:=(qkf h1).len
 have e1:qk4 s inst c=(qgX s c true inst,(qgX s c false inst,(0,()))):=by unfold qk4; rw [if_neg (by omega),if_neg (by omega)]
 have sa:qdj N (qgX s c true inst):=qlE hr hl
 have sb:qdj N (qgX s c false inst):=qlE hr hl
 have f14:=qkg N s inst c hs hr hv h0 h1 hB
 have f15:=qlH N _ sa.n sa.rows sa.row (show N≤1099511627776 by omega)
 have f16:=qlH N _ sb.n sb.rows sb.row (show N≤1099511627776 by omega)
 rw [e1] at f1
 by_cases h2:n<1
 ·have e2:qle s inst c n=(qmu,(false,(1,()))):=by unfold qle; rw [e1,if_neg (by simp),if_pos h2]
  have l2:ltI n 1=true:=by rw [qbF]; exact decide_eq_true h2
  rw [e2] at f2 f7
  simp only [qN,qM,f1,f2,f3,f4,f5,f6,f7,f8,f9,f10,f11,f12,f13,f14,f15,f16,h0,h1,qh,qr,cond_true,Bool.not_true,Bool.not_false,Bool.false_or,Bool.or_true,Bool.and_self,Bool.and_true,z0,z1,cond_false,g1,g2,l1,l2,eqT (rfl:(1:Int)=1),decide_true]
 ·have l2:ltI n 1=false:=by rw [qbF]; exact decide_eq_false h2
  have f17:=qrr N s inst c n hs hr hv h0 h1 hB (by omega) htot
  have f18:=qmE N (qle s inst c n).1 (qle s inst c n).1 (qoG hs inst c n) (by omega)
  have e2:(qle s inst c n).2.2.1=0:=by
   unfold qle
   rw [e1,if_neg (by simp),if_neg h2]
   split
   ·rfl
   ·have key:∀(rem:List qcy) (i m:Nat),(qpt s i m rem).2.2.1=0:=fun rem=>by
     induction rem with
     |nil=>intro i m; rfl
     |cons q r ih=>
      intro i m
      unfold qpt
      split
      ·rfl
      split
      ·rfl
      ·exact ih _ _
    exact key _ _ _
  simp only [advO] at f17
  have l3:eqB (qle s inst c n).2.1 (qle s inst c n).2.1=true:=by rw [ql9]; exact decide_eq_true rfl
  simp only [qN,qM,f1,f2,f3,f4,f5,f6,f7,f8,f9,f10,f11,f12,f13,f14,f15,f16,f17,f18,h0,h1,e2,l3,qh,qr,cond_true,Bool.not_true,Bool.not_false,Bool.false_or,Bool.or_true,Bool.and_self,Bool.and_true,z0,z1,cond_false,g1,g2,l1,l2,decide_true]
theorem law25 (x:qc×(List qcy×(qt×(List UInt8×(qcr×(Int×Unit)))))) (hg:ql6 [qL,.slice qz,qB,.str,.slice ql,.int .i64] x) (hb:qkt [qL,.slice qz,qB,.str,.slice ql,.int .i64] x≤1048576):∃N z,qN N x=some ((true,()),z):=by
 obtain ⟨s,inst,c,tn,key,n,⟨⟩⟩:=x
 have gs:TSch.good s:=hg.1
 have gr:(Ty.slice qoy).good inst:=hg.2.1
 have gn:IntKind.has .i64 n:=hg.2.2.2.2.2.1
 have hb':TSch.bulk s+((Ty.slice qoy).bulk inst+(qB.bulk c+(Ty.str.bulk tn+((Ty.slice qiO).bulk key+((Ty.int .i64).bulk n+0)))))≤1048576:=hb
 have ea:(Ty.slice qoy).bulk inst=(inst.map qoy.bulk).sum+1:=rfl
 have ia:=rin_of (b:=(inst.map qoy.bulk).sum) gr (by omega)
 have ss:qct 2000000 s:=qnH (by omega)
 have ri:qdj 2000000 inst:=qrz ia (by omega)
 have bf:∀f∈s.2.1,TFk.bulk f≤1048576:=fun f hf=>by
  obtain ⟨a,b,c,⟨⟩⟩:=s
  rw [qpb] at hb'
  have:=qiT TFk.bulk hf
  simp only at this
  omega
 have gf:∀f∈s.2.1,TFk.good f:=by
  obtain ⟨a,b,c,⟨⟩⟩:=s
  exact gs.2.1.2
 have hid:∀f∈s.2.1,(fkC f).length≤1099511627776:=fun f hf=>by have:=qtB (gf f hf); have:=bf f hf; omega
 have hk:key.length<2000000:=by
  have:=qfu qiO key
  omega
 have htot:qfz inst≤1000000000:=by
  have key:∀xs:List qcy,qfz xs≤(xs.map qoy.bulk).sum:=fun xs=>by
   induction xs with
   |nil=>exact Nat.le_refl 0
   |cons q r ih=>
    rw [qm4,List.map_cons,List.sum_cons,qpd]
    have h3:=qhX (Ty.slice qiO).bulk q.2.1 fun a _=>by
     have e:(Ty.slice qiO).bulk a=(a.map qiO.bulk).sum+1:=rfl
     omega
    omega
  have:=key inst
  omega
 have hn: -9223372036854775808≤n∧n<9223372036854775808:=by
  have gn': -9223372036854775808≤n∧n≤9223372036854775807:=by simpa [IntKind.has,IntKind.min,IntKind.max,IntKind.signed,IntKind.bits] using gn
  omega
 exact ⟨2000000,(),ref25 2000000 s inst c tn key n ss ri hid hk (by omega) (by omega) hn htot⟩
end
end Go.Proofs.YtpdhkfofjpankaaGreatDoor
