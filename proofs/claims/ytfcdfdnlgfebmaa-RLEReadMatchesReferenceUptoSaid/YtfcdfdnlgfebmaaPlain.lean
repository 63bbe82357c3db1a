import Derived.Test.YtfcdfdnlgfebmaaFns
import Derived.Test.YtfcdfdnlgfebmaaViXD
import Derived.Test.YtfcdfdnlgfebmaaViXE
set_option linter.unusedVariables false
set_option linter.unusedSimpArgs false
set_option linter.unnecessarySimpa false
set_option linter.unusedSectionVars false
set_option linter.unusedSimpArgs false
set_option maxRecDepth 100000
namespace Go.Proofs.Ytfcdfdnlgfebmaa
open Go.Vi
noncomputable section
def qhK (v:qa):Int:=
 if v.1=0 then (if v.2.1≠0∨v.2.2.1≠[] then 3 else 0)
 else if v.1=1∨v.1=2 then (if v.2.2.1≠[] then 3 else if (v.1=2∧v.2.1≠0∧v.2.1≠1)∨v.2.1< -1000000000000∨1000000000000<v.2.1 then 1 else 0)
 else if v.1=3 then (if v.2.1≠0 then 3 else if 24<(v.2.2.1.length:Int) then 2 else 0)
 else 7
theorem qgs (N:Nat) (v:qa):qam N (v,())=some ((qhK v,()),()):=by
 obtain ⟨k,n,s,_⟩:=v
 simp only [qam,qD,qqc]
 simp only [qcA,qaI,qai,qgx,qn,qhK,qp1,condB,Bool.or_eq_true,Bool.and_eq_true,Bool.not_eq_true',decide_eq_true_eq,decide_eq_false_iff_not,Bool.and_eq_false_iff,Bool.or_eq_false_iff,Bool.not_eq_false']
 grind
theorem qfd (N:Nat) (v:qa):qY N (v,())=some ((qhK v,()),()):=by
 obtain ⟨k,n,s,_⟩:=v
 simp only [qY,qD,qqc]
 simp only [qcA,qaI,qai,qgx,qn,qhK,qp1,condB,Bool.or_eq_true,Bool.and_eq_true,Bool.not_eq_true',decide_eq_true_eq,decide_eq_false_iff_not,Bool.and_eq_false_iff,Bool.or_eq_false_iff,Bool.not_eq_false']
 have hs:s=[]→(s.length:Int)=0:=by rintro rfl; rfl
 have hk:k<0∨k=0∨k=1∨k=2∨k=3∨3<k:=by omega
 rcases hk with hk|hk|hk|hk|hk|hk <;> grind
theorem eqV (u v:qa):((eqI u.1 v.1)&&((eqI u.2.1 v.2.1)&&(eqS u.2.2.1 v.2.2.1)))=decide (u=v):=by
 obtain ⟨a,b,c,_⟩:=u
 obtain ⟨a',b',c',_⟩:=v
 simp only [qcA,qgx]
 by_cases h1:a=a' <;> by_cases h2:b=b' <;> by_cases h3:c=c' <;> simp [h1,h2,h3]
theorem eqRun (u v:qb):((((eqI u.1.1 v.1.1)&&((eqI u.1.2.1 v.1.2.1)&&(eqS u.1.2.2.1 v.1.2.2.1))))&&(eqI u.2.1 v.2.1))=decide (u=v):=by
 rw [eqV,qcA]
 obtain ⟨a,b,_⟩:=u
 obtain ⟨a',b',_⟩:=v
 by_cases h1:a=a' <;> by_cases h2:b=b' <;> simp [h1,h2]
def qhy:qb:=((0,(0,([],()))),(0,()))
def bump (r:qb):qb:=(r.1,qB .i64 r.2.1 1,r.2.2)
def push (out:List qb) (v:qa):List qb:=
 if out=[] then [(v,1,())] else if (out.getLastD qhy).1=v then out.dropLast++[bump (out.getLastD qhy)] else out++[(v,1,())]
theorem qgn (out:List qb) (v:qa):(push out v).length≤out.length+1:=by
 unfold push
 split
 ·simp
 ·split
  ·simp only [List.length_append,List.length_dropLast,List.length_cons,List.length_nil]; omega
  ·simp
theorem qq7 (out:List qb) (v:qa):push out v≠[]:=by
 unfold push
 split
 ·simp
 ·split <;> simp
theorem qoa (out:List qb) (v:qa):((push out v).getLastD qhy).1=v:=by
 unfold push
 split
 ·rfl
 ·split
  ·rename_i h; simpa [bump] using h
  ·simp
theorem qdM {α:Type} {xs:List α} (h:xs≠[]) (hb:xs.length<4611686018427387904) (d:α):qt .i64 (qs xs) 1=((xs.length - 1:Nat):Int)∧qe xs (qt .i64 (qs xs) 1) d=xs.getLastD d:=by
 have hp:0<xs.length:=List.length_pos_iff.2 h
 have e:qt .i64 (qs xs) 1=((xs.length - 1:Nat):Int):=by
  rw [qd2,qn,qbj (by omega) (by omega)]
  omega
 refine ⟨e,?_⟩
 rw [e,qb2]
 simp only [Int.toNat_natCast,List.getD_eq_getElem?_getD,List.getLastD_eq_getLast?,List.getLast?_eq_getElem?]
theorem qhZ {α:Type} {xs:List α} (h:xs≠[]) (x:α):xs.set (xs.length - 1) x=xs.dropLast++[x]:=by
 obtain ⟨ys,y,rfl⟩:∃ys y,xs=ys++[y]:=⟨xs.dropLast,xs.getLast h,(List.dropLast_concat_getLast h).symm⟩
 simp
theorem qkN (N:Nat) (out:List qb) (v:qa) (hb:out.length≤2000000):qav N (out,((v,(1,())),()))=some ((push out v,()),()):=by
 have hroom:qdZ (qs out) (qs ([(v,(1,()))]:List qb)) 40=true:=by
  rw [qet,qn,qn]
  simp
  omega
 simp only [qav,qD]
 rw [qE (show eqI 1 0=false by rw [qie]; rfl)]
 by_cases h:out=[]
 ·subst h
  have h0:ltI 0 (qs ([]:List qb))=false:=by rw [qai,qn]; rfl
  simp only [h0,Bool.not_false,Bool.true_or,Bool.false_and,cond_true,cond_false,hroom,qa6,List.nil_append,push,if_true]
 ·obtain ⟨e1,e2⟩:=qdM h (by omega) qhy
  have hp:0<out.length:=List.length_pos_iff.2 h
  have h0:ltI 0 (qs out)=true:=by rw [qai,qn]; simp; omega
  have h1:inB (qt .i64 (qs out) 1) (qs out)=true:=by rw [e1,qn]; exact qfG (by omega)
  have e2':qe out (qt .i64 (qs out) 1) ((0,(0,([],()))),(0,()))=out.getLastD qhy:=e2
  simp only [h0,h1,e2',eqV,Bool.true_and,Bool.and_true,Bool.or_true,cond_true,hroom,qa6,push,if_neg h]
  by_cases hv:(out.getLastD qhy).1=v
  ·rw [qF (by simpa using hv),if_pos hv,qaN,e1,Int.toNat_natCast,qhZ h]
   rfl
  ·rw [qE (by simpa using hv),if_neg hv]
def qeZ:List qa→Int
 |[]=>0
 |v::r=>if qhK v≠0 then qhK v else qeZ r
theorem qni (N:Nat) (out:List qb):qbK N (out,())=some (if 400<out.length then ([],2,()) else (out,0,()),()):=by
 simp only [qbK,qD,qai,qn]
 by_cases h:400<out.length
 ·rw [if_pos h,qF (by simp; omega)]
 ·rw [if_neg h,qE (by simp; omega)]
def qjA (xs:List qa) (out:List qb):(List qb×Int×Unit)×Unit:=
 if qeZ xs≠0 then (([],qeZ xs,()),()) else if 400<(xs.foldl push out).length then (([],2,()),()) else ((xs.foldl push out,0,()),())
theorem qnS (N:Nat) (xs:List qa) (hN:xs.length<N) (hb:xs.length≤1048576):qbw N (xs,())=some (if 100000<xs.length then (([],2,()),()) else qjA xs []):=by
 simp only [qbw,qD]
 by_cases h:100000<xs.length
 ·rw [if_pos h,qF (by rw [qai,qn]; simp; omega)]
 ·rw [if_neg h,qE (by rw [qai,qn]; simp; omega)]
  refine qbN (S:=(List qb)×(Int×Unit)) (R:=((List qb)×(Int×Unit))×Unit) (fun p=>xs.length - p.2.1.toNat) (fun p=>∃i:Nat,p.2.1=(i:Int)∧i≤xs.length∧p.1.length≤i) (fun p=>qjA (xs.drop p.2.1.toNat) p.1) ?_ N _ ⟨0,rfl,Nat.zero_le _,Nat.le_refl _⟩ (by simp; omega)
  rintro ih ⟨out,_,_⟩ ⟨i,rfl,h2,h3⟩ hih
  simp only [Int.toNat_natCast] at hih h3⊢
  by_cases hi:i<xs.length
  ·have hg:qe xs (i:Int) (0,(0,([],())))=xs[i]:=qhU (List.getElem?_eq_getElem hi)
   rw [qF (show ltI (i:Int) (qs xs)=true by rw [qai,qn]; simp; omega),qF (show inB (i:Int) (qs xs)=true by rw [qn]; exact qfG hi)]
   simp only [hg,qgs,qkN N out xs[i] (by omega),qd,qg,cond_true,qaI]
   rw [qdC hi]
   by_cases he:qhK xs[i]=0
   ·rw [qE (by simp [he]),qae (by omega),hih _ ⟨i+1,rfl,by omega,by have:=qgn out xs[i]; simp only; omega⟩ (by simp only [Int.toNat_natCast]; omega)]
    simp only [Int.toNat_natCast,qjA,qeZ,he,ne_eq,not_true_eq_false,if_false,List.foldl_cons]
    rfl
   ·rw [qF (by simp [he])]
    simp only [qjA,qeZ,ne_eq,he,not_false_eq_true,if_true]
  ·have hi':i=xs.length:=by omega
   rw [qE (show ltI (i:Int) (qs xs)=false by rw [qai,qn]; simp; omega)]
   subst hi'
   simp only [qni,qd,qg,cond_true,List.drop_length,qjA,qeZ,ne_eq,not_true_eq_false,if_false,List.foldl_nil]
   split <;> rfl
theorem qjW (out:List qb) (v:qa) (c:Bool) (hb:out.length≤2000000) (hc:c=true↔(out=[]∨(out.getLastD qhy).1≠v)):
  (bif c then qfS out ([(v,(0,()))]:List qb) else out)≠[]∧(bif c then qfS out ([(v,(0,()))]:List qb) else out).length≤2000001∧(bif c then qfS out ([(v,(0,()))]:List qb) else out).dropLast++[bump ((bif c then qfS out ([(v,(0,()))]:List qb) else out).getLastD qhy)]=push out v:=by
 cases c with
 |true=>
  simp only [cond_true,qa6]
  refine ⟨by simp,by simp; omega,?_⟩
  have e:bump (v,(0,()))=(v,(1,())):=by
   show (v,qB .i64 0 1,())=_
   rw [qd4]
   rfl
  unfold push
  rcases hc.1 rfl with h|h
  ·subst h
   simp [e]
  ·by_cases h0:out=[]
   ·subst h0; simp [e]
   ·rw [if_neg h0,if_neg h]; simp [e]
 |false=>
  simp only [cond_false]
  have hn:¬(out=[]∨(out.getLastD qhy).1≠v):=fun h=>by have:=hc.2 h; cases this
  have h1:out≠[]:=fun h=>hn (.inl h)
  have h2:(out.getLastD qhy).1=v:=Classical.byContradiction fun h=>hn (.inr h)
  exact ⟨h1,by omega,by unfold push; rw [if_neg h1,if_pos h2]⟩
theorem ql4 (N:Nat) (xs:List qa) (hN:xs.length<N) (hb:xs.length≤1048576):qI N (xs,())=some ((xs.foldl push [],()),()):=by
 simp only [qI,qD]
 refine qbN (S:=(List qb)×(Int×Unit)) (R:=(((List qb)×Unit)×Unit)) (fun p=>xs.length - p.2.1.toNat) (fun p=>∃i:Nat,p.2.1=(i:Int)∧i≤xs.length∧p.1.length≤i∧(i=0↔p.1=[])∧∀j v,j+1=i→xs[j]? =some v→(p.1.getLastD qhy).1=v) (fun p=>(((xs.drop p.2.1.toNat).foldl push p.1,()),())) ?_ N _ ⟨0,rfl,Nat.zero_le _,Nat.le_refl _,by simp,fun j v h=>by omega⟩ (by simp; omega)
 rintro ih ⟨out,_,_⟩ ⟨i,rfl,h2,h3,h4,h5⟩ hih
 simp only [Int.toNat_natCast] at hih h3 h4 h5⊢
 by_cases hi:i<xs.length
 ·have hg:qe xs (i:Int) (0,(0,([],())))=xs[i]:=qhU (List.getElem?_eq_getElem hi)
  rw [qF (show ltI (i:Int) (qs xs)=true by rw [qai,qn]; simp; omega),qF (show inB (i:Int) (qs xs)=true by rw [qn]; exact qfG hi)]
  have hroom:qdZ (qs out) (qs ([(xs[i],(0,()))]:List qb)) 40=true:=by
   rw [qet,qn,qn]
   simp
   omega
  simp only [hg,hroom,eqV]
  rw [qF (a:=(bif (bif (eqI (i:Int) 0|| !decide (qe xs (qt .i64 (i:Int) 1) (0,(0,([],())))=xs[i])) then true else true) then _ else _))]
  ·have hc:(eqI (i:Int) 0|| !decide (qe xs (qt .i64 (i:Int) 1) (0,(0,([],())))=xs[i]))=true↔(out=[]∨(out.getLastD qhy).1≠xs[i]):=by
    rw [qcA]
    by_cases h0:i=0
    ·subst h0
     simp [h4.1 rfl]
    ·have hp:qe xs (qt .i64 (i:Int) 1) (0,(0,([],())))=xs[i - 1]:=by
      rw [qd2,qbj (by omega) (by omega),show (i:Int) - 1=((i - 1:Nat):Int) by omega]
      exact qhU (List.getElem?_eq_getElem (by omega))
     have hl:=h5 (i - 1) xs[i - 1] (by omega) (List.getElem?_eq_getElem (by omega))
     have hne:out≠[]:=fun h=>h0 (h4.2 h)
     rw [hp,hl]
     simp [hne]
     omega
   obtain ⟨q1,q2,q3⟩:=qjW out xs[i] _ (by omega) hc
   rw [qF (by cases (eqI (i:Int) 0|| !decide (qe xs (qt .i64 (i:Int) 1) (0,(0,([],())))=xs[i])) <;> rfl)]
   generalize (bif (eqI (i:Int) 0|| !decide (qe xs (qt .i64 (i:Int) 1) (0,(0,([],())))=xs[i])) then qfS out ([(xs[i],(0,()))]:List qb) else out)=ys at q1 q2 q3⊢
   obtain ⟨e1,e2⟩:=qdM q1 (by omega) qhy
   have hpos:0<ys.length:=List.length_pos_iff.2 q1
   have h1:inB (qt .i64 (qs ys) 1) (qs ys)=true:=by rw [e1,qn]; exact qfG (by omega)
   have e2':qe ys (qt .i64 (qs ys) 1) ((0,(0,([],()))),(0,()))=ys.getLastD qhy:=e2
   have e3:qaG ys (qt .i64 (qs ys) 1) ((ys.getLastD qhy).1,(qB .i64 (ys.getLastD qhy).2.1 1),(ys.getLastD qhy).2.2)=push out xs[i]:=by
    rw [qaN,e1,Int.toNat_natCast,qhZ q1,←q3]
    rfl
   simp only [h1,e2',e3,Bool.and_self,cond_true]
   rw [qae (by omega),hih _ ⟨i+1,rfl,by omega,by have:=qgn out xs[i]; simp only; omega,by simp [qq7],fun j v hj hv=> ?_⟩ (by simp only [Int.toNat_natCast]; omega)]
   ·simp only [Int.toNat_natCast]
    rw [qdC hi,List.foldl_cons]
   ·have:j=i:=by omega
    subst this
    rw [List.getElem?_eq_getElem hi] at hv
    injection hv with hv
    subst hv
    exact qoa _ _
  ·rw [qcA,Bool.not_not]
   by_cases h0:i=0
   ·subst h0; rfl
   ·rw [show inB (qt .i64 (i:Int) 1) (qs xs)=true by
     rw [qd2,qbj (by omega) (by omega),qn,show (i:Int) - 1=((i - 1:Nat):Int) by omega]
     exact qfG (by omega)]
    simp
 ·have hi':i=xs.length:=by omega
  rw [qE (show ltI (i:Int) (qs xs)=false by rw [qai,qn]; simp; omega)]
  subst hi'
  rw [List.drop_length]
  rfl
theorem qpU (N:Nat) (xs:List qb) (hN:xs.length<N) (hb:xs.length≤1048577):qT N (xs,(xs,()))=some ((true,()),()):=by
 simp only [qT,qD]
 rw [qE (by rw [qaI]; simp)]
 refine qbN (S:=Int×Unit) (R:=(Bool×Unit)×Unit) (fun p=>xs.length - p.1.toNat) (fun p=>∃i:Nat,p.1=(i:Int)∧i≤xs.length) (fun _=>((true,()),())) ?_ N _ ⟨0,rfl,Nat.zero_le _⟩ (by simp; omega)
 rintro ih ⟨_,_⟩ ⟨i,rfl,h2⟩ hih
 simp only [Int.toNat_natCast,eqRun] at hih⊢
 by_cases hi:i<xs.length
 ·rw [qF (show ltI (i:Int) (qs xs)=true by rw [qai,qn]; simp; omega),show inB (i:Int) (qs xs)=true by rw [qn]; exact qfG hi]
  simp only [Bool.and_self,cond_true,decide_true,Bool.not_true,cond_false]
  rw [qae (by omega),hih _ ⟨i+1,rfl,by omega⟩ (by simp only [Int.toNat_natCast]; omega)]
 ·rw [qE (show ltI (i:Int) (qs xs)=false by rw [qai,qn]; simp; omega)]
theorem qpE (N:Nat) (hN:10<N):qaB N ()=some ((true,()),()):=by
 have h1:qbw N (([(1,(5,([],()))),(1,(5,([],())))]:List qa),())=some (([((1,(5,([],()))),(2,()))],(0,())),()):=by
  rw [qnS N _ (by simp; omega) (by simp),if_neg (by simp)]
  have e:push (push [] (1,(5,([],())))) (1,(5,([],())))=[((1,(5,([],()))),(2,()))]:=by
   have e1:push [] (1,(5,([],())))=[((1,(5,([],()))),(1,()))]:=rfl
   rw [e1]
   unfold push
   rw [if_neg (by simp),if_pos (by simp)]
   show [((1,(5,([],()))),(qB .i64 1 1,()))]=_
   rw [qd4]
   rfl
  have v:qhK (1,(5,([],())))=0:=by simp [qhK]
  simp only [qjA,qeZ,v,List.foldl_cons,List.foldl_nil,e,ne_eq,not_true_eq_false,if_false]
  rfl
 simp only [qaB,qD,h1,qd,qg,cond_true]
 have h2:qs ([((1,(5,([],()))),(2,()))]:List qb)=1:=by rw [qn]; rfl
 have h3:∀d,qe ([((1,(5,([],()))),(2,()))]:List qb) 0 d=((1,(5,([],()))),(2,())):=fun d=>by rw [qb2]; rfl
 simp only [h2,h3,qcA,qgj]
 rfl
theorem qhc (xs:List qa):∀out:List qb,(xs.foldl push out).length≤out.length+xs.length:=by
 induction xs with
 |nil=>intro out; simp
 |cons v xs ih=>
  intro out
  have h1:=ih (push out v)
  have h2:=qgn out v
  simp only [List.foldl_cons,List.length_cons]
  omega
end
end Go.Proofs.Ytfcdfdnlgfebmaa
namespace Go.Proofs.Ytfcdfdnlgfebmaa
open Go.Vi
noncomputable section
def bumpN (r:qb) (n:Int):qb:=(r.1,qB .i64 r.2.1 n,r.2.2)
def qgi (out:List qb) (r:qb):List qb:=
 if r.2.1=0 then out else if out=[] then [r] else if (out.getLastD qhy).1=r.1 then out.dropLast++[bumpN (out.getLastD qhy) r.2.1] else out++[r]
theorem qkz (out:List qb) (r:qb):(qgi out r).length≤out.length+1:=by
 unfold qgi
 split
 ·omega
 ·split
  ·simp
  ·split
   ·simp only [List.length_append,List.length_dropLast,List.length_cons,List.length_nil]; omega
   ·simp
theorem qjT (N:Nat) (out:List qb) (r:qb) (hb:out.length≤2000000):qav N (out,(r,()))=some ((qgi out r,()),()):=by
 have hroom:qdZ (qs out) (qs ([r]:List qb)) 40=true:=qeK (by simp only [List.length_cons,List.length_nil]; omega)
 simp only [qav,qD,qcA 0,qcA r.2.1 0]
 by_cases hz:r.2.1=0
 ·rw [qF (by simp [hz]),qgi,if_pos hz]
 ·rw [qE (by simp [hz]),qgi,if_neg hz]
  by_cases h:out=[]
  ·subst h
   have h0:ltI 0 (qs ([]:List qb))=false:=by rw [qai,qn]; rfl
   simp only [h0,Bool.not_false,Bool.true_or,Bool.false_and,cond_true,cond_false,hroom,qa6,List.nil_append,if_true]
  ·obtain ⟨e1,e2⟩:=qdM h (by omega) qhy
   have hp:0<out.length:=List.length_pos_iff.2 h
   have h0:ltI 0 (qs out)=true:=by rw [qai,qn]; simp; omega
   have h1:inB (qt .i64 (qs out) 1) (qs out)=true:=by rw [e1,qn]; exact qfG (by omega)
   have e2':qe out (qt .i64 (qs out) 1) ((0,(0,([],()))),(0,()))=out.getLastD qhy:=e2
   simp only [h0,h1,e2',eqV,Bool.true_and,Bool.and_true,Bool.or_true,cond_true,hroom,qa6,if_neg h]
   by_cases hv:(out.getLastD qhy).1=r.1
   ·rw [qF (by simpa using hv),if_pos hv,qaN,e1,Int.toNat_natCast,qhZ h]
    rfl
   ·rw [qE (by simpa using hv),if_neg hv]
theorem qkE (a b c:Int):qB .i64 (qB .i64 a b) c=qB .i64 a (b+c):=by
 simp only [qd4,IntKind.wrap,IntKind.signed,IntKind.bits]
 simp
 omega
theorem qml (v:qa):∀n:Nat,n<4611686018427387904→∀out,(List.replicate n v).foldl push out=qgi out (v,(((n:Nat):Int),()))
 |0,_,out=>by simp [qgi]
 |n+1,h,out=>by
  rw [List.replicate_succ',List.foldl_append,qml v n (by omega) out,List.foldl_cons,List.foldl_nil]
  by_cases h0:n=0
  ·subst h0
   simp only [qgi,push]
   simp
   by_cases ho:out=[]
   ·simp [ho]
   ·simp only [if_neg ho]
    rfl
  ·have c1:¬((n:Nat):Int)=0:=by omega
   have c2:¬((n+1:Nat):Int)=0:=by omega
   simp only [qgi,c1,c2,if_false]
   by_cases ho:out=[]
   ·simp only [ho,if_true]
    unfold push
    rw [if_neg (by simp),if_pos (by simp)]
    show [(v,(qB .i64 ((n:Nat):Int) 1,()))]=_
    rw [qae (by omega)]
   ·simp only [if_neg ho]
    by_cases hv:(out.getLastD qhy).1=v
    ·simp only [if_pos hv]
     unfold push
     rw [if_neg (by simp),if_pos (by simpa [bumpN] using hv)]
     simp only [List.dropLast_concat,List.getLastD_concat]
     show out.dropLast++[((out.getLastD qhy).1,(qB .i64 (qB .i64 (out.getLastD qhy).2.1 ((n:Nat):Int)) 1,(out.getLastD qhy).2.2))]=_
     rw [qkE]
     rfl
    ·simp only [if_neg hv]
     unfold push
     rw [if_neg (by simp),if_pos (by simp)]
     simp only [List.dropLast_concat,List.getLastD_concat]
     show out++[(v,(qB .i64 ((n:Nat):Int) 1,()))]=_
     rw [qae (by omega)]
def q7 (xs:List qb):List qa:=xs.flatMap fun r=>List.replicate r.2.1.toNat r.1
theorem qc0:q7 []=[]:=rfl
theorem qaJ (r:qb) (xs:List qb):q7 (r::xs)=List.replicate r.2.1.toNat r.1++q7 xs:=by simp [q7]
theorem qgy (xs ys:List qb):q7 (xs++ys)=q7 xs++q7 ys:=by simp [q7]
theorem qiG:∀(ys:List qb),(∀r∈ys,0≤r.2.1∧r.2.1≤100000)→∀out,(q7 ys).foldl push out=ys.foldl qgi out
 |[],_,_=>rfl
 |(v,(n,u))::ys,h,out=>by
  have h1:=h _ (List.mem_cons_self ..)
  simp only at h1
  rw [qaJ,List.foldl_append,qml _ _ (by simp only; omega),qiG ys (fun r hr=>h r (List.mem_cons_of_mem _ hr)),List.foldl_cons]
  simp only [Int.toNat_of_nonneg h1.1]
def qlx:List qb→Option qa→Int→Int
 |[],_,_=>0
 |r::rs,prev,left=>if qhK r.1≠0 then qhK r.1 else if r.2.1<1∨left<r.2.1 then 1 else if prev=some r.1 then 3 else qlx rs (some r.1) (left - r.2.1)
def qaC (xs:List qb):Int:=if 400<xs.length then 2 else qlx xs none 100000
theorem qmW:∀(xs:List qb) (prev:Option qa) (left:Int),qlx xs prev left=0→0≤left→left≤100000→(∀r∈xs,1≤r.2.1∧r.2.1≤100000)∧((q7 xs).length:Int)≤left
 |[],_,left,_,h0,_=>⟨fun r hr=>by simp at hr,by simpa [qc0] using h0⟩
 |r::rs,prev,left,h,h0,h1=>by
  unfold qlx at h
  split at h
  ·rename_i hv; exact absurd h hv
  ·split at h
   ·exact absurd h (by decide)
   ·rename_i hn
    split at h
    ·exact absurd h (by decide)
    ·obtain ⟨k1,k2⟩:=qmW rs _ _ h (by omega) (by omega)
     refine ⟨fun q hq=> ?_,?_⟩
     ·rcases List.mem_cons.1 hq with rfl|hq
      ·omega
      ·exact k1 q hq
     ·rw [qaJ,List.length_append,List.length_replicate]
      omega
theorem qdE {xs:List qb} (h:qaC xs=0):xs.length≤400∧(∀r∈xs,1≤r.2.1∧r.2.1≤100000)∧(q7 xs).length≤100000:=by
 unfold qaC at h
 split at h
 ·exact absurd h (by decide)
 ·obtain ⟨k1,k2⟩:=qmW xs _ _ h (by decide) (by decide)
  exact ⟨by omega,k1,by omega⟩
def prv (xs:List qb) (i:Nat):Option qa:=if i=0 then none else (xs[i - 1]?).map (·.1)
theorem nb {xs:List qb} {i:Nat} (hi:i<xs.length) (hb:xs.length≤1048576) (v:qa):((!(ltI 0 (i:Int)))||inB (qt .i64 (i:Int) 1) (qs xs))=true∧((ltI 0 (i:Int))&&decide ((qe xs (qt .i64 (i:Int) 1) ((0,(0,(([]:List UInt8),()))),(0,()))).1=v))=decide (prv xs i=some v):=by
 by_cases h0:i=0
 ·subst h0
  have e:ltI 0 ((0:Nat):Int)=false:=by rw [qcN]; rfl
  simp only [e,prv,if_true]
  simp
 ·have e:ltI 0 (i:Int)=true:=by rw [qcN]; simp; omega
  have e1:qt .i64 (i:Int) 1=((i - 1:Nat):Int):=by rw [qQ (by omega) (by omega)]; omega
  rw [e,e1,qbh (by omega),qa2 _ (by omega:i - 1<xs.length)]
  simp only [prv,if_neg h0,List.getElem?_eq_getElem (by omega:i - 1<xs.length)]
  simp
theorem qmP {xs:List qb} {i:Nat} (hi:i<xs.length):prv xs (i+1)=some xs[i].1:=by
 simp [prv,List.getElem?_eq_getElem hi]
theorem qfN (N:Nat) (xs:List qb) (hN:xs.length<N) (hb:xs.length≤1048576):qaq N (xs,())=some ((qaC xs,()),()):=by
 simp only [qaq,qD]
 unfold qaC
 by_cases h:400<xs.length
 ·rw [if_pos h,qF (by rw [qai,qn]; simp; omega)]
 ·rw [if_neg h,qE (by rw [qai,qn]; simp; omega)]
  refine (qbN (S:=Int×(Int×Unit)) (R:=(Int×Unit)×Unit) (fun p=>xs.length - p.2.1.toNat) (fun p=>∃i:Nat,p.2.1=(i:Int)∧i≤xs.length∧0≤p.1∧p.1≤100000) (fun p=>((qlx (xs.drop p.2.1.toNat) (prv xs p.2.1.toNat) (100000 - p.1),()),())) ?_ N _ ⟨0,rfl,Nat.zero_le _,Int.le_refl 0,by decide⟩ (by simp; omega)).trans rfl
  rintro ih ⟨t,_,_⟩ ⟨i,rfl,h2,h3,h4⟩ hih
  simp only [Int.toNat_natCast] at hih h3 h4⊢
  by_cases hi:i<xs.length
  ·obtain ⟨n1,n2⟩:=nb hi hb xs[i].1
   rw [qF (qd9 hi),qF (qbh hi)]
   simp only [qa2 _ hi,qgs,qd,qg,cond_true,qaI,eqV,n1,n2]
   rw [qdC hi]
   unfold qlx
   by_cases he:qhK xs[i].1=0
   ·rw [qE (by simp [he]),if_neg (by simp [he]),qQ (by omega) (by omega),qcN,qcN]
    by_cases hc:xs[i].2.1<1∨100000 - t<xs[i].2.1
    ·rw [if_pos hc,qF (by simpa using hc)]
    ·rw [if_neg hc,qE (by simpa using hc)]
     by_cases hp:prv xs i=some xs[i].1
     ·rw [if_pos hp,qF (by simpa using hp)]
     ·rw [if_neg hp,qE (by simpa using hp),qae (by omega),qO (by omega) (by omega)]
      rw [hih _ ⟨i+1,rfl,by omega,by simp only; omega,by simp only; omega⟩ (by simp only [Int.toNat_natCast]; omega)]
      simp only [Int.toNat_natCast,qmP hi,show (100000:Int) - (t+xs[i].2.1)=100000 - t - xs[i].2.1 by omega]
   ·rw [qF (by simp [he]),if_pos he]
  ·have hi':i=xs.length:=by omega
   rw [qE (qds hi)]
   subst hi'
   rw [List.drop_length]
   rfl
theorem qkZ (N:Nat) (xs:List qb) (hN:xs.length<N) (hb:xs.length≤1048576):qaM N (xs,())=some ((qaC xs,()),()):=by
 simp only [qaM,qD]
 unfold qaC
 by_cases h:400<xs.length
 ·rw [if_pos h,qF (by rw [qai,qn]; simp; omega)]
 ·rw [if_neg h,qE (by rw [qai,qn]; simp; omega)]
  refine (qbN (S:=Int×(Int×Unit)) (R:=(Int×Unit)×Unit) (fun p=>xs.length - p.2.1.toNat) (fun p=>∃i:Nat,p.2.1=(i:Int)∧i≤xs.length∧0≤p.1∧p.1≤100000) (fun p=>((qlx (xs.drop p.2.1.toNat) (prv xs p.2.1.toNat) p.1,()),())) ?_ N _ ⟨0,rfl,Nat.zero_le _,by decide,by decide⟩ (by simp; omega)).trans rfl
  rintro ih ⟨t,_,_⟩ ⟨i,rfl,h2,h3,h4⟩ hih
  simp only [Int.toNat_natCast] at hih h3 h4⊢
  by_cases hi:i<xs.length
  ·obtain ⟨n1,n2⟩:=nb hi hb xs[i].1
   rw [qF (qd9 hi),qF (qbh hi)]
   simp only [qa2 _ hi,qfd,qd,qg,cond_true,qaI,eqV,n1,n2]
   rw [qdC hi]
   unfold qlx
   by_cases he:qhK xs[i].1=0
   ·rw [qE (by simp [he]),if_neg (by simp [he]),qcN,qcN]
    by_cases hc:xs[i].2.1<1∨t<xs[i].2.1
    ·rw [if_pos hc,qF (by simpa using hc)]
    ·rw [if_neg hc,qE (by simpa using hc)]
     by_cases hp:prv xs i=some xs[i].1
     ·rw [if_pos hp,qF (by simpa using hp)]
     ·rw [if_neg hp,qE (by simpa using hp),qae (by omega),qQ (by omega) (by omega)]
      rw [hih _ ⟨i+1,rfl,by omega,by simp only; omega,by simp only; omega⟩ (by simp only [Int.toNat_natCast]; omega)]
      simp only [Int.toNat_natCast,qmP hi]
   ·rw [qF (by simp [he]),if_pos he]
  ·have hi':i=xs.length:=by omega
   rw [qE (qds hi)]
   subst hi'
   rw [List.drop_length]
   rfl
theorem len_eq (N:Nat) (xs:List qb) (hN:xs.length<N) (hb:xs.length≤1048576):qdW N (xs,())=some (if qaC xs=0 then (((q7 xs).length:Int),(0,())) else (0,(qaC xs,())),()):=by
 simp only [qdW,qD,qfN N xs hN hb,qd,qg,cond_true,qaI]
 by_cases h:qaC xs=0
 ·rw [qE (by simp [h]),if_pos h]
  obtain ⟨_,k1,k2⟩:=qdE h
  refine (qbN (S:=Int×(Int×Unit)) (R:=(Int×(Int×Unit))×Unit) (fun p=>xs.length - p.2.1.toNat) (fun p=>∃i:Nat,p.2.1=(i:Int)∧i≤xs.length∧0≤p.1∧p.1+(q7 (xs.drop i)).length≤100000) (fun p=>((p.1+((q7 (xs.drop p.2.1.toNat)).length:Int),(0,())),())) ?_ N _ ⟨0,rfl,Nat.zero_le _,Int.le_refl 0,by simp only [List.drop_zero]; omega⟩ (by simp; omega)).trans ?_
  ·rintro ih ⟨t,_,_⟩ ⟨i,rfl,h2,h3,h4⟩ hih
   simp only [Int.toNat_natCast] at hih h3 h4⊢
   by_cases hi:i<xs.length
   ·have hn:=k1 xs[i] (List.getElem_mem hi)
    rw [qdC hi,qaJ,List.length_append,List.length_replicate] at h4
    rw [qF (qd9 hi),qF (qbh hi),qa2 _ hi,qae (by omega),qO (by omega) (by omega)]
    rw [hih _ ⟨i+1,rfl,by omega,by simp only; omega,by simp only; omega⟩ (by simp only [Int.toNat_natCast]; omega)]
    simp only [Int.toNat_natCast]
    rw [qdC hi,qaJ,List.length_append,List.length_replicate,show t+xs[i].2.1+((q7 (xs.drop (i+1))).length:Int)=t+((xs[i].2.1.toNat+(q7 (xs.drop (i+1))).length:Nat):Int) by omega]
   ·have hi':i=xs.length:=by omega
    rw [qE (qds hi)]
    subst hi'
    rw [List.drop_length]
    simp [qc0]
  ·simp
 ·rw [qF (by simp [h]),if_neg h]
end
end Go.Proofs.Ytfcdfdnlgfebmaa
namespace Go.Proofs.Ytfcdfdnlgfebmaa
open Go.Vi
noncomputable section
theorem qqC {α:Type} (xs:List α):qa1 xs 0 0=[]:=by
 have:=qpz xs 0
 simpa using this
theorem room_ok {n b:Nat} (h:n * b≤140737488355328):qqw (n:Int) b=true:=by
 rw [qjS]
 simp
 omega
theorem flat_snoc {α:Type} {xss:List (List α)} {i:Nat} (h:i<xss.length):(xss.take (i+1)).flatten=(xss.take i).flatten++xss[i]:=by
 rw [qdG h,List.flatten_append]
 simp
theorem flat_le {α:Type} (xss:List (List α)) (i:Nat):(xss.take i).flatten.length≤xss.flatten.length:=by
 conv=>rhs; rw [←List.take_append_drop i xss,List.flatten_append,List.length_append]
 omega
theorem qlp (xs:List qb) (i:Nat):(q7 (xs.take i)).length≤(q7 xs).length:=by
 conv=>rhs; rw [←List.take_append_drop i xs,qgy,List.length_append]
 omega
theorem qeT {xs:List qb} {i:Nat} (h:i<xs.length):q7 (xs.take (i+1))=q7 (xs.take i)++List.replicate xs[i].2.1.toNat xs[i].1:=by
 rw [qdG h,qgy,qaJ,qc0,List.append_nil]
theorem qkB (N:Nat) (xs:List qb) (hN:xs.length<N) (hx:xs.length≤1048576) (hc:∀r∈xs,1≤r.2.1∧r.2.1≤100000) (hM:100000<N) (hb:(q7 xs).length≤100000):qH N (xs,())=some ((q7 xs,()),()):=by
 simp only [qH,qD]
 refine qcC (fun i=>(q7 (xs.take i),((i:Int),()))) xs.length _ rfl ?_ ?_ hN
 ·intro i hi ih
  have h1:=qlp xs (i+1)
  rw [qeT hi,List.length_append,List.length_replicate] at h1
  have h2:=hc xs[i] (List.getElem_mem hi)
  dsimp only
  rw [qF (qd9 hi),qF (qbh hi),qa2 _ hi,qae (by omega)]
  refine qcC (fun j=>(q7 (xs.take i)++List.replicate j xs[i].1,((j:Int),()))) xs[i].2.1.toNat _ (by simp) ?_ ?_ (by omega)
  ·intro j hj ih2
   dsimp only
   rw [qF (by rw [qcN]; simp; omega),qF (qeK (by simp only [List.length_append,List.length_replicate,List.length_cons,List.length_nil]; omega)),qae (by omega),qa6,List.append_assoc,←List.replicate_succ']
  ·intro ih2
   dsimp only
   rw [qE (by rw [qcN]; simp; omega),qeT hi]
 ·intro ih
  dsimp only
  rw [qE (qds (by omega)),List.take_length]
def qpP:List qb→Int→List qb
 |[],_=>[]
 |r::rs,a=>if a<r.2.1 then (if 0<a then [(r.1,(a,()))] else []) else r::qpP rs (a - r.2.1)
def qpY:List qb→Int→List qb
 |[],_=>[]
 |r::rs,a=>if a<r.2.1 then (r.1,(r.2.1 - a,()))::rs else qpY rs (a - r.2.1)
theorem qlI:∀(xs:List qb) (a:Int),(qpP xs a).length≤xs.length
 |[],_=>Nat.le_refl _
 |r::rs,a=>by
  unfold qpP
  split
  ·split <;> simp
  ·have:=qlI rs (a - r.2.1)
   simp only [List.length_cons]; omega
theorem qlH:∀(xs:List qb) (a:Int),(qpY xs a).length≤xs.length
 |[],_=>Nat.le_refl _
 |r::rs,a=>by
  unfold qpY
  split
  ·simp
  ·have:=qlH rs (a - r.2.1)
   simp only [List.length_cons]; omega
theorem ql0:∀(xs:List qb) (a:Int),(∀r∈xs,1≤r.2.1∧r.2.1≤100000)→∀r∈qpP xs a,1≤r.2.1∧r.2.1≤100000
 |[],_,_=>fun r hr=>by simp [qpP] at hr
 |q::rs,a,h=>fun r hr=>by
  have hq:=h q (List.mem_cons_self ..)
  unfold qpP at hr
  split at hr
  ·split at hr
   ·have:=List.mem_singleton.1 hr
    subst this
    simp only; omega
   ·simp at hr
  ·rcases List.mem_cons.1 hr with rfl|hr
   ·exact hq
   ·exact ql0 rs _ (fun r hr=>h r (List.mem_cons_of_mem _ hr)) r hr
theorem qmb:∀(xs:List qb) (a:Int),0≤a→(∀r∈xs,1≤r.2.1∧r.2.1≤100000)→∀r∈qpY xs a,1≤r.2.1∧r.2.1≤100000
 |[],_,_,_=>fun r hr=>by simp [qpY] at hr
 |q::rs,a,ha,h=>fun r hr=>by
  have hq:=h q (List.mem_cons_self ..)
  unfold qpY at hr
  split at hr
  ·rcases List.mem_cons.1 hr with rfl|hr
   ·simp only; omega
   ·exact h r (List.mem_cons_of_mem _ hr)
  ·exact qmb rs _ (by omega) (fun r hr=>h r (List.mem_cons_of_mem _ hr)) r hr
theorem qlF:∀(xs:List qb) (a:Int),0≤a→(∀r∈xs,1≤r.2.1∧r.2.1≤100000)→q7 (qpP xs a)=(q7 xs).take a.toNat
 |[],_,_,_=>by simp [qpP,qc0]
 |q::rs,a,ha,h=>by
  have hq:=h q (List.mem_cons_self ..)
  unfold qpP
  rw [qaJ,List.take_append,List.length_replicate,List.take_replicate]
  split
  ·rw [show a.toNat - q.2.1.toNat=0 by omega,show min a.toNat q.2.1.toNat=a.toNat by omega,List.take_zero,List.append_nil]
   split
   ·rw [qaJ,qc0,List.append_nil]
   ·rw [show a.toNat=0 by omega]; rfl
  ·rw [qaJ,qlF rs _ (by omega) (fun r hr=>h r (List.mem_cons_of_mem _ hr)),show min a.toNat q.2.1.toNat=q.2.1.toNat by omega,show (a - q.2.1).toNat=a.toNat - q.2.1.toNat by omega]
theorem qma:∀(xs:List qb) (a:Int),0≤a→(∀r∈xs,1≤r.2.1∧r.2.1≤100000)→q7 (qpY xs a)=(q7 xs).drop a.toNat
 |[],_,_,_=>by simp [qpY,qc0]
 |q::rs,a,ha,h=>by
  have hq:=h q (List.mem_cons_self ..)
  unfold qpY
  rw [qaJ,List.drop_append,List.length_replicate,List.drop_replicate]
  split
  ·rw [qaJ,show a.toNat - q.2.1.toNat=0 by omega,List.drop_zero]
   simp only
   rw [show (q.2.1 - a).toNat=q.2.1.toNat - a.toNat by omega]
  ·rw [qma rs _ (by omega) (fun r hr=>h r (List.mem_cons_of_mem _ hr)),show q.2.1.toNat - a.toNat=0 by omega,show (a - q.2.1).toNat=a.toNat - q.2.1.toNat by omega]
   rfl
end
end Go.Proofs.Ytfcdfdnlgfebmaa
namespace Go.Proofs.Ytfcdfdnlgfebmaa
open Go.Vi
noncomputable section
theorem qi9 (N:Nat) (x y:Int):qao N (x,(y,()))=some ((ic x y,()),()):=by
 simp only [qao,qD,qai,qp1,decide_eq_true_eq,ic]
 split
 ·rfl
 ·split <;> rfl
theorem qnA (N:Nat) (a b:List UInt8):qa7 N (a,(b,()))=some ((Lib.compareBytes a b,()),()):=by
 simp only [qa7,qad,qD,qd,qg,cond_true]
theorem qjn (N:Nat) (a b:qa):qaS N (a,(b,()))=some ((vc a b,()),()):=by
 simp only [qaS,qD,qi9,qnA,qd,qg,cond_true,qaI,qp1,Bool.not_eq_true',decide_eq_false_iff_not,vc]
 split
 ·rfl
 ·split <;> rfl
theorem qo2 (N:Nat) (a b:qa):qK N (a,(b,()))=some ((decide (vc a b<0),()),()):=by
 simp only [qK,qD,qaI,qai,qj7]
 have h1:=qat a.1 b.1
 have h2:=qat a.2.1 b.2.1
 by_cases e1:a.1=b.1
 ·have f1:ic a.1 b.1=0:=by omega
  by_cases e2:a.2.1=b.2.1
  ·have f2:ic a.2.1 b.2.1=0:=by omega
   have:vc a b=Lib.compareBytes a.2.2.1 b.2.2.1:=by simp [vc,f1,f2]
   simp [e1,e2,this]
  ·have f2:ic a.2.1 b.2.1≠0:=by omega
   have h3:vc a b=ic a.2.1 b.2.1:=by simp [vc,f1,f2]
   have h4:a.2.1<b.2.1↔vc a b<0:=by omega
   simp [e1,e2,h4]
 ·have f1:ic a.1 b.1≠0:=by omega
  have h3:vc a b=ic a.1 b.1:=by simp [vc,f1]
  have h4:a.1<b.1↔vc a b<0:=by omega
  simp [e1,h4]
theorem qia (N:Nat) (xs ys:qkR) (hN:xs.length<N) (hB:N≤1099511627776):qaz N (xs,(ys,()))=some ((qaW xs ys,()),()):=by
 simp only [qaz,qD,qo2,qd,qg,cond_true,Bool.and_true]
 refine qbN (S:=Int×Unit) (R:=(Int×Unit)×Unit) (fun p=>xs.length - p.1.toNat) (fun p=>∃i:Nat,p.1=(i:Int)∧i≤xs.length∧i≤ys.length∧qaW (xs.drop i) (ys.drop i)=qaW xs ys) (fun _=>((qaW xs ys,()),())) ?_ N _ ⟨0,rfl,Nat.zero_le _,Nat.zero_le _,rfl⟩ (by simp; omega)
 rintro ih ⟨_,_⟩ ⟨i,rfl,hx,hy,he⟩ hih
 simp only [Int.toNat_natCast] at hih⊢
 by_cases h:i<xs.length∧i<ys.length
 ·obtain ⟨h1,h2⟩:=h
  rw [qd9 h1,qd9 h2,qbh h1,qbh h2,qa2 _ h1,qa2 _ h2]
  simp only [Bool.and_self,cond_true]
  rw [List.drop_eq_getElem_cons h1,List.drop_eq_getElem_cons h2,qaW] at he
  have hs:=qmj xs[i] ys[i]
  rcases qpF xs[i] ys[i] with hv|hv|hv
  ·rw [if_pos (by omega)] at he
   rw [qF (by rw [hv]; rfl),←he,hv]
  ·rw [if_neg (fun h=>h hv)] at he
   rw [qE (by rw [hv]; rfl),qE (by rw [hs,hv]; rfl),qae (by omega)]
   exact hih _ ⟨i+1,rfl,h1,h2,he⟩ (by simp only [Int.toNat_natCast]; omega)
  ·rw [if_pos (by omega)] at he
   rw [qE (by rw [hv]; rfl),qF (by rw [hs,hv]; rfl),←he,hv]
 ·rw [qE (by
   rw [qai,qai,qn,qn]
   simp only [Bool.and_eq_false_iff,decide_eq_false_iff_not]
   omega)]
  rw [qnz xs ys i h hx hy] at he
  rw [qn,qn,←he]
  have:=qat (xs.length:Int) (ys.length:Int)
  rcases this with ⟨h1,h2⟩|⟨h1,h2⟩|⟨h1,h2⟩
  ·rw [qF (by rw [qai]; simp; omega),h2]
  ·rw [qE (by rw [qai]; simp; omega),qE (by rw [qai]; simp; omega),h2]
  ·rw [qE (by rw [qai]; simp; omega),qF (by rw [qai]; simp; omega),h2]
abbrev DV:Type:=qa
theorem qnB (N:Nat) (a b:DV):qbg N (a,(b,()))=some ((decide (vc a b<0),()),()):=by
 simp only [qbg,qjn,qd,qg,cond_true,qcN]
theorem qqA (a b:DV):qaW [a] [b]=vc a b:=by
 simp only [qaW]
 by_cases h:vc a b=0
 ·simp [h,ic]
 ·simp [h]
theorem qqh (a:DV):¬vc a a<0:=by rw [(qiX a a).2 rfl]; omega
theorem vc_eq {a b:DV} (h1:¬vc a b<0) (h2:¬vc b a<0):a=b:=by
 rw [qmj a b] at h2
 exact (qiX a b).1 (by omega)
theorem qqK (N:Nat) (xs:List qb) (hN:xs.length<N) (hb:xs.length≤1048576):qdW N (xs,())=some (if qaC xs=0 then (qs (q7 xs),(0,())) else (0,(qaC xs,())),()):=by
 rw [qn]; exact len_eq N xs hN hb
theorem qop (N:Nat) (xs:List qb) (hN:xs.length<N) (hx:xs.length≤1048576) (hM:200000<N):qcc N (xs,())=some ((if qaC xs=0 then (q7 xs,(0,())) else ([],(qaC xs,()))),()):=by
 simp only [qcc,qD,qfN N xs hN hx,qd,qg,cond_true]
 by_cases hc:qaC xs=0
 ·obtain ⟨h1,h2,h3⟩:=qdE hc
  rw [if_pos hc,hc,qE (by rw [qaI]; simp)]
  refine qcC (fun i=>(q7 (xs.take i),((i:Int),()))) xs.length _ rfl ?_ ?_ hN
  ·intro i hi ih
   have h4:=qlp xs (i+1)
   rw [qeT hi,List.length_append,List.length_replicate] at h4
   have h5:=h2 xs[i] (List.getElem_mem hi)
   dsimp only
   rw [qF (qd9 hi),qF (qbh hi),qa2 _ hi,qae (by omega)]
   refine qcC (fun j=>(q7 (xs.take i)++List.replicate j xs[i].1,((j:Int),()))) xs[i].2.1.toNat _ (by simp) ?_ ?_ (by omega)
   ·intro j hj ih2
    dsimp only
    rw [qF (by rw [qcN]; simp; omega),qF (qeK (by simp only [List.length_append,List.length_replicate,List.length_cons,List.length_nil]; omega)),qae (by omega),qa6,List.append_assoc,←List.replicate_succ']
   ·intro ih2
    dsimp only
    rw [qE (by rw [qcN]; simp; omega),qeT hi]
  ·intro ih
   dsimp only
   rw [qE (qds (by omega)),List.take_length]
 ·rw [if_neg hc,qF (by rw [qaI]; simp [hc])]
abbrev qpg:DV:=(0,(0,(([]:List UInt8),())))
def ansV:Option DV→DV×(Int×Unit)
 |some v=>(v,(0,()))
 |none=>(qpg,(4,()))
def atV (vs:List DV) (i:Int):DV×(Int×Unit):=if 0≤i then ansV vs[i.toNat]? else (qpg,(4,()))
theorem at_eq (N:Nat) (xs:List qb) (i:Int) (hN:xs.length<N) (hx:xs.length≤1048576) (hi1:i<9223372036854775808):qbn N (xs,(i,()))=some ((if qaC xs=0 then atV (q7 xs) i else (qpg,(qaC xs,()))),()):=by
 simp only [qbn,qD,qfN N xs hN hx,qd,qg,cond_true]
 by_cases hc:qaC xs=0
 ·obtain ⟨h1,h2,h3⟩:=qdE hc
  rw [if_pos hc,hc,qE (by rw [qaI]; simp)]
  unfold atV
  by_cases hi:0≤i
  ·rw [if_pos hi,qF (by rw [qaT]; exact decide_eq_true hi)]
   obtain ⟨n,rfl⟩:∃n:Nat,i=(n:Int):=⟨i.toNat,by omega⟩
   simp only [Int.toNat_natCast]
   refine qP (S:=Int×(DV×(Int×Unit))) (fun p=>xs.length - p.2.2.1.toNat) (fun p=>∃k m:Nat,p.2.2.1=(k:Int)∧k≤xs.length∧p.1=(m:Int)∧p.2.1=qpg∧(q7 xs)[n]? =(q7 (xs.drop k))[m]? ∧m≤n)
    (fun r=>r=some (ansV (q7 xs)[n]?,())) ?_ N ((n:Int),(qpg,(0,()))) ⟨0,n,rfl,Nat.zero_le _,rfl,rfl,by simp,Nat.le_refl _⟩ (by simp; omega)
   rintro ih ⟨_,_,_,⟨⟩⟩ ⟨k,m,rfl,hk,rfl,rfl,he,hmn⟩ hih
   simp only at hih⊢
   by_cases hkl:k<xs.length
   ·have h5:=h2 xs[k] (List.getElem_mem hkl)
    have hd:xs.drop k=xs[k]::xs.drop (k+1):=List.drop_eq_getElem_cons hkl
    rw [hd,qaJ] at he
    simp only [qd9 hkl,qbh hkl,cond_true,qa2 _ hkl,qae (show k<4611686018427387904 by omega)]
    by_cases hm:(m:Int)<xs[k].2.1
    ·rw [ltT hm,cond_true,he,List.getElem?_append_left (by rw [List.length_replicate]; omega)]
     rw [List.getElem?_replicate,if_pos (by omega)]
     rfl
    ·rw [ltF hm,cond_false]
     have es:qt .i64 (m:Int) xs[k].2.1=((m - xs[k].2.1.toNat:Nat):Int):=by rw [qQ (by omega) (by omega)]; omega
     rw [es]
     refine hih _ ⟨k+1,m - xs[k].2.1.toNat,rfl,by omega,rfl,rfl,?_,by omega⟩ (by simp only [Int.toNat_natCast]; omega)
     rw [he,List.getElem?_append_right (by rw [List.length_replicate]; omega),List.length_replicate]
   ·have hke:k=xs.length:=by omega
    subst hke
    rw [List.drop_length,qc0] at he
    rw [qE (qds (Nat.lt_irrefl _)),he]
    rfl
  ·rw [if_neg hi,qE (by rw [qaT]; exact decide_eq_false hi)]
 ·rw [if_neg hc,qF (by rw [qaI]; simp [hc])]
theorem qlU {l1:List DV} : {l2:List DV} →l1.Perm l2→l1.Pairwise (fun a b=>¬vc b a<0)→l2.Pairwise (fun a b=>¬vc b a<0)→l1=l2:=by
 induction l1 with
 |nil=>intro l2 hp _ _; exact hp.symm.eq_nil.symm
 |cons x l1 ih=>
  intro l2 hp h1 h2
  cases l2 with
  |nil=>exact absurd hp.eq_nil (by simp)
  |cons y l2=>
   have c1:=List.pairwise_cons.1 h1
   have c2:=List.pairwise_cons.1 h2
   have hxy:x=y:=by
    rcases List.mem_cons.1 (hp.mem_iff.1 (List.mem_cons_self:x∈x::l1)) with e|hx
    ·exact e
    ·rcases List.mem_cons.1 (hp.mem_iff.2 (List.mem_cons_self:y∈y::l2)) with e|hy
     ·exact e.symm
     ·exact vc_eq (c2.1 x hx) (c1.1 y hy)
   subst hxy
   rw [ih (List.Perm.cons_inv hp) c1.2 c2.2]
abbrev phiH (N:Nat):(qb×(qb×Unit))→Option (Int×Unit):=fun x4=>(qh7 (fun y5:((Int×Unit)×Unit)=>(y5.1.1,())) (qaP N (x4.1,(x4.2.1,()))))
theorem qkx {a b c:DV} (h1:¬vc b a<0) (h2:¬vc c b<0):¬vc c a<0:=fun h3=>by
 by_cases e:vc a b<0
 ·exact h2 (qko h3 e)
 ·rw [vc_eq e h1] at h3; exact h2 h3
theorem qoB (a b:DV):¬vc b a<0∨¬vc a b<0:=by
 by_cases h:vc b a<0
 ·right; intro h2; exact qqh _ (qko h h2)
 ·exact .inl h
theorem cmpH (N:Nat):Cmp (fun _:qb=>True) (phiH N) (fun a b=>¬vc b.1 a.1<0) where
 ans a b _ _:=⟨vc a.1 b.1,by simp only [phiH,qaP,qjn,qd,qg,cond_true,qcx,Option.map_some],by simp⟩
 tot a b _ _:=qoB a.1 b.1
 trans a b c _ _ _ h1 h2:=qkx h1 h2
abbrev phiW (N:Nat):(DV×(DV×Unit))→Option (Int×Unit):=fun x25=>(qh7 (fun y26:((Int×Unit)×Unit)=>(y26.1.1,())) (qx N (x25.1,(x25.2.1,()))))
theorem cmpW (N:Nat) (hN:10<N) (hB:N≤1099511627776):Cmp (fun _:DV=>True) (phiW N) (fun a b=>¬vc b a<0) where
 ans a b _ _:=⟨vc a b,by simp only [phiW,qx,qia N [a] [b] (by simp; omega) hB,qqA,qd,qg,cond_true,qcx,Option.map_some],by simp⟩
 tot a b _ _:=qoB a b
 trans a b c _ _ _ h1 h2:=qkx h1 h2
theorem lenOk (N:Nat):qnj (qau N):=fun k hk=>by
 obtain ⟨e,h1,h2⟩:=qn0 k hk
 refine ⟨e,?_,h2⟩
 have h1':qbH N ((k:Int),())=some (((e:Int),()),()):=h1
 simp only [qau,h1',qd,qg,cond_true]
theorem pw_of {α:Type} {le:α→α→Prop} {d:α} {xs:List α} (h:Srt d le 0 (xs.length:Int) xs):xs.Pairwise le:=List.pairwise_iff_getElem.2 fun i j hi hj hij=>by
 have:=h i j (by omega) (by omega) (by omega)
 rwa [qa2 _ hi,qa2 _ hj] at this
theorem qqQ (N:Nat) (xs:List qb) (hN:2 * xs.length+200<N) (hx:xs.length≤1048576):∃S:List qb,S.Perm xs∧S.Pairwise (fun a b=>¬vc b.1 a.1<0)∧qbc N (xs,())=some ((if qaC xs=0 then (S.foldl qgi [],(0,())) else ([],(qaC xs,()))),()):=by
 obtain ⟨S,s1,s2,s3⟩:=qnb (N:=N) (qpg,(0,())) (cmpH N) (xs:=xs) (by omega) (by omega) (fun _ _=>trivial)
 have hl:=s2.length_eq
 refine ⟨S,s2,pw_of (by rw [hl]; exact s3),?_⟩
 have s1':qaj N (xs,((fun x4=>(qh7 (fun y5:((Int×Unit)×Unit)=>(y5.1.1,())) (qaP N (x4.1,(x4.2.1,()))))),()))=some ((),(S,())):=s1
 have cl:qaY N (xs,())=some ((xs,()),()):=qoZ xs 40 (by omega)
 simp only [qbc,qD,qfN N xs (by omega) hx,cl,s1',qd,qg,cond_true]
 by_cases hc:qaC xs=0
 ·rw [if_pos hc,hc,qE (by rw [qaI]; simp)]
  have plen:∀(l:List qb) (out:List qb),(l.foldl qgi out).length≤out.length+l.length:=fun l=>by
   induction l with
   |nil=>intro out; simp
   |cons r l ih=>
    intro out
    have h1:=ih (qgi out r)
    have h2:=qkz out r
    rw [List.foldl_cons,List.length_cons]; omega
  refine qcC (fun i=>((S.take i).foldl qgi [],((i:Int),()))) S.length _ rfl ?_ ?_ (by omega)
  ·intro i hi ih
   have h4:=plen (S.take i) []
   rw [List.length_take] at h4
   dsimp only
   rw [qF (qd9 hi),qF (qbh hi),qa2 _ hi,qae (by omega),qjT N _ _ (by simp at h4; omega)]
   simp only [qd,qg,cond_true]
   rw [qdG hi,List.foldl_append]
   rfl
  ·intro ih
   dsimp only
   rw [qE (qds (by omega)),List.take_length]
 ·rw [if_neg hc,qF (by rw [qaI]; simp [hc])]
theorem qjV {S:List qb} (h:S.Pairwise (fun a b=>¬vc b.1 a.1<0)):(q7 S).Pairwise (fun a b=>¬vc b a<0):=by
 unfold q7
 rw [List.pairwise_flatMap]
 refine ⟨fun r _=> ?_,h.imp fun {a b} hab x hx y hy=> ?_⟩
 ·rw [List.pairwise_replicate]
  exact .inr (qqh _)
 ·rw [List.eq_of_mem_replicate hx,List.eq_of_mem_replicate hy]; exact hab
abbrev DI:Type:=Int×(Int×Unit)
def inR (lo hi v:DV):Bool:= !decide (vc v lo<0)&& !decide (vc hi v<0)
def qqe (r:DI):Int:=qB .i64 r.1 r.2.1
def qf9 (out:List DI) (st n:Int):List DI:=if out≠[]∧qqe (out.getLastD (0,(0,())))=st then out.dropLast++[((out.getLastD (0,(0,()))).1,(qB .i64 (out.getLastD (0,(0,()))).2.1 n,()))] else out++[(st,(n,()))]
theorem qkA (out:List DI) (st n:Int):(qf9 out st n).length≤out.length+1:=by
 unfold qf9
 split
 ·simp only [List.length_append,List.length_dropLast,List.length_cons,List.length_nil]; omega
 ·simp
theorem qm4 (a b c:Int):qB .i64 a (qB .i64 b c)=qB .i64 a (b+c):=by
 simp only [qd4,IntKind.wrap,IntKind.signed,IntKind.bits]
 simp
 omega
theorem qhT (a b c:Int):qB .i64 (qB .i64 a b) c=qB .i64 a (qB .i64 b c):=by rw [qkE,qm4]
theorem qpD (out:List DI) (st n:Int):qf9 out st n≠[]:=by unfold qf9; split <;> simp
theorem qoK (out:List DI) (st n:Int):qqe ((qf9 out st n).getLastD (0,(0,())))=qB .i64 st n:=by
 unfold qf9
 split
 ·rename_i h
  rw [List.getLastD_concat]
  simp only [qqe]
  rw [←h.2,qqe,qhT]
 ·rw [List.getLastD_concat]; rfl
theorem qob (out:List DI) (st n m:Int):qf9 (qf9 out st n) (qB .i64 st n) m=qf9 out st (qB .i64 n m):=by
 rw [qf9,if_pos ⟨qpD _ _ _,qoK _ _ _⟩]
 unfold qf9
 by_cases h:out≠[]∧qqe (out.getLastD (0,(0,())))=st
 ·rw [if_pos h,if_pos h]
  simp [qhT]
 ·rw [if_neg h,if_neg h]
  simp
def qnK (lo hi:DV) (p:List DI×Int) (r:qb):List DI×Int:=(if inR lo hi r.1=true then qf9 p.1 p.2 r.2.1 else p.1,qB .i64 p.2 r.2.1)
def qlC (lo hi:DV) (p:List DI×Int) (v:DV):List DI×Int:=(if inR lo hi v=true then qf9 p.1 p.2 1 else p.1,qB .i64 p.2 1)
theorem qoq (lo hi:DV) (v:DV) (p:List DI×Int):(n:Nat)→n<4611686018427387904→1≤n→(List.replicate n v).foldl (qlC lo hi) p=qnK lo hi p (v,((n:Int),()))
 |0,_,h=>by omega
 |1,_,_=>rfl
 |n+2,hn,_=>by
  rw [List.replicate_succ',List.foldl_append,qoq lo hi v p (n+1) (by omega) (by omega),List.foldl_cons,List.foldl_nil]
  have e:qB .i64 ((n+1:Nat):Int) 1=((n+2:Nat):Int):=qae (by omega)
  simp only [qlC,qnK]
  by_cases q:inR lo hi v=true
  ·simp only [q,if_true,qob,e,qhT]
  ·simp only [q,if_false,Bool.false_eq_true,e,qhT]
theorem qjp (lo hi:DV):(xs:List qb)→(∀r∈xs,1≤r.2.1∧r.2.1≤100000)→∀p,(q7 xs).foldl (qlC lo hi) p=xs.foldl (qnK lo hi) p
 |[],_,p=>rfl
 |r::xs,h,p=>by
  have hr:=h r List.mem_cons_self
  rw [qaJ,List.foldl_append,qoq lo hi r.1 p r.2.1.toNat (by omega) (by omega),List.foldl_cons,qjp lo hi xs fun x hx=>h x (List.mem_cons_of_mem _ hx)]
  congr 2
  obtain ⟨a,b,⟨⟩⟩:=r
  simp only at hr⊢
  congr 2
  omega
theorem qmx (lo hi:DV):(xs:List qb)→(p:List DI×Int)→(xs.foldl (qnK lo hi) p).1.length≤p.1.length+xs.length
 |[],p=>by simp
 |r::xs,p=>by
  have h1:=qmx lo hi xs (qnK lo hi p r)
  have h2:(qnK lo hi p r).1.length≤p.1.length+1:=by
   unfold qnK
   simp only
   split
   ·exact qkA _ _ _
   ·omega
  rw [List.foldl_cons,List.length_cons]; omega
theorem qkp (lo hi:DV):(vs:List DV)→(p:List DI×Int)→(vs.foldl (qlC lo hi) p).1.length≤p.1.length+vs.length
 |[],p=>by simp
 |r::xs,p=>by
  have h1:=qkp lo hi xs (qlC lo hi p r)
  have h2:(qlC lo hi p r).1.length≤p.1.length+1:=by
   unfold qlC
   simp only
   split
   ·exact qkA _ _ _
   ·omega
  rw [List.foldl_cons,List.length_cons]; omega
theorem qmS (lo hi:DV):(vs:List DV)→(out:List DI)→(k:Nat)→k+vs.length<4611686018427387904→(vs.foldl (qlC lo hi) (out,(k:Int))).2=((k+vs.length:Nat):Int)
 |[],out,k,_=>by simp
 |v::vs,out,k,h=>by
  rw [List.length_cons] at h
  rw [List.foldl_cons]
  have e:qlC lo hi (out,(k:Int)) v=((qlC lo hi (out,(k:Int)) v).1,((k+1:Nat):Int)):=by
   simp only [qlC]; rw [qae (by omega)]
  rw [e,qmS lo hi vs _ (k+1) (by omega),List.length_cons]
  congr 1; omega
theorem qk9 (out:List DI) (st:Int) (hb:out.length≤4000000):((ltI 0 (qs out))&&(eqI (qB .i64 (qe out (qt .i64 (qs out) 1) (0,(0,()))).1 (qe out (qt .i64 (qs out) 1) (0,(0,()))).2.1) st))=decide (out≠[]∧qqe (out.getLastD (0,(0,())))=st):=by
 by_cases h:out=[]
 ·subst h
  have:ltI 0 (qs ([]:List DI))=false:=by rw [qn]; exact ltF (by simp)
  rw [this]; simp
 ·obtain ⟨h1,h2⟩:=qdM h (by omega) ((0,(0,())):DI)
  have h0:ltI 0 (qs out)=true:=by
   rw [qn]
   have:0<out.length:=List.length_pos_iff.2 h
   exact ltT (by omega)
  rw [h0,h2,Bool.true_and,qcA]
  exact decide_eq_decide.2 ⟨fun e=>⟨h,e⟩,fun e=>e.2⟩
theorem qoR (out:List DI) (hb:out.length≤4000000):((!(ltI 0 (qs out)))||(inB (qt .i64 (qs out) 1) (qs out)))=true:=by
 by_cases h:out=[]
 ·subst h
  have:ltI 0 (qs ([]:List DI))=false:=by rw [qn]; exact ltF (by simp)
  rw [this]; rfl
 ·obtain ⟨h1,_⟩:=qdM h (by omega) ((0,(0,())):DI)
  have h0:0<out.length:=List.length_pos_iff.2 h
  rw [h1,qbh (by omega),Bool.or_true]
theorem qmm (out:List DI) (hb:out.length≤4000000) (h:out≠[]):inB (qt .i64 (qs out) 1) (qs out)=true:=by
 obtain ⟨h1,_⟩:=qdM h (by omega) ((0,(0,())):DI)
 have h0:0<out.length:=List.length_pos_iff.2 h
 rw [h1,qbh (by omega)]
theorem qmq (out:List DI) (n:Int) (hb:out.length≤4000000) (h:out≠[]):qaG out (qt .i64 (qs out) 1) ((qe out (qt .i64 (qs out) 1) (0,(0,()))).1,((qB .i64 (qe out (qt .i64 (qs out) 1) (0,(0,()))).2.1 n),(qe out (qt .i64 (qs out) 1) (0,(0,()))).2.2))=out.dropLast++[((out.getLastD (0,(0,()))).1,(qB .i64 (out.getLastD (0,(0,()))).2.1 n,()))]:=by
 obtain ⟨h1,h2⟩:=qdM h (by omega) ((0,(0,())):DI)
 rw [h2,h1,qaN,Int.toNat_natCast,qhZ h]
def qpj (xs:List qb) (lo hi:DV):List DI×(Int×Unit):=if qaC xs≠0 then ([],(qaC xs,())) else if qhK lo≠0 then ([],(qhK lo,())) else if qhK hi≠0 then ([],(qhK hi,())) else ((xs.foldl (qnK lo hi) ([],0)).1,(0,()))
theorem three {R:Type} {N:Nat} (hN:3≤N) (st:(Int×Unit→Option R)→Int×Unit→Option R) (r:Option R) (c0:(∀ih,st ih (0,())=r)∨((∀ih,st ih (0,())=ih (1,()))∧((∀ih,st ih (1,())=r)∨((∀ih,st ih (1,())=ih (2,()))∧∀ih,st ih (2,())=r)))):qac N st (0,())=r:=by
 obtain ⟨M,rfl⟩:∃M,N=M+3:=⟨N - 3,by omega⟩
 rw [qaH]
 rcases c0 with h|⟨h,h1|⟨h1,h2⟩⟩
 ·exact h _
 ·rw [h,qaH,h1]
 ·rw [h,qaH,h1,qaH,h2]
theorem qn2 (N:Nat) (xs:List qb) (lo hi:DV) (hN:xs.length+10<N) (hx:xs.length≤1048576):qcd N (xs,(lo,(hi,())))=some (qpj xs lo hi,()):=by
 simp only [qcd,qD,qfN N xs (by omega) hx,qd,qg,cond_true]
 unfold qpj
 by_cases hc:qaC xs≠0
 ·rw [if_pos hc,qF (by rw [qaI]; simp [hc])]
 have hc0:qaC xs=0:=by omega
 obtain ⟨c1,c2,c3⟩:=qdE hc0
 rw [if_neg hc,hc0,qE (by rw [qaI]; simp)]
 have l0:ltI 0 2=true:=ltT (by omega)
 have l1:ltI 1 2=true:=ltT (by omega)
 have l2:ltI 2 2=false:=ltF (by omega)
 have b0:inB 0 2=true:=by rw [qef]; simp
 have b1:inB 1 2=true:=by rw [qef]; simp
 have g0:∀p q:DV,qe [p,q] 0 qpg=p:=fun p q=>by rw [qb2]; rfl
 have g1:∀p q:DV,qe [p,q] 1 qpg=q:=fun p q=>by rw [qb2]; rfl
 have a0:qB .i64 0 1=1:=qae (i:=0) (by omega)
 have a1:qB .i64 1 1=2:=qae (i:=1) (by omega)
 have nT:∀ {k:Int},k≠0→neI k 0=true:=fun h=>by rw [qaI]; simp [h]
 have nF:∀ {k:Int},k=0→neI k 0=false:=fun h=>by rw [qaI]; simp [h]
 refine three (by omega) _ _ ?_
 simp only [qgs,l0,l1,l2,b0,b1,g0,g1,a0,a1,qd,qg,cond_true,cond_false]
 by_cases h1:qhK lo≠0
 ·left; intro ih; rw [if_pos h1,nT h1]; rfl
 right
 rw [if_neg h1]
 refine ⟨fun ih=>by rw [nF (by omega:qhK lo=0)]; rfl,?_⟩
 by_cases h2:qhK hi≠0
 ·left; intro ih; rw [if_pos h2,nT h2]; rfl
 right
 rw [if_neg h2]
 refine ⟨fun ih=>by rw [nF (by omega:qhK hi=0)]; rfl,fun ih=> ?_⟩
 refine qcC (S:=List DI×(Int×(Int×Unit))) (fun i=>(((xs.take i).foldl (qnK lo hi) ([],0)).1,(((xs.take i).foldl (qnK lo hi) ([],0)).2,((i:Int),())))) xs.length _ rfl (fun i hi' ih=> ?_) (fun ih=> ?_) (by omega)
 ·have hl:=qmx lo hi (xs.take i) ([],0)
  rw [List.length_take] at hl
  rw [qdG hi',List.foldl_append,List.foldl_cons,List.foldl_nil]
  generalize (xs.take i).foldl (qnK lo hi) ([],0)=p at *
  obtain ⟨out,st⟩:=p
  simp only [List.length_nil] at hl
  have hol:out.length≤4000000:=by omega
  have rm:∀c:DI,qdZ (qs out) (qs ([c]:List DI)) 16=true:=fun c=>qeK (by simp; omega)
  simp only [qd9 hi',qbh hi',cond_true,qa2 _ hi',qnB,qd,qg,Bool.or_true,Bool.and_self,qk9 out st hol,qoR out hol,Bool.true_and,rm,qae (show i<4611686018427387904 by omega)]
  have er:(!decide (vc (xs[i]).1 lo<0)&& !decide (vc hi (xs[i]).1<0))=inR lo hi (xs[i]).1:=rfl
  rw [er]
  unfold qnK qf9
  by_cases q:inR lo hi (xs[i]).1=true
  ·by_cases q2:out≠[]∧qqe (out.getLastD (0,(0,())))=st
   ·simp only [q,if_true,decide_eq_true q2,if_pos q2,cond_true,qmm out hol q2.1,Bool.and_self,qmq out _ hol q2.1]
   ·simp only [q,if_true,decide_eq_false q2,if_neg q2,cond_true,cond_false,qa6]
  ·have q':inR lo hi (xs[i]).1=false:=by simpa using q
   simp only [q',Bool.false_eq_true,if_false,cond_true,cond_false]
 ·simp only
  rw [qE (qds (Nat.lt_irrefl _)),List.take_length]
theorem equalI (N:Nat) (xs:List DI) (hN:xs.length<N) (hb:xs.length≤1048577):qaf N (xs,(xs,()))=some ((true,()),()):=by
 simp only [qaf,qD]
 rw [qE (by rw [qaI]; simp)]
 refine qcC (S:=Int×Unit) (fun i=>((i:Int),())) xs.length _ rfl (fun i hi ih=> ?_) (fun ih=> ?_) hN
 ·have e:∀k:Int,eqI k k=true:=fun k=>eqT rfl
  simp only [qd9 hi,qbh hi,qa2 _ hi,e,Bool.and_self,cond_true,Bool.not_true,cond_false,qae (show i<4611686018427387904 by omega)]
 ·simp only
  rw [qE (qds (Nat.lt_irrefl _))]
theorem qlK (N:Nat) (xs:List qb) (lo hi:DV) (hN:200000<N) (hx:xs.length≤1048576) (hxN:xs.length<N) (hc:qaC xs=0):qZ N (xs,(lo,(hi,((qpj xs lo hi).1,((qpj xs lo hi).2.1,())))))=some ((true,()),()):=by
 obtain ⟨c1,c2,c3⟩:=qdE hc
 have hex:=qkB N xs hxN hx c2 (by omega) c3
 simp only [qZ,qD]
 have l0:ltI 0 2=true:=ltT (by omega)
 have l1:ltI 1 2=true:=ltT (by omega)
 have l2:ltI 2 2=false:=ltF (by omega)
 have b0:inB 0 2=true:=by rw [qef]; simp
 have b1:inB 1 2=true:=by rw [qef]; simp
 have g0:∀p q:DV,qe [p,q] 0 qpg=p:=fun p q=>by rw [qb2]; rfl
 have g1:∀p q:DV,qe [p,q] 1 qpg=q:=fun p q=>by rw [qb2]; rfl
 have a0:qB .i64 0 1=1:=qae (i:=0) (by omega)
 have a1:qB .i64 1 1=2:=qae (i:=1) (by omega)
 have nT:∀ {k:Int},k≠0→neI k 0=true:=fun h=>by rw [qaI]; simp [h]
 have nF:∀ {k:Int},k=0→neI k 0=false:=fun h=>by rw [qaI]; simp [h]
 have ee:∀k:Int,eqI k k=true:=fun k=>eqT rfl
 have e0:eqI (qs ([]:List DI)) 0=true:=by rw [qn]; exact eqT rfl
 refine three (by omega) _ _ ?_
 simp only [qfd,l0,l1,l2,b0,b1,g0,g1,a0,a1,qd,qg,cond_true,cond_false]
 unfold qpj
 rw [if_neg (by omega)]
 by_cases h1:qhK lo≠0
 ·left; intro ih; rw [if_pos h1,nT h1]; simp only [cond_true,e0,ee,Bool.and_self]
 right
 rw [if_neg h1]
 refine ⟨fun ih=>by rw [nF (by omega:qhK lo=0)]; rfl,?_⟩
 by_cases h2:qhK hi≠0
 ·left; intro ih; rw [if_pos h2,nT h2]; simp only [cond_true,e0,ee,Bool.and_self]
 right
 rw [if_neg h2]
 refine ⟨fun ih=>by rw [nF (by omega:qhK hi=0)]; rfl,fun ih=> ?_⟩
 simp only [hex,qd,qg,cond_true]
 rw [←qjp lo hi xs c2]
 generalize q7 xs=vs at *
 refine qcC (S:=List DI×(Int×Unit)) (fun i=>(((vs.take i).foldl (qlC lo hi) ([],0)).1,((i:Int),()))) vs.length _ rfl (fun i hi' ih=> ?_) (fun ih=> ?_) (by omega)
 ·have hl:=qkp lo hi (vs.take i) ([],0)
  rw [List.length_take] at hl
  have hpos:=qmS lo hi (vs.take i) [] 0 (by rw [List.length_take]; omega)
  rw [List.length_take,Nat.min_eq_left (Nat.le_of_lt hi'),Nat.zero_add] at hpos
  have hpos':((vs.take i).foldl (qlC lo hi) ([],0)).2=(i:Int):=hpos
  rw [qdG hi',List.foldl_append,List.foldl_cons,List.foldl_nil]
  generalize (vs.take i).foldl (qlC lo hi) ([],0)=p at *
  obtain ⟨out,st⟩:=p
  simp only [List.length_nil] at hl hpos'
  subst hpos'
  have hol:out.length≤4000000:=by omega
  have rm:∀c:DI,qdZ (qs out) (qs ([c]:List DI)) 16=true:=fun c=>qeK (by simp; omega)
  simp only [qd9 hi',qbh hi',cond_true,qa2 _ hi',qo2,qd,qg,Bool.or_true,Bool.and_self,qk9 out _ hol,qoR out hol,Bool.true_and,rm,qae (show i<4611686018427387904 by omega)]
  have er:(decide (vc vs[i] lo<0)||decide (vc hi vs[i]<0))= !inR lo hi vs[i]:=by unfold inR; simp
  rw [er]
  unfold qlC qf9
  by_cases q:inR lo hi vs[i]=true
  ·by_cases q2:out≠[]∧qqe (out.getLastD (0,(0,())))=(i:Int)
   ·simp only [q,if_true,decide_eq_true q2,if_pos q2,cond_true,cond_false,Bool.not_true,qmm out hol q2.1,Bool.and_self,qmq out _ hol q2.1,qae (show i<4611686018427387904 by omega)]
   ·simp only [q,if_true,decide_eq_false q2,if_neg q2,cond_true,cond_false,Bool.not_true,qa6,qae (show i<4611686018427387904 by omega)]
  ·have q':inR lo hi vs[i]=false:=by simpa using q
   simp only [q',Bool.not_false,cond_true,Bool.false_eq_true,if_false]
 ·simp only
  rw [qE (qds (Nat.lt_irrefl _)),List.take_length]
  have hl:=qkp lo hi vs ([],0)
  simp only [List.length_nil,Nat.zero_add] at hl
  have eqq:=equalI N (vs.foldl (qlC lo hi) ([],0)).1 (by omega) (by omega)
  simp only [eqq,ee,qd,qg,Bool.or_true,cond_true,Bool.and_self]
theorem equalV (N:Nat) (xs:List DV) (hN:xs.length<N) (hb:xs.length≤1048577):qar N (xs,(xs,()))=some ((true,()),()):=by
 simp only [qar,qD]
 rw [qE (by rw [qaI]; simp)]
 refine qcC (S:=Int×Unit) (fun i=>((i:Int),())) xs.length _ rfl (fun i hi ih=> ?_) (fun ih=> ?_) hN
 ·have e:∀k:Int,eqI k k=true:=fun k=>eqT rfl
  have es:∀k:List UInt8,eqS k k=true:=fun k=>by rw [qgx]; simp
  simp only [qd9 hi,qbh hi,qa2 _ hi,e,es,Bool.and_self,cond_true,Bool.not_true,cond_false,qae (show i<4611686018427387904 by omega)]
 ·simp only
  rw [qE (qds (Nat.lt_irrefl _))]
theorem law18 (N:Nat) (xs:List qb) (i:Int) (lo hi:DV) (hN:5000000<N) (hB:N≤1000000000) (hx:xs.length≤1048576) (h0: -9223372036854775808≤i) (h1:i<9223372036854775808):qU N (xs,(i,(lo,(hi,()))))=some ((true,()),()):=by
 have d:=qop N xs (by omega) hx (by omega)
 have l:=qqK N xs (by omega) hx
 have a:=at_eq N xs i (by omega) hx h1
 have se:=qn2 N xs lo hi (by omega) hx
 obtain ⟨S,s1,s2,hs⟩:=qqQ N xs (by omega) hx
 have ck:=qkZ N xs (by omega) hx
 have ck2:=qfN N xs (by omega) hx
 have wk:=qpE N (by omega)
 have ee:∀k:Int,eqI k k=true:=fun k=>eqT rfl
 have ne:∀k:Int,neI k k=false:=fun k=>neF rfl
 have es:eqS ([]:List UInt8) []=true:=by rw [qgx]; simp
 by_cases hc:qaC xs=0
 ·obtain ⟨c1,c2,c3⟩:=qdE hc
  have hsv:qpj xs lo hi=((qpj xs lo hi).1,((qpj xs lo hi).2.1,())):=rfl
  have sm:=qlK N xs lo hi (by omega) hx (by omega) hc
  have hex:=qkB N xs (by omega) hx c2 (by omega) c3
  have eqv:=equalV N (q7 xs) (by omega) (by omega)
  obtain ⟨W,w1,w2,w3⟩:=qoE (n:=(q7 xs).length) qpg (cmpW N (by omega) (by omega)) (lenOk N) (by omega) (N:=N) (by omega) (xs:=q7 xs) ⟨rfl,fun _ _=>trivial⟩
  have hWl:=w2.perm.length_eq
  have hW:W=q7 S:=qlU (w2.perm.trans (s1.flatMap_right _).symm) (pw_of (by rw [hWl]; exact w3)) (qjV s2)
  have hSc:∀r∈S,0≤r.2.1∧r.2.1≤100000:=fun r hr=>by have:=c2 r (s1.mem_iff.1 hr); omega
  have hfold:W.foldl push []=S.foldl qgi []:=by rw [hW]; exact qiG S hSc []
  have col:=ql4 N W (by omega) (by omega)
  have hfl:=qhc W []
  simp only [List.length_nil,Nat.zero_add] at hfl
  have eqr:=qpU N (W.foldl push []) (by omega) (by omega)
  have w1':qX N (q7 xs,((fun x25=>(qh7 (fun y26:((Int×Unit)×Unit)=>(y26.1.1,())) (qx N (x25.1,(x25.2.1,()))))),()))=some ((),(W,())):=w1
  rw [if_pos hc] at d l a hs
  rw [hc] at ck ck2
  rw [←hfold] at hs
  simp only [qU,qD,d,l,a,se,hs,ck,ck2,wk,qd,qg,cond_true,Bool.not_true,Bool.not_false,Bool.or_true,Bool.and_self,ne,Bool.or_self,cond_false,hex,eqv,w1',col,eqr,sm,Bool.true_and,Bool.false_or]
  unfold atV
  by_cases hi0:0≤i
  ·by_cases hil:i<((q7 xs).length:Int)
   ·have hin:i.toNat<(q7 xs).length:=by omega
    have ei:i=((i.toNat:Nat):Int):=by omega
    have t1:((ltI i 0)||(leI (qs (q7 xs)) i))=false:=by
     rw [ltF (by omega),leF (by rw [qn]; omega)]; rfl
    rw [if_pos hi0,List.getElem?_eq_getElem hin,t1,cond_false]
    simp only [ansV]
    have t2:inB i (qs (q7 xs))=true:=by rw [ei]; exact qbh hin
    have t3:∀z,qe (q7 xs) i z=(q7 xs)[i.toNat]:=fun z=>by
     conv=>lhs; rw [ei]
     exact qa2 _ hin
    have esv:∀k:List UInt8,eqS k k=true:=fun k=>by rw [qgx]; simp
    simp only [t2,t3,ee,esv,ne,Bool.and_self,Bool.or_true,cond_true,Bool.not_true,Bool.or_self,cond_false]
   ·have t1:((ltI i 0)||(leI (qs (q7 xs)) i))=true:=by
     rw [leT (by rw [qn]; omega),Bool.or_true]
    rw [if_pos hi0,List.getElem?_eq_none (by omega),t1,cond_true]
    simp only [ansV]
    simp only [ee,es,ne,Bool.and_self,Bool.not_true,Bool.or_self,cond_false,cond_true]
  ·have t1:((ltI i 0)||(leI (qs (q7 xs)) i))=true:=by
    rw [ltT (by omega),Bool.true_or]
   rw [if_neg hi0,t1,cond_true]
   simp only [ee,es,ne,Bool.and_self,Bool.not_true,Bool.or_self,cond_false,cond_true]
 ·have hsv:qpj xs lo hi=([],(qaC xs,())):=by unfold qpj; rw [if_pos hc]
  rw [if_neg hc] at d l a hs
  rw [hsv] at se
  have z0:eqI (qB .i64 (qB .i64 (qB .i64 (qs ([]:List DV)) (qs ([]:List DI))) (qs ([]:List qb))) 0) 0=true:=by
   have:∀ {α:Type},qs ([]:List α)=0:=fun {α} =>by rw [qn]; rfl
   rw [this,this,this]
   have e:qB .i64 0 0=0:=by rw [qO (by omega) (by omega)]; rfl
   rw [e,e,e]; exact eqT rfl
  simp only [qU,qD,d,l,a,se,hs,ck,ck2,wk,qd,qg,cond_true,Bool.not_true,Bool.not_false,Bool.or_true,Bool.and_self,ne,Bool.or_self,cond_false,neT hc,z0,ee,es]
theorem qqD (x:(List qb)×(Int×(qa×(qa×Unit)))) (hg:qiL [.slice qr,.int .i64,qc,qc] x) (h:qgd [.slice qr,.int .i64,qc,qc] x≤1048576):∃N z,qU N x=some ((true,()),z):=by
 obtain ⟨xs,i,lo,hi,⟨⟩⟩:=x
 have e:qgd [.slice qr,.int .i64,qc,qc] (xs,(i,(lo,(hi,()))))=(Ty.slice qr).bulk xs+((Ty.int .i64).bulk i+(qc.bulk lo+(qc.bulk hi+0))):=rfl
 rw [e] at h
 have h1:=qjl qr xs
 have hi':(IntKind.i64).has i:=hg.2.1
 have hi2: -9223372036854775808≤i∧i≤9223372036854775807:=by
  simpa [IntKind.has,IntKind.min,IntKind.max,IntKind.signed,IntKind.bits] using hi'
 exact ⟨5000001,(),law18 _ xs i lo hi (by omega) (by omega) (by omega) hi2.1 (by omega)⟩
end
end Go.Proofs.Ytfcdfdnlgfebmaa
