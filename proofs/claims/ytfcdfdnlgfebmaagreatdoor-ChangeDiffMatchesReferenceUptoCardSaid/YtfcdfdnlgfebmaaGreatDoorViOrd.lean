/- Values, rows, keys in order. -/
import Derived.Test.YtfcdfdnlgfebmaaGreatDoorViEnc
set_option linter.unusedVariables false
set_option linter.unusedSimpArgs false
set_option linter.unnecessarySimpa false
set_option linter.unusedSectionVars false
namespace Go.Vi
noncomputable section
def ic (x y:Int):Int:=if x<y then -1 else if y<x then 1 else 0
def vc (a b:qmF):Int:=if ic a.1 b.1≠0 then ic a.1 b.1 else if ic a.2.1 b.2.1≠0 then ic a.2.1 b.2.1 else Lib.compareBytes a.2.2.1 b.2.2.1
theorem qbe (x y:Int):(x<y∧ic x y= -1)∨(x=y∧ic x y=0)∨(y<x∧ic x y=1):=by
 unfold ic
 split
 ·simp [*]
 ·split
  ·simp [*]
  ·have:x=y:=by omega
   simp [this]
theorem qqo (a b:qmF):vc a b= -1∨vc a b=0∨vc a b=1:=by
 unfold vc
 have h1:=qbe a.1 b.1
 have h2:=qbe a.2.1 b.2.1
 have h3:=qqn a.2.2.1 b.2.2.1
 split
 ·omega
 ·split
  ·omega
  ·exact h3
theorem qsl (a b:qmF):vc b a= - vc a b:=by
 have s:∀x y,ic y x= - ic x y:=fun x y=>by
  have h1:=qbe x y
  have h2:=qbe y x
  omega
 unfold vc
 rw [s a.1 b.1,s a.2.1 b.2.1,qs6]
 split <;> split <;> first|omega|(split <;> split <;> omega)
theorem qpp (a b:qmF):vc a b=0↔a=b:=by
 obtain ⟨k,n,s,_⟩:=a
 obtain ⟨k',n',s',_⟩:=b
 have h1:=qbe k k'
 have h2:=qbe n n'
 have h3:=qnu s s'
 simp only [vc,Prod.mk.injEq,and_true]
 split
 ·rename_i h
  constructor
  ·intro h0; exact absurd h0 h
  ·rintro ⟨rfl,_⟩; omega
 ·split
  ·rename_i h
   constructor
   ·intro h0; exact absurd h0 h
   ·rintro ⟨_,rfl,_⟩; omega
  ·rw [h3]
   constructor
   ·intro h; exact ⟨by omega,by omega,h⟩
   ·exact fun h=>h.2.2
abbrev qaG:Type:=List qmF
def qH:qaG→qaG→Int
 |[],ys=>ic 0 (ys.length:Int)
 |_::xs,[]=>ic ((xs.length:Int)+1) 0
 |x::xs,y::ys=>if vc x y≠0 then vc x y else qH xs ys
theorem quU (a b k:Int):ic (a+k) (b+k)=ic a b:=by
 unfold ic
 by_cases h1:a<b
 ·rw [if_pos h1,if_pos (by omega)]
 ·rw [if_neg h1,if_neg (by omega)]
  by_cases h2:b<a
  ·rw [if_pos h2,if_pos (by omega)]
  ·rw [if_neg h2,if_neg (by omega)]
theorem qmX (xs ys:qaG) (i:Nat) (h:¬(i<xs.length∧i<ys.length)) (hx:i≤xs.length) (hy:i≤ys.length):qH (xs.drop i) (ys.drop i)=ic (xs.length:Int) (ys.length:Int):=by
 by_cases h1:i<xs.length
 ·have h2:¬i<ys.length:=fun h2=>h ⟨h1,h2⟩
  rw [List.drop_eq_getElem_cons h1,List.drop_of_length_le (l:=ys) (by omega),qH]
  have e1:((xs.drop (i+1)).length:Int)+1=(xs.length:Int)+(-(i:Int)):=by rw [List.length_drop]; omega
  have e2:(0:Int)=(ys.length:Int)+(-(i:Int)):=by omega
  rw [e1,show ic ((xs.length:Int)+ -(i:Int)) 0=ic ((xs.length:Int)+ -(i:Int)) ((ys.length:Int)+ -(i:Int)) by rw [←e2],quU]
 ·rw [List.drop_of_length_le (l:=xs) (by omega)]
  rw [qH.eq_def]
  simp only
  have e1:((ys.drop i).length:Int)=(ys.length:Int)+(-(i:Int)):=by rw [List.length_drop]; omega
  have e2:(0:Int)=(xs.length:Int)+(-(i:Int)):=by omega
  rw [e1,show ic 0 ((ys.length:Int)+ -(i:Int))=ic ((xs.length:Int)+ -(i:Int)) ((ys.length:Int)+ -(i:Int)) by rw [←e2],quU]
abbrev zV:qmF:=(0,(0,(([]:List UInt8),())))
def qlR (row:qaG) (i:Int):qmF:=if h:0≤i∧i<(row.length:Int) then row[i.toNat]'(by omega) else zV
def qaA (pk:List Int) (row:qaG):qaG:=pk.map (qlR row)
theorem qeR (pk:List Int) (row:qaG):(qaA pk row).length=pk.length:=by simp [qaA]
def qc5 (f:qaG→Int):List qaG→Nat×Bool
 |[]=>(0,false)
 |r::rs=>if 0≤f r then (0,decide (f r=0)) else ((qc5 f rs).1+1,(qc5 f rs).2)
theorem qkl (f:qaG→Int):(rows:List qaG)→(qc5 f rows).1≤rows.length∧((qc5 f rows).1=rows.length→(qc5 f rows).2=false)∧(∀r,rows[(qc5 f rows).1]? =some r→0≤f r∧(qc5 f rows).2=decide (f r=0))
 |[]=>⟨Nat.le_refl _,fun _=>rfl,fun r h=>by simp at h⟩
 |r::rs=>by
  have ih:=qkl f rs
  unfold qc5
  split
  ·rename_i h
   refine ⟨Nat.zero_le _,fun h=>by simp at h,fun q hq=> ?_⟩
   simp at hq
   subst hq
   exact ⟨h,rfl⟩
  ·refine ⟨by simpa using ih.1,fun h=>ih.2.1 (by simpa using h),fun q hq=>ih.2.2 q (by simpa using hq)⟩
theorem qnX:(a b c:List UInt8)→Lib.compareBytes a b<0→Lib.compareBytes b c<0→Lib.compareBytes a c<0
 |[],[],_,h,_=>by simp [Lib.compareBytes] at h
 |[],_::_,[],_,h=>by simp [Lib.compareBytes] at h
 |[],_::_,_::_,_,_=>by simp [Lib.compareBytes]
 |_::_,[],_,h,_=>by simp [Lib.compareBytes] at h
 |_::_,_::_,[],_,h=>by simp [Lib.compareBytes] at h
 |x::a,y::b,z::c,h1,h2=>by
  simp only [Lib.compareBytes,UInt8.lt_iff_toNat_lt] at h1 h2⊢
  have ih:=qnX a b c
  by_cases e1:x.toNat<y.toNat
  ·by_cases e2:y.toNat<z.toNat
   ·rw [if_pos (by omega)]; omega
   ·by_cases e3:z.toNat<y.toNat
    ·rw [if_neg e2,if_pos e3] at h2; omega
    ·rw [if_pos (by omega)]; omega
  ·by_cases e4:y.toNat<x.toNat
   ·rw [if_neg e1,if_pos e4] at h1; omega
   ·rw [if_neg e1,if_neg e4] at h1
    by_cases e2:y.toNat<z.toNat
    ·rw [if_pos (by omega)]; omega
    ·by_cases e3:z.toNat<y.toNat
     ·rw [if_neg e2,if_pos e3] at h2; omega
     ·rw [if_neg e2,if_neg e3] at h2
      rw [if_neg (by omega),if_neg (by omega)]
      exact ih h1 h2
theorem qut {a b c:qmF} (h1:vc a b<0) (h2:vc b c<0):vc a c<0:=by
 unfold vc at *
 have a1:=qbe a.1 b.1
 have a2:=qbe b.1 c.1
 have a3:=qbe a.1 c.1
 have b1:=qbe a.2.1 b.2.1
 have b2:=qbe b.2.1 c.2.1
 have b3:=qbe a.2.1 c.2.1
 have tr:=qnX a.2.2.1 b.2.2.1 c.2.2.1
 generalize Lib.compareBytes a.2.2.1 b.2.2.1=s1 at *
 generalize Lib.compareBytes b.2.2.1 c.2.2.1=s2 at *
 generalize Lib.compareBytes a.2.2.1 c.2.2.1=s3 at *
 generalize ic a.1 b.1=i1 at *
 generalize ic b.1 c.1=i2 at *
 generalize ic a.1 c.1=i3 at *
 generalize ic a.2.1 b.2.1=j1 at *
 generalize ic b.2.1 c.2.1=j2 at *
 generalize ic a.2.1 c.2.1=j3 at *
 have k1:i1= -1∨(i1=0∧(j1= -1∨(j1=0∧s1<0))):=by
  split at h1
  ·omega
  ·split at h1 <;> omega
 have k2:i2= -1∨(i2=0∧(j2= -1∨(j2=0∧s2<0))):=by
  split at h2
  ·omega
  ·split at h2 <;> omega
 have k3:i3= -1∨(i3=0∧(j3= -1∨(j3=0∧s3<0))):=by
  rcases k1 with k1|⟨k1,k1'|⟨k1',k1''⟩⟩ <;> rcases k2 with k2|⟨k2,k2'|⟨k2',k2''⟩⟩ <;> first|omega|exact .inr ⟨by omega,.inr ⟨by omega,tr k1'' k2''⟩⟩
 split
 ·omega
 ·split <;> omega
theorem qr0 (x y:Int):ic y x= - ic x y:=by
 have h1:=qbe x y
 have h2:=qbe y x
 omega
theorem qn5:(a b:qaG)→qH b a= - qH a b
 |[],[]=>by simp [qH,ic]
 |[],y::ys=>by simp only [qH,List.length_cons]; rw [qr0]; simp
 |x::xs,[]=>by simp only [qH,List.length_cons]; rw [qr0]; simp
 |x::xs,y::ys=>by
  simp only [qH,qsl x y,qn5 xs ys]
  by_cases h:vc x y=0
  ·simp [h]
  ·have:¬(-vc x y=0):=by omega
   simp [h,this]
theorem qeP:(a b:qaG)→(qH a b=0↔a=b)
 |[],[]=>by simp [qH,ic]
 |[],y::ys=>by
  have:=qbe 0 (((y::ys).length:Nat):Int)
  simp only [qH,List.length_cons] at this⊢
  constructor
  ·intro h; omega
  ·intro h; cases h
 |x::xs,[]=>by
  have:=qbe ((xs.length:Int)+1) 0
  simp only [qH]
  constructor
  ·intro h; omega
  ·intro h; cases h
 |x::xs,y::ys=>by
  simp only [qH,List.cons.injEq,←qpp x y,←qeP xs ys]
  by_cases h:vc x y=0
  ·simp [h]
  ·simp [h]
theorem qbK:(a b c:qaG)→qH a b<0→qH b c<0→qH a c<0
 |[],[],_,h,_=>by simp [qH,ic] at h
 |[],y::ys,[],_,h=>by
  have:=qbe ((ys.length:Int)+1) 0
  simp only [qH] at h
  omega
 |[],_::_,z::zs,_,_=>by
  have:=qbe 0 (((z::zs).length:Nat):Int)
  simp only [qH,List.length_cons] at this⊢
  omega
 |x::xs,[],_,h,_=>by
  have:=qbe ((xs.length:Int)+1) 0
  simp only [qH] at h
  omega
 |_::_,y::ys,[],_,h=>by
  have:=qbe ((ys.length:Int)+1) 0
  simp only [qH] at h
  omega
 |x::xs,y::ys,z::zs,h1,h2=>by
  simp only [qH] at h1 h2⊢
  have ih:=qbK xs ys zs
  by_cases e1:vc x y=0
  ·have e1':=(qpp x y).1 e1
   subst e1'
   simp only [e1,ne_eq,not_true_eq_false,if_false] at h1
   by_cases e2:vc x z=0
   ·simp only [e2,ne_eq,not_true_eq_false,if_false] at h2⊢
    exact ih h1 h2
   ·simp only [e2,ne_eq,not_false_eq_true,if_true] at h2⊢
    exact h2
  ·simp only [e1,ne_eq,not_false_eq_true,if_true] at h1
   by_cases e2:vc y z=0
   ·have e2':=(qpp y z).1 e2
    subst e2'
    simp only [e1,ne_eq,not_false_eq_true,if_true]
    exact h1
   ·simp only [e2,ne_eq,not_false_eq_true,if_true] at h2
    have:=qut h1 h2
    have e3:¬vc x z=0:=by omega
    simp only [e3,ne_eq,not_false_eq_true,if_true]
    exact this
theorem qsC {α:Type} (R:α→α→Prop) (tr:∀a b c,R a b→R b c→R a c) (l:List α) (h:∀i (hi:i+1<l.length),R (l[i]'(by omega)) l[i+1]):∀(k i:Nat) (hk:i+1+k<l.length),R (l[i]'(by omega)) (l[i+1+k]'hk)
 |0,i,hk=>h i hk
 |k+1,i,hk=>tr _ _ _ (qsC R tr l h k i (by omega)) (h (i+1+k) (by omega))
theorem qlH {α:Type} (R:α→α→Prop) (tr:∀a b c,R a b→R b c→R a c) (l:List α) (h:∀i (hi:i+1<l.length),R (l[i]'(by omega)) l[i+1]):l.Pairwise R:=
 List.pairwise_iff_getElem.2 fun i j hi hj hij=>by
  have:=qsC R tr l h (j - (i+1)) i (by omega)
  have e:i+1+(j - (i+1))=j:=by omega
  simpa only [e] using this
theorem qnk (f:qaG→Int):(rows:List qaG)→rows.Pairwise (fun a b=>0≤f a→0<f b)→(qc5 f rows).2=rows.any (fun r=>decide (f r=0))
 |[],_=>rfl
 |r::rs,h=>by
  obtain ⟨h1,h2⟩:=List.pairwise_cons.1 h
  unfold qc5
  by_cases h0:0≤f r
  ·rw [if_pos h0,List.any_cons]
   have:rs.any (fun r=>decide (f r=0))=false:=by
    rw [List.any_eq_false]
    intro x hx he
    have:=h1 x hx h0
    rw [decide_eq_true_eq] at he
    omega
   rw [this]
   simp
  ·rw [if_neg h0,List.any_cons,qnk f rs h2]
   have:decide (f r=0)=false:=decide_eq_false (by omega)
   rw [this]
   simp
end
end Go.Vi
