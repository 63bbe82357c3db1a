import Derived.Test.YtfcdfdnlgfebmaaGreatDoorViXD
set_option linter.unusedVariables false
set_option linter.unusedSimpArgs false
set_option linter.unnecessarySimpa false
set_option linter.unusedSectionVars false
namespace Go.Vi
noncomputable section
def ic (x y:Int):Int:=if x<y then -1 else if y<x then 1 else 0
def vc (a b:qok):Int:=if ic a.1 b.1≠0 then ic a.1 b.1 else if ic a.2.1 b.2.1≠0 then ic a.2.1 b.2.1 else Lib.compareBytes a.2.2.1 b.2.2.1
theorem qbl (x y:Int):(x<y∧ic x y= -1)∨(x=y∧ic x y=0)∨(y<x∧ic x y=1):=by
 unfold ic
 split
 ·simp [*]
 ·split
  ·simp [*]
  ·have:x=y:=by omega
   simp [this]
theorem qrn (a b:qok):vc a b= -1∨vc a b=0∨vc a b=1:=by
 unfold vc
 have h1:=qbl a.1 b.1
 have h2:=qbl a.2.1 b.2.1
 have h3:=qry a.2.2.1 b.2.2.1
 split
 ·omega
 ·split
  ·omega
  ·exact h3
theorem qt6 (a b:qok):vc b a= - vc a b:=by
 have s:∀x y,ic y x= - ic x y:=fun x y=>by
  have h1:=qbl x y
  have h2:=qbl y x
  omega
 unfold vc
 rw [s a.1 b.1,s a.2.1 b.2.1,qsU]
 split <;> split <;> first|omega|(split <;> split <;> omega)
theorem qqz (a b:qok):vc a b=0↔a=b:=by
 obtain ⟨k,n,s,_⟩:=a
 obtain ⟨k',n',s',_⟩:=b
 have h1:=qbl k k'
 have h2:=qbl n n'
 have h3:=qov s s'
 simp only [vc,Prod.mk.injEq,and_true]
 split
 ·rename_i h
  constructor
  ·intro h0; exact absurd h0 h
  ·rintro ⟨rfl,_⟩; omega
 ·split
  ·rename_i h
   constructor
   ·intro h0; exact absurd h0 h
   ·rintro ⟨_,rfl,_⟩; omega
  ·rw [h3]
   constructor
   ·intro h; exact ⟨by omega,by omega,h⟩
   ·exact fun h=>h.2.2
abbrev qbA:Type:=List qok
def q9:qbA→qbA→Int
 |[],ys=>ic 0 (ys.length:Int)
 |_::xs,[]=>ic ((xs.length:Int)+1) 0
 |x::xs,y::ys=>if vc x y≠0 then vc x y else q9 xs ys
theorem qvN (a b k:Int):ic (a+k) (b+k)=ic a b:=by
 unfold ic
 by_cases h1:a<b
 ·rw [if_pos h1,if_pos (by omega)]
 ·rw [if_neg h1,if_neg (by omega)]
  by_cases h2:b<a
  ·rw [if_pos h2,if_pos (by omega)]
  ·rw [if_neg h2,if_neg (by omega)]
theorem qoa (xs ys:qbA) (i:Nat) (h:¬(i<xs.length∧i<ys.length)) (hx:i≤xs.length) (hy:i≤ys.length):q9 (xs.drop i) (ys.drop i)=ic (xs.length:Int) (ys.length:Int):=by
 by_cases h1:i<xs.length
 ·have h2:¬i<ys.length:=fun h2=>h ⟨h1,h2⟩
  rw [List.drop_eq_getElem_cons h1,List.drop_of_length_le (l:=ys) (by omega),q9]
  have e1:((xs.drop (i+1)).length:Int)+1=(xs.length:Int)+(-(i:Int)):=by rw [List.length_drop]; omega
  have e2:(0:Int)=(ys.length:Int)+(-(i:Int)):=by omega
  rw [e1,show ic ((xs.length:Int)+ -(i:Int)) 0=ic ((xs.length:Int)+ -(i:Int)) ((ys.length:Int)+ -(i:Int)) by rw [←e2],qvN]
 ·rw [List.drop_of_length_le (l:=xs) (by omega)]
  rw [q9.eq_def]
  simp only
  have e1:((ys.drop i).length:Int)=(ys.length:Int)+(-(i:Int)):=by rw [List.length_drop]; omega
  have e2:(0:Int)=(xs.length:Int)+(-(i:Int)):=by omega
  rw [e1,show ic 0 ((ys.length:Int)+ -(i:Int))=ic ((xs.length:Int)+ -(i:Int)) ((ys.length:Int)+ -(i:Int)) by rw [←e2],qvN]
abbrev zV:qok:=(0,(0,(([]:List UInt8),())))
def qmK (row:qbA) (i:Int):qok:=if h:0≤i∧i<(row.length:Int) then row[i.toNat]'(by omega) else zV
def qbW (pk:List Int) (row:qbA):qbA:=pk.map (qmK row)
theorem ql2 (pk:List Int) (row:qbA):(qbW pk row).length=pk.length:=by simp [qbW]
def qiA (f:qbA→Int):List qbA→Nat×Bool
 |[]=>(0,false)
 |r::rs=>if 0≤f r then (0,decide (f r=0)) else ((qiA f rs).1+1,(qiA f rs).2)
theorem qn5 (f:qbA→Int):(rows:List qbA)→(qiA f rows).1≤rows.length∧((qiA f rows).1=rows.length→(qiA f rows).2=false)∧(∀r,rows[(qiA f rows).1]? =some r→0≤f r∧(qiA f rows).2=decide (f r=0))
 |[]=>⟨Nat.le_refl _,fun _=>rfl,fun r h=>by simp at h⟩
 |r::rs=>by
  have ih:=qn5 f rs
  unfold qiA
  split
  ·rename_i h
   refine ⟨Nat.zero_le _,fun h=>by simp at h,fun q hq=> ?_⟩
   simp at hq
   subst hq
   exact ⟨h,rfl⟩
  ·refine ⟨by simpa using ih.1,fun h=>ih.2.1 (by simpa using h),fun q hq=>ih.2.2 q (by simpa using hq)⟩
theorem qoK:(a b c:List UInt8)→Lib.compareBytes a b<0→Lib.compareBytes b c<0→Lib.compareBytes a c<0
 |[],[],_,h,_=>by simp [Lib.compareBytes] at h
 |[],_::_,[],_,h=>by simp [Lib.compareBytes] at h
 |[],_::_,_::_,_,_=>by simp [Lib.compareBytes]
 |_::_,[],_,h,_=>by simp [Lib.compareBytes] at h
 |_::_,_::_,[],_,h=>by simp [Lib.compareBytes] at h
 |x::a,y::b,z::c,h1,h2=>by
  simp only [Lib.compareBytes,UInt8.lt_iff_toNat_lt] at h1 h2⊢
  have ih:=qoK a b c
  by_cases e1:x.toNat<y.toNat
  ·by_cases e2:y.toNat<z.toNat
   ·rw [if_pos (by omega)]; omega
   ·by_cases e3:z.toNat<y.toNat
    ·rw [if_neg e2,if_pos e3] at h2; omega
    ·rw [if_pos (by omega)]; omega
  ·by_cases e4:y.toNat<x.toNat
   ·rw [if_neg e1,if_pos e4] at h1; omega
   ·rw [if_neg e1,if_neg e4] at h1
    by_cases e2:y.toNat<z.toNat
    ·rw [if_pos (by omega)]; omega
    ·by_cases e3:z.toNat<y.toNat
     ·rw [if_neg e2,if_pos e3] at h2; omega
     ·rw [if_neg e2,if_neg e3] at h2
      rw [if_neg (by omega),if_neg (by omega)]
      exact ih h1 h2
theorem qvk {a b c:qok} (h1:vc a b<0) (h2:vc b c<0):vc a c<0:=by
 unfold vc at *
 have a1:=qbl a.1 b.1
 have a2:=qbl b.1 c.1
 have a3:=qbl a.1 c.1
 have b1:=qbl a.2.1 b.2.1
 have b2:=qbl b.2.1 c.2.1
 have b3:=qbl a.2.1 c.2.1
 have tr:=qoK a.2.2.1 b.2.2.1 c.2.2.1
 generalize Lib.compareBytes a.2.2.1 b.2.2.1=s1 at *
 generalize Lib.compareBytes b.2.2.1 c.2.2.1=s2 at *
 generalize Lib.compareBytes a.2.2.1 c.2.2.1=s3 at *
 generalize ic a.1 b.1=i1 at *
 generalize ic b.1 c.1=i2 at *
 generalize ic a.1 c.1=i3 at *
 generalize ic a.2.1 b.2.1=j1 at *
 generalize ic b.2.1 c.2.1=j2 at *
 generalize ic a.2.1 c.2.1=j3 at *
 have k1:i1= -1∨(i1=0∧(j1= -1∨(j1=0∧s1<0))):=by
  split at h1
  ·omega
  ·split at h1 <;> omega
 have k2:i2= -1∨(i2=0∧(j2= -1∨(j2=0∧s2<0))):=by
  split at h2
  ·omega
  ·split at h2 <;> omega
 have k3:i3= -1∨(i3=0∧(j3= -1∨(j3=0∧s3<0))):=by
  rcases k1 with k1|⟨k1,k1'|⟨k1',k1''⟩⟩ <;> rcases k2 with k2|⟨k2,k2'|⟨k2',k2''⟩⟩ <;> first|omega|exact .inr ⟨by omega,.inr ⟨by omega,tr k1'' k2''⟩⟩
 split
 ·omega
 ·split <;> omega
theorem qsQ (x y:Int):ic y x= - ic x y:=by
 have h1:=qbl x y
 have h2:=qbl y x
 omega
theorem qoE:(a b:qbA)→q9 b a= - q9 a b
 |[],[]=>by simp [q9,ic]
 |[],y::ys=>by simp only [q9,List.length_cons]; rw [qsQ]; simp
 |x::xs,[]=>by simp only [q9,List.length_cons]; rw [qsQ]; simp
 |x::xs,y::ys=>by
  simp only [q9,qt6 x y,qoE xs ys]
  by_cases h:vc x y=0
  ·simp [h]
  ·have:¬(-vc x y=0):=by omega
   simp [h,this]
theorem qfG:(a b:qbA)→(q9 a b=0↔a=b)
 |[],[]=>by simp [q9,ic]
 |[],y::ys=>by
  have:=qbl 0 (((y::ys).length:Nat):Int)
  simp only [q9,List.length_cons] at this⊢
  constructor
  ·intro h; omega
  ·intro h; cases h
 |x::xs,[]=>by
  have:=qbl ((xs.length:Int)+1) 0
  simp only [q9]
  constructor
  ·intro h; omega
  ·intro h; cases h
 |x::xs,y::ys=>by
  simp only [q9,List.cons.injEq,←qqz x y,←qfG xs ys]
  by_cases h:vc x y=0
  ·simp [h]
  ·simp [h]
theorem qck:(a b c:qbA)→q9 a b<0→q9 b c<0→q9 a c<0
 |[],[],_,h,_=>by simp [q9,ic] at h
 |[],y::ys,[],_,h=>by
  have:=qbl ((ys.length:Int)+1) 0
  simp only [q9] at h
  omega
 |[],_::_,z::zs,_,_=>by
  have:=qbl 0 (((z::zs).length:Nat):Int)
  simp only [q9,List.length_cons] at this⊢
  omega
 |x::xs,[],_,h,_=>by
  have:=qbl ((xs.length:Int)+1) 0
  simp only [q9] at h
  omega
 |_::_,y::ys,[],_,h=>by
  have:=qbl ((ys.length:Int)+1) 0
  simp only [q9] at h
  omega
 |x::xs,y::ys,z::zs,h1,h2=>by
  simp only [q9] at h1 h2⊢
  have ih:=qck xs ys zs
  by_cases e1:vc x y=0
  ·have e1':=(qqz x y).1 e1
   subst e1'
   simp only [e1,ne_eq,not_true_eq_false,if_false] at h1
   by_cases e2:vc x z=0
   ·simp only [e2,ne_eq,not_true_eq_false,if_false] at h2⊢
    exact ih h1 h2
   ·simp only [e2,ne_eq,not_false_eq_true,if_true] at h2⊢
    exact h2
  ·simp only [e1,ne_eq,not_false_eq_true,if_true] at h1
   by_cases e2:vc y z=0
   ·have e2':=(qqz y z).1 e2
    subst e2'
    simp only [e1,ne_eq,not_false_eq_true,if_true]
    exact h1
   ·simp only [e2,ne_eq,not_false_eq_true,if_true] at h2
    have:=qvk h1 h2
    have e3:¬vc x z=0:=by omega
    simp only [e3,ne_eq,not_false_eq_true,if_true]
    exact this
theorem quf {α:Type} (R:α→α→Prop) (tr:∀a b c,R a b→R b c→R a c) (l:List α) (h:∀i (hi:i+1<l.length),R (l[i]'(by omega)) l[i+1]):∀(k i:Nat) (hk:i+1+k<l.length),R (l[i]'(by omega)) (l[i+1+k]'hk)
 |0,i,hk=>h i hk
 |k+1,i,hk=>tr _ _ _ (quf R tr l h k i (by omega)) (h (i+1+k) (by omega))
theorem qmc {α:Type} (R:α→α→Prop) (tr:∀a b c,R a b→R b c→R a c) (l:List α) (h:∀i (hi:i+1<l.length),R (l[i]'(by omega)) l[i+1]):l.Pairwise R:=
 List.pairwise_iff_getElem.2 fun i j hi hj hij=>by
  have:=quf R tr l h (j - (i+1)) i (by omega)
  have e:i+1+(j - (i+1))=j:=by omega
  simpa only [e] using this
theorem qoN (f:qbA→Int):(rows:List qbA)→rows.Pairwise (fun a b=>0≤f a→0<f b)→(qiA f rows).2=rows.any (fun r=>decide (f r=0))
 |[],_=>rfl
 |r::rs,h=>by
  obtain ⟨h1,h2⟩:=List.pairwise_cons.1 h
  unfold qiA
  by_cases h0:0≤f r
  ·rw [if_pos h0,List.any_cons]
   have:rs.any (fun r=>decide (f r=0))=false:=by
    rw [List.any_eq_false]
    intro x hx he
    have:=h1 x hx h0
    rw [decide_eq_true_eq] at he
    omega
   rw [this]
   simp
  ·rw [if_neg h0,List.any_cons,qoN f rs h2]
   have:decide (f r=0)=false:=decide_eq_false (by omega)
   rw [this]
   simp
end
end Go.Vi
set_option linter.unusedSimpArgs false
set_option linter.unusedVariables false
set_option maxRecDepth 100000
namespace Go.Vi
noncomputable section
section
variable {α:Type} {P:α→Prop} {n:Nat} (d:α) {φ:(α×(α×Unit))→Option (Int×Unit)} {le:α→α→Prop} {N:Nat}
theorem qli (hn:n≤1099511627776) (hN:n+1<N) {xs:List α} (h:Ck P n xs) {a b m:Int} (ha:0≤a) (hab:a+m≤b) (hm:0≤m) (hb2:b+m≤(n:Int)):
  ∃out,qhE d N (xs,(a,(b,(m,(φ,())))))=some ((),(out,()))∧Seg d n a (b+m) xs out∧∀k,0≤k→k<(n:Int)→qf out k d=if a≤k∧k<a+m then qf xs (k+(b - a)) d else if b≤k∧k<b+m then qf xs (k - (b - a)) d else qf xs k d:=by
 simp only [qhE]
 refine qat (S:=List α×(Int×Unit)) (fun p=>(m - p.2.1).toNat) (fun p=>Seg d n a (b+m) xs p.1∧0≤p.2.1∧p.2.1≤m∧∀k,0≤k→k<(n:Int)→qf p.1 k d=if a≤k∧k<a+p.2.1 then qf xs (k+(b - a)) d else if b≤k∧k<b+p.2.1 then qf xs (k - (b - a)) d else qf xs k d)
  (fun r=>∃out,r=some ((),(out,()))∧Seg d n a (b+m) xs out∧∀k,0≤k→k<(n:Int)→qf out k d=if a≤k∧k<a+m then qf xs (k+(b - a)) d else if b≤k∧k<b+m then qf xs (k - (b - a)) d else qf xs k d) ?_ N _
  ⟨.refl d _ _ xs,by simp only; omega,by simp only; omega,fun k k0 k1=>by simp only; rw [if_neg (by omega),if_neg (by omega)]⟩ (by simp only; omega)
 rintro ih ⟨ys,i,⟨⟩⟩ ⟨hs,hi0,him,hg⟩ hih
 simp only at hs hi0 him hg hih⊢
 have hc:=hs.ck d h
 by_cases q:i<m
 ·have e1:qI .i64 a i=a+i:=qas (by omega) (by omega)
  have e2:qI .i64 b i=b+i:=qas (by omega) (by omega)
  have e3:qI .i64 i 1=i+1:=qas (by omega) (by omega)
  simp only [ltT q,cond_true,e1,e2,e3,hc.inB (i:=a+i) (by omega) (by omega),hc.inB (i:=b+i) (by omega) (by omega),qdf,Bool.and_self]
  have g:=qd6 d hc.len (i:=a+i) (j:=b+i) (by omega) (by omega) (by omega) (by omega)
  refine hih (swp d ys (a+i) (b+i),(i+1,())) ⟨hs.trans d (qdr d hc.len ha (by omega) (by omega) (by omega) (by omega) (by omega)),by simp only; omega,by simp only; omega,fun k k0 k1=> ?_⟩ (by simp only; omega)
  simp only
  rw [g k k0]
  by_cases w1:k=b+i
  ·rw [if_pos w1,if_neg (by omega),if_pos (by omega),hg (a+i) (by omega) (by omega),if_neg (by omega),if_neg (by omega),w1,show b+i - (b - a)=a+i by omega]
  rw [if_neg w1]
  by_cases w2:k=a+i
  ·rw [if_pos w2,if_pos (by omega),hg (b+i) (by omega) (by omega),if_neg (by omega),if_neg (by omega),w2,show a+i+(b - a)=b+i by omega]
  rw [if_neg w2,hg k k0 k1]
  by_cases w3:a≤k∧k<a+i
  ·rw [if_pos w3,if_pos (by omega)]
  rw [if_neg w3]
  by_cases w4:b≤k∧k<b+i
  ·rw [if_pos w4,if_neg (by omega),if_pos (by omega)]
  rw [if_neg w4,if_neg (by omega),if_neg (by omega)]
 ·have:i=m:=by omega
  subst this
  simp only [ltF q,cond_false]
  exact ⟨ys,rfl,hs,hg⟩
def qtt (d:α) (xs:List α) (a m b k:Int):α:=if a≤k∧k<a+(b - m) then qf xs (k+(m - a)) d else if a+(b - m)≤k∧k<b then qf xs (k - (b - m)) d else qf xs k d
theorem qhd (xs:List α) {a m b k:Int} (h1:a≤k) (h2:k<a+(b - m)):qtt d xs a m b k=qf xs (k+(m - a)) d:=by rw [qtt,if_pos ⟨h1,h2⟩]
theorem qhh (xs:List α) {a m b k:Int} (h1:a+(b - m)≤k) (h2:k<b):qtt d xs a m b k=qf xs (k - (b - m)) d:=by rw [qtt,if_neg (by omega),if_pos ⟨h1,h2⟩]
theorem qgn (xs:List α) {a m b k:Int} (h1:m≤b) (h2:a≤m) (h3:k<a∨b≤k):qtt d xs a m b k=qf xs k d:=by rw [qtt,if_neg (by omega),if_neg (by omega)]
theorem qsf (hn:n≤1099511627776) (hN:2 * n+1<N) {xs:List α} (h:Ck P n xs) {a m b:Int} (ha:0≤a) (h1:a<m) (h2:m<b) (hb:b≤(n:Int)):
  ∃out,qdV d N (xs,(a,(m,(b,(φ,())))))=some ((),(out,()))∧Seg d n a b xs out∧∀k,0≤k→k<(n:Int)→qf out k d=qtt d xs a m b k:=by
 have e1:qE .i64 m a=m - a:=qak (by omega) (by omega)
 have e2:qE .i64 b m=b - m:=qak (by omega) (by omega)
 simp only [qdV,qJ,e1,e2]
 refine qat (S:=List α×(Int×(Int×Unit))) (fun p=>(p.2.1+p.2.2.1).toNat) (fun p=>Seg d n a b xs p.1∧0<p.2.1∧p.2.1≤m - a∧0<p.2.2.1∧p.2.2.1≤b - m∧∀k,0≤k→k<(n:Int)→qtt d p.1 (m - p.2.1) m (m+p.2.2.1) k=qtt d xs a m b k)
  (fun r=>∃out,r=some ((),(out,()))∧Seg d n a b xs out∧∀k,0≤k→k<(n:Int)→qf out k d=qtt d xs a m b k) ?_ N _
  ⟨.refl d _ _ xs,by simp only; omega,by simp only; omega,by simp only; omega,by simp only; omega,fun k k0 k1=>by simp only; rw [show m - (m - a)=a by omega,show m+(b - m)=b by omega]⟩ (by simp only; omega)
 rintro ih ⟨ys,i,j,⟨⟩⟩ ⟨hs,hi0,him,hj0,hjm,hg⟩ hih
 simp only at hs hi0 him hj0 hjm hg hih⊢
 have hc:=hs.ck d h
 have s1:qE .i64 m i=m - i:=qak (by omega) (by omega)
 by_cases q:i=j
 ·obtain ⟨out,o1,o2,o3⟩:=qli (φ:=φ) (P:=P) d hn (by omega:n+1<N) hc (a:=m - i) (b:=m) (m:=i) (by omega) (by omega) (by omega) (by omega)
  simp only [neF q,cond_false,s1,o1,qd,qg,cond_true]
  refine ⟨out,rfl,hs.trans d (o2.mono d ha hb (by omega) (by omega)),fun k k0 k1=> ?_⟩
  rw [←hg k k0 k1,o3 k k0 k1]
  subst q
  by_cases w1:m - i≤k∧k<m
  ·rw [if_pos (by omega),qhd d ys (by omega) (by omega)]
  ·rw [if_neg (by omega)]
   by_cases w2:m≤k∧k<m+i
   ·rw [if_pos (by omega),qhh d ys (by omega) (by omega)]
    congr 1; omega
   ·rw [if_neg (by omega),qgn d ys (by omega) (by omega) (by omega)]
 simp only [neT q,cond_true]
 by_cases q2:j<i
 ·obtain ⟨out,o1,o2,o3⟩:=qli (φ:=φ) (P:=P) d hn (by omega:n+1<N) hc (a:=m - i) (b:=m) (m:=j) (by omega) (by omega) (by omega) (by omega)
  have s2:qE .i64 i j=i - j:=qak (by omega) (by omega)
  simp only [ltT q2,cond_true,s1,s2,o1,qd,qg]
  refine hih (out,(i - j,(j,()))) ⟨hs.trans d (o2.mono d ha hb (by omega) (by omega)),by simp only; omega,by simp only; omega,hj0,hjm,fun k k0 k1=> ?_⟩ (by simp only; omega)
  simp only
  rw [←hg k k0 k1]
  by_cases w0:k<m - i+j∨m+j≤k
  ·rw [qgn d out (by omega) (by omega) (by omega),o3 k k0 k1]
   by_cases w1:m - i≤k∧k<m+j
   ·rw [if_pos (by omega),qhd d ys (by omega) (by omega)]
   ·rw [if_neg (by omega),if_neg (by omega),qgn d ys (by omega) (by omega) (by omega)]
  ·rw [qhh d ys (by omega) (by omega)]
   by_cases w1:k - (m - i+j)<j
   ·rw [qhd d out (by omega) (by omega),o3 _ (by omega) (by omega),if_neg (by omega),if_pos (by omega)]
    congr 1; omega
   ·rw [qhh d out (by omega) (by omega),o3 _ (by omega) (by omega),if_neg (by omega),if_neg (by omega)]
 ·obtain ⟨out,o1,o2,o3⟩:=qli (φ:=φ) (P:=P) d hn (by omega:n+1<N) hc (a:=m - i) (b:=m+j - i) (m:=i) (by omega) (by omega) (by omega) (by omega)
  have s2:qE .i64 j i=j - i:=qak (by omega) (by omega)
  have s3:qI .i64 m j=m+j:=qas (by omega) (by omega)
  have s4:qE .i64 (m+j) i=m+j - i:=qak (by omega) (by omega)
  simp only [ltF q2,cond_false,s1,s2,s3,s4,o1,qd,qg,cond_true]
  refine hih (out,(i,(j - i,()))) ⟨hs.trans d (o2.mono d ha hb (by omega) (by omega)),hi0,him,by simp only; omega,by simp only; omega,fun k k0 k1=> ?_⟩ (by simp only; omega)
  simp only
  rw [←hg k k0 k1]
  by_cases w0:k<m - i∨m+(j - i)≤k
  ·rw [qgn d out (by omega) (by omega) (by omega),o3 k k0 k1]
   by_cases w1:m - i≤k∧k<m+j
   ·rw [if_neg (by omega),if_pos (by omega),qhh d ys (by omega) (by omega)]
    congr 1; omega
   ·rw [if_neg (by omega),if_neg (by omega),qgn d ys (by omega) (by omega) (by omega)]
  ·rw [qhd d ys (by omega) (by omega)]
   by_cases w1:k - (m - i)<j - i
   ·rw [qhd d out (by omega) (by omega),o3 _ (by omega) (by omega),if_neg (by omega),if_neg (by omega)]
   ·rw [qhh d out (by omega) (by omega),o3 _ (by omega) (by omega),if_pos (by omega)]
    congr 1; omega
theorem mid_eq2 {x y:Int} (hx:0≤x) (hy:0≤y) (h:x+y≤4398046511104):qcr .i64 (qjQ .u64 (qcr .u64 (qI .i64 x y)) 1)=(x+y) / 2:=qkP hx hy h
def qwc (P:α→Prop) (d:α) (n:Nat) (le:α→α→Prop) (φ:(α×(α×Unit))→Option (Int×Unit)) (M:Nat) (Fs:((List α)×(Int×(Int×(Int×(((α×(α×Unit))→(Option (Int×Unit)))×Unit)))))→(Option (Unit×((List α)×Unit)))):Prop:=
 ∀(xs:List α),Ck P n xs→∀(a m b:Int),0≤a→a<m→m<b→b≤(n:Int)→(b - a).toNat<M→Srt d le a m xs→Srt d le m b xs→qkQ P d n le a b xs (Fs (xs,(a,(m,(b,(φ,()))))))
set_option maxHeartbeats 2000000 in
theorem qrO (hφ:Cmp P φ le) (hn:n≤1099511627776) (hN:2 * n+1<N) {M:Nat} {Fs} (ih:qwc P d n le φ M Fs):qwc P d n le φ (M+1) (qms d N Fs):=by
 intro xs h a m b ha h1 h2 hb hM sl sr
 have e1:qE .i64 m a=m - a:=qak (by omega) (by omega)
 have e2:qE .i64 b m=b - m:=qak (by omega) (by omega)
 have l01:leI 0 1=true:=leT (by omega)
 simp only [qms,qJ,e1,e2,l01,cond_true]
 by_cases q1:m - a=1
 ·simp only [eqT q1,cond_true]
  refine qat (S:=List α×(Int×(Int×Unit))) (fun p=>(p.2.2.1 - p.2.1).toNat) (fun p=>p.1=xs∧m≤p.2.1∧p.2.1≤p.2.2.1∧p.2.2.1≤b∧(∀k,m≤k→k<p.2.1→le (qf xs k d) (qf xs a d))∧∀k,p.2.2.1≤k→k<b→le (qf xs a d) (qf xs k d)) (qkQ P d n le a b xs) ?_ N _ ⟨rfl,by simp only; omega,by simp only; omega,by simp only; omega,fun k k1 k2=>by simp only at k2; omega,fun k k1 k2=>by simp only at k1; omega⟩ (by simp only; omega)
  rintro ih1 ⟨ys,i,j,⟨⟩⟩ ⟨hy,hi,hij,hj,lo,hi'⟩ hih
  simp only at hy hi hij hj lo hi' hih⊢
  subst hy
  have pa:=h.get d (i:=a) (by omega) (by omega)
  by_cases hc:i<j
  ·have em:=qkP (x:=i) (y:=j) (by omega) (by omega) (by omega)
   have em1:qI .i64 ((i+j) / 2) 1=(i+j) / 2+1:=qas (by omega) (by omega)
   have pm:=h.get d (i:=(i+j) / 2) (by omega) (by omega)
   obtain ⟨c,e3,e4⟩:=qjB hφ pm pa
   simp only [ltT hc,cond_true,em,em1,h.inB (i:=(i+j) / 2) (by omega) (by omega),h.inB (i:=a) (by omega) (by omega),e3,qd,qg,Bool.and_self]
   rcases e4 with ⟨c0,-,c2⟩|⟨c0,c1⟩
   ·simp only [ltT c0,cond_true]
    refine hih _ ⟨rfl,by simp only; omega,by simp only; omega,hj,fun k k1 k2=> ?_,hi'⟩ (by simp only; omega)
    simp only at k2
    exact hφ.trans _ _ _ (h.get d (by omega) (by omega)) pm pa (sr k ((i+j) / 2) k1 (by omega) (by omega)) c2
   ·simp only [ltF c0,cond_false]
    refine hih _ ⟨rfl,hi,by simp only; omega,by simp only; omega,lo,fun k k1 k2=> ?_⟩ (by simp only; omega)
    simp only at k1
    exact hφ.trans _ _ _ pa pm (h.get d (by omega) (by omega)) c1 (sr ((i+j) / 2) k (by omega) k1 k2)
  ·have:i=j:=by omega
   subst this
   simp only [ltF hc,cond_false]
   have ei:qE .i64 i 1=i - 1:=qak (by omega) (by omega)
   rw [ei]
   refine qat (S:=List α×(Int×Unit)) (fun p=>(i - p.2.1).toNat) (fun p=>Seg d n a b ys p.1∧a≤p.2.1∧p.2.1≤i - 1∧∀k,0≤k→k<(n:Int)→qf p.1 k d=if a≤k∧k<p.2.1 then qf ys (k+1) d else if k=p.2.1 then qf ys a d else qf ys k d) (qkQ P d n le a b ys) ?_ N _ ⟨.refl d _ _ ys,by simp only; omega,by simp only; omega,fun k k0 k1=>by
    simp only
    rw [if_neg (by omega)]
    by_cases w:k=a
    ·rw [if_pos w,w]
    ·rw [if_neg w]⟩ (by simp only; omega)
   rintro jh ⟨zs,k,⟨⟩⟩ ⟨hz,hk,hki,hg⟩ hjh
   simp only at hz hk hki hg hjh⊢
   have hzc:=hz.ck d h
   by_cases hk2:k<i - 1
   ·have s1:qI .i64 k 1=k+1:=qas (by omega) (by omega)
    simp only [ltT hk2,s1,hzc.inB (i:=k) (by omega) (by omega),hzc.inB (i:=k+1) (by omega) (by omega),qdf,Bool.and_self,cond_true]
    have g:=qd6 d hzc.len (i:=k) (j:=k+1) (by omega) (by omega) (by omega) (by omega)
    refine hjh (swp d zs k (k+1),(k+1,())) ⟨hz.trans d (qdr d hzc.len ha hb (by omega) (by omega) (by omega) (by omega)),by simp only; omega,by simp only; omega,fun x x0 x1=> ?_⟩ (by simp only; omega)
    simp only
    rw [g x x0]
    by_cases w1:x=k+1
    ·rw [if_pos w1,if_neg (by omega),if_pos w1,hg k (by omega) (by omega),if_neg (by omega),if_pos rfl]
    rw [if_neg w1]
    by_cases w2:x=k
    ·rw [if_pos w2,if_pos (by omega),hg (k+1) (by omega) (by omega),if_neg (by omega),if_neg (by omega),w2]
    rw [if_neg w2,hg x x0 x1]
    by_cases w3:a≤x∧x<k
    ·rw [if_pos w3,if_pos (by omega)]
    ·rw [if_neg w3,if_neg w2,if_neg (by omega),if_neg w1]
   ·have:k=i - 1:=by omega
    subst this
    simp only [ltF hk2,cond_false]
    refine ⟨zs,rfl,hz,fun x y x1 x2 x3=> ?_⟩
    rw [hg x (by omega) (by omega),hg y (by omega) (by omega)]
    by_cases w1:a≤x∧x<i - 1
    ·rw [if_pos w1]
     by_cases w2:a≤y∧y<i - 1
     ·rw [if_pos w2]; exact sr (x+1) (y+1) (by omega) (by omega) (by omega)
     ·rw [if_neg w2]
      by_cases w3:y=i - 1
      ·rw [if_pos w3]; exact lo (x+1) (by omega) (by omega)
      ·rw [if_neg w3]; exact sr (x+1) y (by omega) (by omega) (by omega)
    ·rw [if_neg w1,if_neg (by omega:¬(a≤y∧y<i - 1))]
     by_cases w2:x=i - 1
     ·rw [if_pos w2]
      by_cases w3:y=i - 1
      ·rw [if_pos w3]; exact hφ.refl pa
      ·rw [if_neg w3]; exact hi' y (by omega) (by omega)
     ·rw [if_neg w2,if_neg (by omega:¬y=i - 1)]; exact sr x y (by omega) x2 (by omega)
 simp only [eqF q1,cond_false]
 by_cases q2:b - m=1
 ·simp only [eqT q2,cond_true]
  refine qat (S:=List α×(Int×(Int×Unit))) (fun p=>(p.2.2.1 - p.2.1).toNat) (fun p=>p.1=xs∧a≤p.2.1∧p.2.1≤p.2.2.1∧p.2.2.1≤m∧(∀k,a≤k→k<p.2.1→le (qf xs k d) (qf xs m d))∧∀k,p.2.2.1≤k→k<m→le (qf xs m d) (qf xs k d)) (qkQ P d n le a b xs) ?_ N _ ⟨rfl,by simp only; omega,by simp only; omega,by simp only; omega,fun k k1 k2=>by simp only at k2; omega,fun k k1 k2=>by simp only at k1; omega⟩ (by simp only; omega)
  rintro ih1 ⟨ys,i,j,⟨⟩⟩ ⟨hy,hi,hij,hj,lo,hi'⟩ hih
  simp only at hy hi hij hj lo hi' hih⊢
  subst hy
  have pm:=h.get d (i:=m) (by omega) (by omega)
  by_cases hc:i<j
  ·have em:=qkP (x:=i) (y:=j) (by omega) (by omega) (by omega)
   have em1:qI .i64 ((i+j) / 2) 1=(i+j) / 2+1:=qas (by omega) (by omega)
   have ph:=h.get d (i:=(i+j) / 2) (by omega) (by omega)
   obtain ⟨c,e3,e4⟩:=qjB hφ pm ph
   simp only [ltT hc,cond_true,em,em1,h.inB (i:=(i+j) / 2) (by omega) (by omega),h.inB (i:=m) (by omega) (by omega),e3,qd,qg,Bool.and_self]
   rcases e4 with ⟨c0,-,c2⟩|⟨c0,c1⟩
   ·simp only [ltT c0,Bool.not_true,cond_false]
    refine hih _ ⟨rfl,hi,by simp only; omega,by simp only; omega,lo,fun k k1 k2=> ?_⟩ (by simp only; omega)
    simp only at k1
    exact hφ.trans _ _ _ pm ph (h.get d (by omega) (by omega)) c2 (sl ((i+j) / 2) k (by omega) k1 k2)
   ·simp only [ltF c0,Bool.not_false,cond_true]
    refine hih _ ⟨rfl,by simp only; omega,by simp only; omega,hj,fun k k1 k2=> ?_,hi'⟩ (by simp only; omega)
    simp only at k2
    exact hφ.trans _ _ _ (h.get d (by omega) (by omega)) ph pm (sl k ((i+j) / 2) k1 (by omega) (by omega)) c1
  ·have:i=j:=by omega
   subst this
   simp only [ltF hc,cond_false]
   refine qat (S:=List α×(Int×Unit)) (fun p=>(p.2.1 - i).toNat) (fun p=>Seg d n a b ys p.1∧i≤p.2.1∧p.2.1≤m∧∀k,0≤k→k<(n:Int)→qf p.1 k d=if p.2.1<k∧k≤m then qf ys (k - 1) d else if k=p.2.1 then qf ys m d else qf ys k d) (qkQ P d n le a b ys) ?_ N _ ⟨.refl d _ _ ys,by simp only; omega,by simp only; omega,fun k k0 k1=>by
    simp only
    rw [if_neg (by omega)]
    by_cases w:k=m
    ·rw [if_pos w,w]
    ·rw [if_neg w]⟩ (by simp only; omega)
   rintro jh ⟨zs,k,⟨⟩⟩ ⟨hz,hk,hki,hg⟩ hjh
   simp only at hz hk hki hg hjh⊢
   have hzc:=hz.ck d h
   by_cases hk2:i<k
   ·have s1:qE .i64 k 1=k - 1:=qak (by omega) (by omega)
    simp only [ltT hk2,s1,hzc.inB (i:=k) (by omega) (by omega),hzc.inB (i:=k - 1) (by omega) (by omega),qdf,Bool.and_self,cond_true]
    have g:=qd6 d hzc.len (i:=k) (j:=k - 1) (by omega) (by omega) (by omega) (by omega)
    refine hjh (swp d zs k (k - 1),(k - 1,())) ⟨hz.trans d (qdr d hzc.len ha hb (by omega) (by omega) (by omega) (by omega)),by simp only; omega,by simp only; omega,fun x x0 x1=> ?_⟩ (by simp only; omega)
    simp only
    rw [g x x0]
    by_cases w1:x=k - 1
    ·rw [if_pos w1,if_neg (by omega),if_pos w1,hg k (by omega) (by omega),if_neg (by omega),if_pos rfl]
    rw [if_neg w1]
    by_cases w2:x=k
    ·rw [if_pos w2,if_pos (by omega),hg (k - 1) (by omega) (by omega),if_neg (by omega),if_neg (by omega),w2]
    rw [if_neg w2,hg x x0 x1]
    by_cases w3:k<x∧x≤m
    ·rw [if_pos w3,if_pos (by omega)]
    ·rw [if_neg w3,if_neg w2,if_neg (by omega),if_neg w1]
   ·have:k=i:=by omega
    subst this
    simp only [ltF hk2,cond_false]
    refine ⟨zs,rfl,hz,fun x y x1 x2 x3=> ?_⟩
    rw [hg x (by omega) (by omega),hg y (by omega) (by omega)]
    by_cases w1:k<x∧x≤m
    ·rw [if_pos w1,if_pos (by omega:k<y∧y≤m)]
     exact sl (x - 1) (y - 1) (by omega) (by omega) (by omega)
    ·rw [if_neg w1]
     by_cases w2:x=k
     ·rw [if_pos w2]
      by_cases w3:k<y∧y≤m
      ·rw [if_pos w3]; exact hi' (y - 1) (by omega) (by omega)
      ·rw [if_neg w3,if_pos (by omega:y=k)]; exact hφ.refl pm
     ·rw [if_neg w2]
      by_cases w3:k<y∧y≤m
      ·rw [if_pos w3]; exact sl x (y - 1) (by omega) (by omega) (by omega)
      ·rw [if_neg w3]
       by_cases w4:y=k
       ·rw [if_pos w4]; exact lo x (by omega) (by omega)
       ·rw [if_neg w4]; exact sl x y (by omega) x2 (by omega)
 simp only [eqF q2,cond_false]
 have em:=qkP (x:=a) (y:=b) (by omega) (by omega) (by omega)
 rw [em]
 generalize hmid:(a+b) / 2=mid
 have hm1:a<mid:=by omega
 have hm2:mid<b:=by omega
 have en:qI .i64 mid m=mid+m:=qas (by omega) (by omega)
 have en2:qE .i64 (mid+m) b=mid+m - b:=qak (by omega) (by omega)
 have en3:qE .i64 (mid+m) 1=mid+m - 1:=qak (by omega) (by omega)
 simp only [en,en2,en3]
 obtain ⟨st,r,hst,hr,g1,g2,g3,g4,g5,g6,g7⟩:∃st r:Int,(bif ltI mid m then mid+m - b else a)=st∧(bif ltI mid m then mid else m)=r∧a≤st∧st≤r∧r≤mid∧r≤m∧mid+m - st≤b∧(st=a∨mid+m - st=b)∧(r=mid∨r=m):=by
  by_cases hq:mid<m
  ·exact ⟨_,_,rfl,rfl,by rw [ltT hq]; simp only [cond_true]; exact ⟨by omega,by omega,by omega,by omega,by omega,.inr (by omega),.inl trivial⟩⟩
  ·exact ⟨_,_,rfl,rfl,by rw [ltF hq]; simp only [cond_false]; exact ⟨by omega,by omega,by omega,by omega,by omega,.inl trivial,.inr trivial⟩⟩
 simp only [hst,hr]
 refine qat (S:=List α×(Int×(Int×Unit))) (fun p=>(p.2.2.1 - p.2.1).toNat) (fun p=>p.1=xs∧st≤p.2.1∧p.2.1≤p.2.2.1∧p.2.2.1≤r∧(st<p.2.1→le (qf xs (p.2.1 - 1) d) (qf xs (mid+m - p.2.1) d))∧(p.2.2.1<r→le (qf xs (mid+m - 1 - p.2.2.1) d) (qf xs p.2.2.1 d))) (qkQ P d n le a b xs) ?_ N _ ⟨rfl,by simp only; omega,by simp only; omega,by simp only; omega,fun w=>by simp only at w; omega,fun w=>by simp only at w; omega⟩ (by simp only; omega)
 rintro ih1 ⟨ys,i,j,⟨⟩⟩ ⟨hy,hi,hij,hj,lo,hi'⟩ hih
 simp only at hy hi hij hj lo hi' hih⊢
 subst hy
 by_cases hc:i<j
 ·have em:=qkP (x:=i) (y:=j) (by omega) (by omega) (by omega)
  have em1:qI .i64 ((i+j) / 2) 1=(i+j) / 2+1:=qas (by omega) (by omega)
  have em2:qE .i64 (mid+m - 1) ((i+j) / 2)=mid+m - 1 - (i+j) / 2:=qak (by omega) (by omega)
  obtain ⟨c,e3,e4⟩:=qjB hφ (h.get d (i:=mid+m - 1 - (i+j) / 2) (by omega) (by omega)) (h.get d (i:=(i+j) / 2) (by omega) (by omega))
  simp only [ltT hc,cond_true,em,em1,em2,h.inB (i:=mid+m - 1 - (i+j) / 2) (by omega) (by omega),h.inB (i:=(i+j) / 2) (by omega) (by omega),e3,qd,qg,Bool.and_self]
  rcases e4 with ⟨c0,-,c2⟩|⟨c0,c1⟩
  ·simp only [ltT c0,Bool.not_true,cond_false]
   exact hih _ ⟨rfl,hi,by simp only; omega,by simp only; omega,lo,fun _=>c2⟩ (by simp only; omega)
  ·simp only [ltF c0,Bool.not_false,cond_true]
   refine hih _ ⟨rfl,by simp only; omega,by simp only; omega,hj,fun _=> ?_,hi'⟩ (by simp only; omega)
   simp only
   rw [show (i+j) / 2+1 - 1=(i+j) / 2 by omega,show mid+m - ((i+j) / 2+1)=mid+m - 1 - (i+j) / 2 by omega]
   exact c1
 ·have hijq:i=j:=by omega
  subst hijq
  have ee:qE .i64 (mid+m) i=mid+m - i:=qak (by omega) (by omega)
  simp only [ltF hc,cond_false,ee]
  generalize hen:mid+m - i=en at *
  obtain ⟨zs,z1,z2,z3,z4⟩:∃zs,Seg d n a b ys zs∧(bif (ltI i m&&ltI m en) then qu (qdV d N (ys,(i,(m,(en,(φ,())))))) else true)=true∧(bif (ltI i m&&ltI m en) then (qh (qdV d N (ys,(i,(m,(en,(φ,())))))) ((),(([]:List α),()))).2.1 else ys)=zs∧∀k,0≤k→k<(n:Int)→qf zs k d=qtt d ys i m en k:=by
   by_cases hq:i<m∧m<en
   ·obtain ⟨out,k1,k2,k3⟩:=qsf (φ:=φ) (P:=P) d hn hN h (a:=i) (m:=m) (b:=en) (by omega) hq.1 hq.2 (by omega)
    exact ⟨out,k2.mono d ha hb (by omega) (by omega),by simp only [ltT hq.1,ltT hq.2,Bool.and_self,cond_true,k1,qd],by simp only [ltT hq.1,ltT hq.2,Bool.and_self,cond_true,k1,qg],k3⟩
   ·have e:(ltI i m&&ltI m en)=false:=by
     by_cases hq1:i<m
     ·rw [ltF (fun hq2=>hq ⟨hq1,hq2⟩),Bool.and_false]
     ·rw [ltF hq1,Bool.false_and]
    refine ⟨ys,.refl d _ _ ys,by simp only [e,cond_false],by simp only [e,cond_false],fun k k0 k1=> ?_⟩
    by_cases w0:i≤k∧k<en
    ·by_cases w1:i=m
     ·rw [qhd d ys (by omega) (by omega)]; congr 1; omega
     ·rw [qhh d ys (by omega) (by omega)]; congr 1; omega
    ·rw [qgn d ys (by omega) (by omega) (by omega)]
  have zc:=z1.ck d h
  simp only [z2,z3,cond_true]
  have hL1:∀k,a≤k→k<i→qf zs k d=qf ys k d:=fun k k1 k2=>by rw [z4 k (by omega) (by omega),qgn d ys (by omega) (by omega) (by omega)]
  have hL2:∀k,i≤k→k<mid→qf zs k d=qf ys (k+(m - i)) d:=fun k k1 k2=>by rw [z4 k (by omega) (by omega),qhd d ys (by omega) (by omega)]
  have hR1:∀k,mid≤k→k<en→qf zs k d=qf ys (k - (en - m)) d:=fun k k1 k2=>by rw [z4 k (by omega) (by omega),qhh d ys (by omega) (by omega)]
  have hR2:∀k,en≤k→k<b→qf zs k d=qf ys k d:=fun k k1 k2=>by rw [z4 k (by omega) (by omega),qgn d ys (by omega) (by omega) (by omega)]
  have cross:∀x y,a≤x→x<mid→mid≤y→y<b→le (qf zs x d) (qf zs y d):=fun x y x1 x2 y1 y2=>by
   by_cases wx:x<i
   ·rw [hL1 x x1 wx]
    by_cases wy:y<en
    ·rw [hR1 y y1 wy]; exact sl x _ x1 (by omega) (by omega)
    ·rw [hR2 y (by omega) y2]
     have:=lo (by omega)
     refine hφ.trans _ _ _ (h.get d (by omega) (by omega)) (h.get d (i:=i - 1) (by omega) (by omega)) (h.get d (by omega) (by omega)) (sl x (i - 1) x1 (by omega) (by omega)) (hφ.trans _ _ _ (h.get d (i:=i - 1) (by omega) (by omega)) (h.get d (i:=en) (by omega) (by omega)) (h.get d (by omega) (by omega)) this (sr en y (by omega) (by omega) y2))
   ·rw [hL2 x (by omega) x2]
    by_cases wy:y<en
    ·rw [hR1 y y1 wy]
     have:=hi' (by omega)
     rw [show mid+m - 1 - i=en - 1 by omega] at this
     refine hφ.trans _ _ _ (h.get d (by omega) (by omega)) (h.get d (i:=en - 1) (by omega) (by omega)) (h.get d (by omega) (by omega)) (sr _ (en - 1) (by omega) (by omega) (by omega)) (hφ.trans _ _ _ (h.get d (i:=en - 1) (by omega) (by omega)) (h.get d (i:=i) (by omega) (by omega)) (h.get d (by omega) (by omega)) this (sl i _ (by omega) (by omega) (by omega)))
    ·rw [hR2 y (by omega) y2]; exact sr _ y (by omega) (by omega) y2
  have s1:Srt d le a i zs:=fun x y x1 x2 x3=>by rw [hL1 x x1 (by omega),hL1 y (by omega) x3]; exact sl x y x1 x2 (by omega)
  have s2:Srt d le i mid zs:=fun x y x1 x2 x3=>by rw [hL2 x x1 (by omega),hL2 y (by omega) x3]; exact sr _ _ (by omega) (by omega) (by omega)
  have s3:Srt d le mid en zs:=fun x y x1 x2 x3=>by rw [hR1 x x1 (by omega),hR1 y (by omega) x3]; exact sl _ _ (by omega) (by omega) (by omega)
  have s4:Srt d le en b zs:=fun x y x1 x2 x3=>by rw [hR2 x x1 (by omega),hR2 y (by omega) x3]; exact sr x y (by omega) x2 x3
  obtain ⟨ws,w1,w2,w3,w4⟩:∃ws,Seg d n a mid zs ws∧(bif (ltI a i&&ltI i mid) then qu (Fs (zs,(a,(i,(mid,(φ,())))))) else true)=true∧(bif (ltI a i&&ltI i mid) then (qh (Fs (zs,(a,(i,(mid,(φ,())))))) ((),(([]:List α),()))).2.1 else zs)=ws∧Srt d le a mid ws:=by
   by_cases hq:a<i∧i<mid
   ·obtain ⟨out,k1,k2,k3⟩:=ih zs zc a i mid ha hq.1 hq.2 (by omega) (by omega) s1 s2
    exact ⟨out,k2,by simp only [ltT hq.1,ltT hq.2,Bool.and_self,cond_true,k1,qd],by simp only [ltT hq.1,ltT hq.2,Bool.and_self,cond_true,k1,qg],k3⟩
   ·have e:(ltI a i&&ltI i mid)=false:=by
     by_cases hq1:a<i
     ·rw [ltF (fun hq2=>hq ⟨hq1,hq2⟩),Bool.and_false]
     ·rw [ltF hq1,Bool.false_and]
    refine ⟨zs,.refl d _ _ zs,by simp only [e,cond_false],by simp only [e,cond_false],?_⟩
    by_cases hq1:a<i
    ·rw [show mid=i by omega]; exact s1
    ·rw [show a=i by omega]; exact s2
  have wc:=w1.ck d zc
  simp only [w2,w3,cond_true]
  have s3':Srt d le mid en ws:=fun x y x1 x2 x3=>by rw [w1.out x (by omega) (by omega) (by omega),w1.out y (by omega) (by omega) (by omega)]; exact s3 x y x1 x2 x3
  have s4':Srt d le en b ws:=fun x y x1 x2 x3=>by rw [w1.out x (by omega) (by omega) (by omega),w1.out y (by omega) (by omega) (by omega)]; exact s4 x y x1 x2 x3
  have cross':∀x y,a≤x→x<mid→mid≤y→y<b→le (qf ws x d) (qf ws y d):=fun x y x1 x2 y1 y2=>by
   obtain ⟨k,k1,k2,k3⟩:=w1.inn x x1 x2
   rw [k3,w1.out y (by omega) (by omega) (by omega)]; exact cross k y k1 k2 y1 y2
  have last:∀out,Seg d n mid b ws out→Srt d le mid b out→qkQ P d n le a b ys (some ((),(out,()))):=fun out o1 o2=>by
   refine ⟨out,rfl,z1.trans d ((w1.mono d ha hb (by omega) (by omega)).trans d (o1.mono d ha hb (by omega) (by omega))),fun x y x1 x2 x3=> ?_⟩
   by_cases wy:y<mid
   ·rw [o1.out x (by omega) (by omega) (by omega),o1.out y (by omega) (by omega) (by omega)]; exact w4 x y x1 x2 wy
   ·by_cases wx:x<mid
    ·obtain ⟨k,k1,k2,k3⟩:=o1.inn y (by omega) x3
     rw [k3,o1.out x (by omega) (by omega) (by omega)]; exact cross' x k x1 wx k1 k2
    ·exact o2 x y (by omega) x2 x3
  by_cases hq:mid<en∧en<b
  ·obtain ⟨out,k1,k2,k3⟩:=ih ws wc mid en b (by omega) hq.1 hq.2 hb (by omega) s3' s4'
   simp only [ltT hq.1,ltT hq.2,Bool.and_self,cond_true,k1,qd,qg]
   exact last out k2 k3
  ·have e:(ltI mid en&&ltI en b)=false:=by
    by_cases hq1:mid<en
    ·rw [ltF (fun hq2=>hq ⟨hq1,hq2⟩),Bool.and_false]
    ·rw [ltF hq1,Bool.false_and]
   simp only [e,cond_false,cond_true]
   refine last ws (.refl d _ _ ws) ?_
   by_cases hq1:mid<en
   ·have:en=b:=by omega
    rw [←this]; exact s3'
   ·have:mid=en:=by omega
    rw [this]; exact s4'
theorem qjK (hφ:Cmp P φ le) (hn:n≤1099511627776) (hN:2 * n+1<N):∀M:Nat,qwc P d n le φ M (qf3 d N M)
 |0=>fun xs h a m b ha h1 h2 hb hM=>by omega
 |M+1=>qrO d hφ hn hN (qjK hφ hn hN M)
inductive Bk (d:α) (le:α→α→Prop) (n:Nat) (s:Int) (xs:List α):Int→Prop where
 |last {a:Int} :a≤(n:Int)→(n:Int)≤a+s→Srt d le a (n:Int) xs→Bk d le n s xs a
 |step {a:Int} :a+s≤(n:Int)→Srt d le a (a+s) xs→Bk d le n s xs (a+s)→Bk d le n s xs a
inductive Pf (d:α) (le:α→α→Prop) (s:Int) (xs:List α):Int→Prop where
 |zero:Pf d le s xs 0
 |step {a:Int} :0≤a→Pf d le s xs a→Srt d le a (a+s) xs→Pf d le s xs (a+s)
theorem Pf.bk {s:Int} {xs:List α} :∀ {a:Int},Pf d le s xs a→a≤(n:Int)→0≤s→Bk d le n s xs a→Bk d le n s xs 0
 |_,.zero,_,_,h=>h
 |_,.step h0 hp hs,hn,h0s,h=>hp.bk (by omega) h0s (.step (by omega) hs h)
theorem Srt.same {a b:Int} {xs ys:List α} (h:Srt d le a b xs) (he:∀k,a≤k→k<b→qf ys k d=qf xs k d):Srt d le a b ys:=fun x y x1 x2 x3=>by
 rw [he x x1 (by omega),he y (by omega) x3]; exact h x y x1 x2 x3
theorem Pf.same {s:Int} {xs ys:List α} (h0s:0≤s):∀ {a:Int},Pf d le s xs a→(∀k,0≤k→k<a→qf ys k d=qf xs k d)→Pf d le s ys a
 |_,.zero,_=> .zero
 |_,.step h0 hp hs,he=> .step h0 (hp.same h0s fun k k0 k1=>he k k0 (by omega)) (hs.same d fun k k0 k1=>he k (by omega) (by omega))
theorem Bk.same {s:Int} {xs ys:List α} (h0s:0≤s):∀ {a:Int},Bk d le n s xs a→(∀k,a≤k→k<(n:Int)→qf ys k d=qf xs k d)→Bk d le n s ys a
 |_,.last h1 h2 hs,he=> .last h1 h2 (hs.same d fun k k0 k1=>he k k0 k1)
 |_,.step h1 hs hb,he=> .step h1 (hs.same d fun k k0 k1=>he k k0 (by omega)) (hb.same h0s fun k k0 k1=>he k (by omega) k1)
theorem Bk.two {s a:Int} {xs:List α} (h:Bk d le n s xs a) (hs:1≤s) (hb:a+2 * s≤(n:Int)):Srt d le a (a+s) xs∧Srt d le (a+s) (a+2 * s) xs∧Bk d le n s xs (a+2 * s):=by
 cases h with
 |last h1 h2 h3=>omega
 |step h1 h2 h3=>
  refine ⟨h2,?_⟩
  generalize hq:a+s=q at *
  rw [show a+2 * s=q+s by omega]
  cases h3 with
  |last k1 k2 k3=>
   have:(n:Int)=q+s:=by omega
   exact ⟨by rw [←this]; exact k3,by rw [←this]; exact .last (Int.le_refl _) (by omega) fun x y x1 x2 x3=>by omega⟩
  |step k1 k2 k3=>exact ⟨k2,k3⟩
theorem Bk.one {s a:Int} {xs:List α} (h:Bk d le n s xs a) (hs:1≤s) (hb:(n:Int)<a+2 * s) (hm:a+s<(n:Int)):Srt d le a (a+s) xs∧Srt d le (a+s) (n:Int) xs:=by
 cases h with
 |last h1 h2 h3=>omega
 |step h1 h2 h3=>
  refine ⟨h2,?_⟩
  generalize hq:a+s=q at *
  cases h3 with
  |last k1 k2 k3=>exact k3
  |step k1 k2 k3=>omega
theorem Bk.nil {s a:Int} {xs:List α} (h:Bk d le n s xs a) (hm:(n:Int)≤a+s):Srt d le a (n:Int) xs:=by
 cases h with
 |last h1 h2 h3=>exact h3
 |step h1 h2 h3=>
  have:(n:Int)=a+s:=by omega
  rw [this]; exact h2
theorem qsk (hφ:Cmp P φ le) (hn:n≤1099511627776) (hN:2 * n+100<N) {xs:List α} (h:Ck P n xs):qkQ P d n le 0 (n:Int) xs (qlJ d N (xs,((n:Int),(φ,())))):=by
 simp only [qlJ,qJ]
 refine qat (S:=List α×(Int×(Int×Unit))) (fun p=>((n:Int)+20 - p.2.2.1).toNat) (fun p=>Seg d n 0 (n:Int) xs p.1∧0≤p.2.1∧p.2.1≤(n:Int)∧p.2.2.1=p.2.1+20∧Pf d le 20 p.1 p.2.1) (qkQ P d n le 0 (n:Int) xs) ?_ N _ ⟨.refl d _ _ xs,by simp only; omega,by simp only; omega,by simp only; omega,.zero⟩ (by simp only; omega)
 rintro ih ⟨ys,a,b,⟨⟩⟩ ⟨hs,ha,ha2,hb,hp⟩ hih
 simp only at hs ha ha2 hb hp hih⊢
 have hc:=hs.ck d h
 by_cases q:b≤(n:Int)
 ·obtain ⟨out,o1,o2,o3⟩:=qiX d (N:=N) hφ hn (by omega) hc (a:=a) (b:=b) ha ha2 q
  have e1:qI .i64 b 20=b+20:=qas (by omega) (by omega)
  simp only [leT q,cond_true,o1,qd,qg,e1]
  subst hb
  exact hih _ ⟨hs.trans d (o2.mono d (Int.le_refl 0) (Int.le_refl _) ha q),by simp only; omega,by simp only; omega,by simp only,.step ha (hp.same d (by omega) fun k k0 k1=>o2.out k k0 (by omega) (by omega)) o3⟩ (by simp only; omega)
 ·obtain ⟨out,o1,o2,o3⟩:=qiX d (N:=N) hφ hn (by omega) hc (a:=a) (b:=(n:Int)) ha ha2 (Int.le_refl _)
  simp only [leF q,cond_false,o1,qd,qg,cond_true]
  have hbk:Bk d le n 20 out 0:=(hp.same d (by omega) fun k k0 k1=>o2.out k k0 (by omega) (by omega)).bk d ha2 (by omega) (.last ha2 (by omega) o3)
  refine qat (S:=List α×(Int×Unit)) (fun p=>((n:Int) - p.2.1).toNat) (fun p=>Seg d n 0 (n:Int) xs p.1∧1≤p.2.1∧p.2.1≤2 * (n:Int)+20∧Bk d le n p.2.1 p.1 0) (qkQ P d n le 0 (n:Int) xs) ?_ N _ ⟨hs.trans d (o2.mono d (Int.le_refl 0) (Int.le_refl _) ha (Int.le_refl _)),by simp only; omega,by simp only; omega,hbk⟩ (by simp only; omega)
  rintro jh ⟨ys,s,⟨⟩⟩ ⟨hs,hs1,hs2,hk⟩ hjh
  simp only at hs hs1 hs2 hk hjh⊢
  have hc:=hs.ck d h
  by_cases hsn:s<(n:Int)
  ·have e1:qkw .i64 2 s=2 * s:=by rw [qdJ,qdm (by omega) (by omega)]
   have e2:qkw .i64 s 2=2 * s:=by rw [qdJ,qdm (by omega) (by omega)]; omega
   simp only [ltT hsn,cond_true,e1,e2]
   refine qat (S:=List α×(Int×(Int×Unit))) (fun p=>((n:Int)+2 * s - p.2.2.1).toNat) (fun p=>Seg d n 0 (n:Int) xs p.1∧0≤p.2.1∧p.2.1≤(n:Int)∧p.2.2.1=p.2.1+2 * s∧Pf d le (2 * s) p.1 p.2.1∧Bk d le n s p.1 p.2.1) (qkQ P d n le 0 (n:Int) xs) ?_ N _ ⟨hs,by simp only; omega,by simp only; omega,by simp only; omega,.zero,hk⟩ (by simp only; omega)
   rintro kh ⟨zs,a,b,⟨⟩⟩ ⟨hz,ha,ha2,hb,hp,hk⟩ hkh
   simp only at hz ha ha2 hb hp hk hkh⊢
   have hzc:=hz.ck d h
   have e3:qI .i64 a s=a+s:=qas (by omega) (by omega)
   by_cases q:b≤(n:Int)
   ·subst hb
    obtain ⟨b1,b2,b3⟩:=hk.two d hs1 q
    obtain ⟨out,o1,o2,o3⟩:=qjK d hφ hn (by omega:2 * n+1<N) N zs hzc a (a+s) (a+2 * s) ha (by omega) (by omega) q (by omega) b1 b2
    have e4:qI .i64 (a+2 * s) (2 * s)=a+2 * s+2 * s:=qas (by omega) (by omega)
    have o1':qlz d N (zs,(a,(a+s,(a+2 * s,(φ,())))))=some ((),(out,())):=o1
    simp only [leT q,cond_true,e3,o1',qd,qg,e4]
    exact hkh _ ⟨hz.trans d (o2.mono d (Int.le_refl 0) (Int.le_refl _) ha q),by simp only; omega,by simp only; omega,by simp only,.step ha (hp.same d (by omega) fun k k0 k1=>o2.out k k0 (by omega) (by omega)) o3,b3.same d (by omega) fun k k0 k1=>o2.out k (by omega) k1 (by omega)⟩ (by simp only; omega)
   ·simp only [leF q,cond_false,e3]
    have fin:∀out,Seg d n a (n:Int) zs out→Srt d le a (n:Int) out→qkQ P d n le 0 (n:Int) xs (jh (out,(2 * s,()))):=fun out o1 o2=>
     hjh _ ⟨hz.trans d (o1.mono d (Int.le_refl 0) (Int.le_refl _) ha (Int.le_refl _)),by simp only; omega,by simp only; omega,(hp.same d (by omega) fun k k0 k1=>o1.out k k0 (by omega) (by omega)).bk d ha2 (by omega) (.last ha2 (by omega) o2)⟩ (by simp only; omega)
    by_cases hq:a+s<(n:Int)
    ·obtain ⟨b1,b2⟩:=hk.one d hs1 (by omega) hq
     obtain ⟨out,o1,o2,o3⟩:=qjK d hφ hn (by omega:2 * n+1<N) N zs hzc a (a+s) (n:Int) ha (by omega) hq (Int.le_refl _) (by omega) b1 b2
     have o1':qlz d N (zs,(a,(a+s,((n:Int),(φ,())))))=some ((),(out,())):=o1
     simp only [ltT hq,cond_true,o1',qd,qg]
     exact fin out o2 o3
    ·simp only [ltF hq,cond_false,cond_true]
     exact fin zs (.refl d _ _ zs) (hk.nil d (by omega))
  ·simp only [ltF hsn,cond_false]
   exact ⟨ys,rfl,hs,hk.nil d (by omega)⟩
theorem qrM (hφ:Cmp P φ le) {xs:List α} (hn:xs.length≤1099511627776) (hN:2 * xs.length+100<N) (h:∀x∈xs,P x):∃out,qkf d N (xs,(φ,()))=some ((),(out,()))∧out.Perm xs∧Srt d le 0 (xs.length:Int) out:=by
 obtain ⟨out,o1,o2,o3⟩:=qsk d hφ hn hN ⟨rfl,h⟩
 refine ⟨out,?_,o2.perm,o3⟩
 simp only [qkf,qr,o1,qd,qg,cond_true]
end
end
end Go.Vi
set_option linter.unusedSimpArgs false
set_option maxRecDepth 100000
namespace Go.Vi
noncomputable section
abbrev qvz:Type:=Int×(List UInt8×(qbA×(qbA×Unit)))
def qwL (n:List UInt8) (k:qbA):qvz:=(2,(n,(k,(([]:qbA),()))))
def qsX (n:List UInt8) (r:qbA):qvz:=(1,(n,(([]:qbA),(r,()))))
def qgT (n:List UInt8) (pk:List Int):List qbA→List qbA→List qvz
 |[],[]=>[]
 |a::as,[]=>qwL n (qbW pk a)::qgT n pk as []
 |[],b::bs=>qsX n b::qgT n pk [] bs
 |a::as,b::bs=>if q9 (qbW pk a) (qbW pk b)<0 then qwL n (qbW pk a)::qgT n pk as (b::bs)
  else if 0<q9 (qbW pk a) (qbW pk b) then qsX n b::qgT n pk (a::as) bs
  else (if a=b then [] else [qsX n b])++qgT n pk as bs
termination_by a b=>a.length+b.length
theorem qpC (n:List UInt8) (pk:List Int):qgT n pk [] []=[]:=by rw [qgT]
theorem qoi (n:List UInt8) (pk:List Int) (a:qbA) (as:List qbA):qgT n pk (a::as) []=qwL n (qbW pk a)::qgT n pk as []:=by rw [qgT]
theorem qmv (n:List UInt8) (pk:List Int) (b:qbA) (bs:List qbA):qgT n pk [] (b::bs)=qsX n b::qgT n pk [] bs:=by rw [qgT]
theorem qn7 (n:List UInt8) (pk:List Int) (a b:qbA) (as bs:List qbA):qgT n pk (a::as) (b::bs)=if q9 (qbW pk a) (qbW pk b)<0 then qwL n (qbW pk a)::qgT n pk as (b::bs)
  else if 0<q9 (qbW pk a) (qbW pk b) then qsX n b::qgT n pk (a::as) bs
  else (if a=b then [] else [qsX n b])++qgT n pk as bs:=by rw [qgT]
theorem qin (n:List UInt8) (pk:List Int):(m:Nat)→(a b:List qbA)→a.length+b.length≤m→(qgT n pk a b).length≤a.length+b.length
 |m,[],[],_=>by rw [qpC]; simp
 |0,a::as,_,h=>by simp at h
 |0,[],b::bs,h=>by simp at h
 |m+1,a::as,[],h=>by
  have:=qin n pk m as [] (by simp at h⊢; omega)
  rw [qoi]; simp at this⊢; omega
 |m+1,[],b::bs,h=>by
  have:=qin n pk m [] bs (by simp at h⊢; omega)
  rw [qmv]; simp at this⊢; omega
 |m+1,a::as,b::bs,h=>by
  have h1:=qin n pk m as (b::bs) (by simp at h⊢; omega)
  have h2:=qin n pk m (a::as) bs (by simp at h⊢; omega)
  have h3:=qin n pk m as bs (by simp at h⊢; omega)
  rw [qn7]
  split
  ·simp at h1⊢; omega
  ·split
   ·simp at h2⊢; omega
   ·split
    ·simp at h3⊢; omega
    ·simp at h3⊢; omega
def qgf (pk:List Int) (rows:List qbA) (k:qbA):Option qbA:=rows.find? (fun r=>decide (qbW pk r=k))
def qny (n:List UInt8) (pk:List Int) (a b:List qbA) (k:qbA):List qvz:=match qgf pk b k with
 |none=>[qwL n k]
 |some rb=>match qgf pk a k with
  |none=>[qsX n rb]
  |some ra=>if ra=rb then [] else [qsX n rb]
abbrev qoG (pk:List Int) (rows:List qbA):Prop:=rows.Pairwise (fun a b=>q9 (qbW pk a) (qbW pk b)<0)
abbrev qqq (rows:List qbA):Prop:=rows.Pairwise (fun a b=>q9 a b<0)
theorem qcd (a:qbA):¬q9 a a<0:=by rw [(qfG a a).2 rfl]; omega
theorem qwD {a b:qbA} :0<q9 a b↔q9 b a<0:=by rw [qoE a b]; omega
theorem cmp_eq {a b:qbA} (h1:¬q9 a b<0) (h2:¬q9 b a<0):a=b:=by
 rw [qoE a b] at h2
 exact (qfG a b).1 (by omega)
theorem qdh (pk:List Int) (r:qbA) (rows:List qbA) (k:qbA):qgf pk (r::rows) k=if qbW pk r=k then some r else qgf pk rows k:=by
 unfold qgf
 rw [List.find?_cons]
 by_cases h:qbW pk r=k
 ·simp [h]
 ·simp [h]
theorem qke (pk:List Int) (k:qbA):qgf pk [] k=none:=rfl
theorem qkV {pk:List Int} {rows:List qbA} {k:qbA} (h:∀r∈rows,qbW pk r≠k):qgf pk rows k=none:=by
 unfold qgf
 rw [List.find?_eq_none]
 intro r hr
 simpa using h r hr
theorem qf5 {K:List qbA} (h:qqq K) {m:qbA} (hm:m∈K) (hl:∀x∈K,¬q9 x m<0):∃K',K=m::K'∧qqq K'∧∀x,x∈K'↔x∈K∧x≠m:=by
 cases K with
 |nil=>cases hm
 |cons k K'=>
  have hc:=List.pairwise_cons.1 h
  have hk:k=m:=by
   rcases List.mem_cons.1 hm with rfl|hm'
   ·rfl
   ·exact absurd (hc.1 m hm') (hl k List.mem_cons_self)
  subst hk
  refine ⟨K',rfl,hc.2,fun x=>⟨fun hx=>⟨List.mem_cons_of_mem _ hx,fun e=> ?_⟩,fun hx=>(List.mem_cons.1 hx.1).resolve_left hx.2⟩⟩
  subst e
  exact qcd _ (hc.1 x hx)
theorem qcZ {α β:Type} {f g:α→List β} : {l:List α} →(∀x∈l,f x=g x)→l.flatMap f=l.flatMap g
 |[],_=>rfl
 |x::l,h=>by
  rw [List.flatMap_cons,List.flatMap_cons,h x List.mem_cons_self,qcZ fun y hy=>h y (List.mem_cons_of_mem _ hy)]
theorem qgL (n:List UInt8) (pk:List Int):(m:Nat)→(a b K:List qbA)→a.length+b.length≤m→qoG pk a→qoG pk b→qqq K→
  (∀k,k∈K↔(∃r∈a,qbW pk r=k)∨∃r∈b,qbW pk r=k)→K.flatMap (qny n pk a b)=qgT n pk a b
 |m,[],[],K,_,_,_,_,hK=>by
  have:K=[]:=by
   apply List.eq_nil_iff_forall_not_mem.2
   intro k hk
   rcases (hK k).1 hk with ⟨_,h,_⟩|⟨_,h,_⟩ <;> cases h
  rw [this,qpC]; rfl
 |0,a::as,_,_,h,_,_,_,_=>by simp at h
 |0,[],b::bs,_,h,_,_,_,_=>by simp at h
 |m+1,a::as,[],K,hm,ha,hb,hs,hK=>by
  have hc:=List.pairwise_cons.1 ha
  have hmem:qbW pk a∈K:=(hK _).2 (.inl ⟨a,List.mem_cons_self,rfl⟩)
  obtain ⟨K',rfl,hs',hK'⟩:=qf5 hs hmem (fun x hx hlt=>by
   rcases (hK x).1 hx with ⟨r,hr,rfl⟩|⟨_,h,_⟩
   ·rcases List.mem_cons.1 hr with rfl|hr
    ·exact qcd _ hlt
    ·exact qcd _ (qck _ _ _ (hc.1 r hr) hlt)
   ·cases h)
  have hne:∀r∈as,qbW pk r≠qbW pk a:=fun r hr e=>by
   have:=hc.1 r hr; rw [e] at this; exact qcd _ this
  have ih:=qgL n pk m as [] K' (by simp at hm⊢; omega) hc.2 hb hs' (fun k=>by
   rw [hK' k,hK k]
   constructor
   ·rintro ⟨⟨r,hr,rfl⟩|⟨_,h,_⟩,h2⟩
    ·rcases List.mem_cons.1 hr with rfl|hr
     ·exact absurd rfl h2
     ·exact .inl ⟨r,hr,rfl⟩
    ·cases h
   ·rintro (⟨r,hr,rfl⟩|⟨_,h,_⟩)
    ·exact ⟨.inl ⟨r,List.mem_cons_of_mem _ hr,rfl⟩,hne r hr⟩
    ·cases h)
  rw [qoi,List.flatMap_cons,←ih]
  have e1:qny n pk (a::as) [] (qbW pk a)=[qwL n (qbW pk a)]:=by simp only [qny,qke]
  rw [e1,qcZ (g:=qny n pk as []) (fun x hx=>by simp only [qny,qke])]
  rfl
 |m+1,[],b::bs,K,hm,ha,hb,hs,hK=>by
  have hc:=List.pairwise_cons.1 hb
  have hmem:qbW pk b∈K:=(hK _).2 (.inr ⟨b,List.mem_cons_self,rfl⟩)
  obtain ⟨K',rfl,hs',hK'⟩:=qf5 hs hmem (fun x hx hlt=>by
   rcases (hK x).1 hx with ⟨_,h,_⟩|⟨r,hr,rfl⟩
   ·cases h
   ·rcases List.mem_cons.1 hr with rfl|hr
    ·exact qcd _ hlt
    ·exact qcd _ (qck _ _ _ (hc.1 r hr) hlt))
  have hne:∀r∈bs,qbW pk r≠qbW pk b:=fun r hr e=>by
   have:=hc.1 r hr; rw [e] at this; exact qcd _ this
  have ih:=qgL n pk m [] bs K' (by simp at hm⊢; omega) ha hc.2 hs' (fun k=>by
   rw [hK' k,hK k]
   constructor
   ·rintro ⟨⟨_,h,_⟩|⟨r,hr,rfl⟩,h2⟩
    ·cases h
    ·rcases List.mem_cons.1 hr with rfl|hr
     ·exact absurd rfl h2
     ·exact .inr ⟨r,hr,rfl⟩
   ·rintro (⟨_,h,_⟩|⟨r,hr,rfl⟩)
    ·cases h
    ·exact ⟨.inr ⟨r,List.mem_cons_of_mem _ hr,rfl⟩,hne r hr⟩)
  rw [qmv,List.flatMap_cons,←ih]
  have e1:qny n pk [] (b::bs) (qbW pk b)=[qsX n b]:=by simp only [qny,qke,qdh,if_true]
  rw [e1,qcZ (g:=qny n pk [] bs) (fun x hx=>by
   have hx2:=(hK' x).1 hx
   simp only [qny,qke,qdh,if_neg (fun e=>hx2.2 e.symm:¬qbW pk b=x)])]
  rfl
 |m+1,a::as,b::bs,K,hm,ha,hb,hs,hK=>by
  have hca:=List.pairwise_cons.1 ha
  have hcb:=List.pairwise_cons.1 hb
  have hnea:∀r∈as,qbW pk r≠qbW pk a:=fun r hr e=>by
   have:=hca.1 r hr; rw [e] at this; exact qcd _ this
  have hneb:∀r∈bs,qbW pk r≠qbW pk b:=fun r hr e=>by
   have:=hcb.1 r hr; rw [e] at this; exact qcd _ this
  have hma:qbW pk a∈K:=(hK _).2 (.inl ⟨a,List.mem_cons_self,rfl⟩)
  have hmb:qbW pk b∈K:=(hK _).2 (.inr ⟨b,List.mem_cons_self,rfl⟩)
  rw [qn7]
  by_cases h1:q9 (qbW pk a) (qbW pk b)<0
  ·rw [if_pos h1]
   have hb1:∀r∈b::bs,q9 (qbW pk a) (qbW pk r)<0:=fun r hr=>by
    rcases List.mem_cons.1 hr with rfl|hr
    ·exact h1
    ·exact qck _ _ _ h1 (hcb.1 r hr)
   have hb2:∀r∈b::bs,qbW pk r≠qbW pk a:=fun r hr e=>by
    have:=hb1 r hr; rw [e] at this; exact qcd _ this
   obtain ⟨K',rfl,hs',hK'⟩:=qf5 hs hma (fun x hx hlt=>by
    rcases (hK x).1 hx with ⟨r,hr,rfl⟩|⟨r,hr,rfl⟩
    ·rcases List.mem_cons.1 hr with rfl|hr
     ·exact qcd _ hlt
     ·exact qcd _ (qck _ _ _ (hca.1 r hr) hlt)
    ·exact qcd _ (qck _ _ _ (hb1 r hr) hlt))
   have ih:=qgL n pk m as (b::bs) K' (by simp at hm⊢; omega) hca.2 hb hs' (fun k=>by
    rw [hK' k,hK k]
    constructor
    ·rintro ⟨⟨r,hr,rfl⟩|h,h2⟩
     ·rcases List.mem_cons.1 hr with rfl|hr
      ·exact absurd rfl h2
      ·exact .inl ⟨r,hr,rfl⟩
     ·exact .inr h
    ·rintro (⟨r,hr,rfl⟩|⟨r,hr,rfl⟩)
     ·exact ⟨.inl ⟨r,List.mem_cons_of_mem _ hr,rfl⟩,hnea r hr⟩
     ·exact ⟨.inr ⟨r,hr,rfl⟩,hb2 r hr⟩)
   rw [List.flatMap_cons,←ih]
   have e1:qny n pk (a::as) (b::bs) (qbW pk a)=[qwL n (qbW pk a)]:=by simp only [qny,qkV hb2]
   rw [e1,qcZ (g:=qny n pk as (b::bs)) (fun x hx=>by
    have hx2:=(hK' x).1 hx
    have e2:qgf pk (a::as) x=qgf pk as x:=by rw [qdh,if_neg (fun e=>hx2.2 e.symm)]
    simp only [qny,e2])]
   rfl
  rw [if_neg h1]
  by_cases h2:0<q9 (qbW pk a) (qbW pk b)
  ·rw [if_pos h2]
   have h2':=qwD.1 h2
   have ha1:∀r∈a::as,q9 (qbW pk b) (qbW pk r)<0:=fun r hr=>by
    rcases List.mem_cons.1 hr with rfl|hr
    ·exact h2'
    ·exact qck _ _ _ h2' (hca.1 r hr)
   have ha2:∀r∈a::as,qbW pk r≠qbW pk b:=fun r hr e=>by
    have:=ha1 r hr; rw [e] at this; exact qcd _ this
   obtain ⟨K',rfl,hs',hK'⟩:=qf5 hs hmb (fun x hx hlt=>by
    rcases (hK x).1 hx with ⟨r,hr,rfl⟩|⟨r,hr,rfl⟩
    ·exact qcd _ (qck _ _ _ (ha1 r hr) hlt)
    ·rcases List.mem_cons.1 hr with rfl|hr
     ·exact qcd _ hlt
     ·exact qcd _ (qck _ _ _ (hcb.1 r hr) hlt))
   have ih:=qgL n pk m (a::as) bs K' (by simp at hm⊢; omega) ha hcb.2 hs' (fun k=>by
    rw [hK' k,hK k]
    constructor
    ·rintro ⟨h|⟨r,hr,rfl⟩,h3⟩
     ·exact .inl h
     ·rcases List.mem_cons.1 hr with rfl|hr
      ·exact absurd rfl h3
      ·exact .inr ⟨r,hr,rfl⟩
    ·rintro (⟨r,hr,rfl⟩|⟨r,hr,rfl⟩)
     ·exact ⟨.inl ⟨r,hr,rfl⟩,ha2 r hr⟩
     ·exact ⟨.inr ⟨r,List.mem_cons_of_mem _ hr,rfl⟩,hneb r hr⟩)
   rw [List.flatMap_cons,←ih]
   have e1:qny n pk (a::as) (b::bs) (qbW pk b)=[qsX n b]:=by simp only [qny,qdh pk b,if_true,qkV ha2]
   rw [e1,qcZ (g:=qny n pk (a::as) bs) (fun x hx=>by
    have hx2:=(hK' x).1 hx
    have e2:qgf pk (b::bs) x=qgf pk bs x:=by rw [qdh,if_neg (fun e=>hx2.2 e.symm)]
    simp only [qny,e2])]
   rfl
  ·rw [if_neg h2]
   have he:qbW pk a=qbW pk b:=(qfG _ _).1 (by omega)
   obtain ⟨K',rfl,hs',hK'⟩:=qf5 hs hma (fun x hx hlt=>by
    rcases (hK x).1 hx with ⟨r,hr,rfl⟩|⟨r,hr,rfl⟩
    ·rcases List.mem_cons.1 hr with rfl|hr
     ·exact qcd _ hlt
     ·exact qcd _ (qck _ _ _ (hca.1 r hr) hlt)
    ·rcases List.mem_cons.1 hr with rfl|hr
     ·rw [he] at hlt; exact qcd _ hlt
     ·rw [he] at hlt; exact qcd _ (qck _ _ _ (hcb.1 r hr) hlt))
   have ih:=qgL n pk m as bs K' (by simp at hm⊢; omega) hca.2 hcb.2 hs' (fun k=>by
    rw [hK' k,hK k]
    constructor
    ·rintro ⟨⟨r,hr,rfl⟩|⟨r,hr,rfl⟩,h3⟩
     ·rcases List.mem_cons.1 hr with rfl|hr
      ·exact absurd rfl h3
      ·exact .inl ⟨r,hr,rfl⟩
     ·rcases List.mem_cons.1 hr with rfl|hr
      ·exact absurd he.symm h3
      ·exact .inr ⟨r,hr,rfl⟩
    ·rintro (⟨r,hr,rfl⟩|⟨r,hr,rfl⟩)
     ·exact ⟨.inl ⟨r,List.mem_cons_of_mem _ hr,rfl⟩,hnea r hr⟩
     ·exact ⟨.inr ⟨r,List.mem_cons_of_mem _ hr,rfl⟩,by rw [he]; exact hneb r hr⟩)
   rw [List.flatMap_cons,←ih]
   have e1:qny n pk (a::as) (b::bs) (qbW pk a)=if a=b then [] else [qsX n b]:=by
    simp only [qny,qdh pk b,qdh pk a,he,if_true]
   rw [e1,qcZ (g:=qny n pk as bs) (fun x hx=>by
    have hx2:=(hK' x).1 hx
    have e2:qgf pk (b::bs) x=qgf pk bs x:=by rw [qdh,if_neg (fun e=>hx2.2 (by rw [he,e]))]
    have e3:qgf pk (a::as) x=qgf pk as x:=by rw [qdh,if_neg (fun e=>hx2.2 e.symm)]
    simp only [qny,e2,e3])]
termination_by m=>m
theorem qwm {pk:List Int} {rows:List qbA} (h:qoG pk rows) {i:Nat} (hi:i<rows.length):qgf pk rows (qbW pk rows[i])=some rows[i]:=by
 have hm:=List.getElem_mem hi
 cases hf:qgf pk rows (qbW pk rows[i]) with
 |none=>
  unfold qgf at hf
  have:=List.find?_eq_none.1 hf _ hm
  simp at this
 |some r=>
  unfold qgf at hf
  have h1:=List.find?_some hf
  have h2:=List.mem_of_find?_eq_some hf
  obtain ⟨j,hj,rfl⟩:=List.getElem_of_mem h2
  have h1:qbW pk rows[j]=qbW pk rows[i]:=by simpa using h1
  rcases Nat.lt_trichotomy i j with q|q|q
  ·have:=List.pairwise_iff_getElem.1 h i j hi hj q
   rw [h1] at this; exact absurd this (qcd _)
  ·subst q; rfl
  ·have:=List.pairwise_iff_getElem.1 h j i hj hi q
   rw [h1] at this; exact absurd this (qcd _)
theorem find_look {pk:List Int} {rows:List qbA} (h:qoG pk rows) (k:qbA):
  ((qiA (fun r=>q9 (qbW pk r) k) rows).2=false∧qgf pk rows k=none)∨∃hi:(qiA (fun r=>q9 (qbW pk r) k) rows).1<rows.length,(qiA (fun r=>q9 (qbW pk r) k) rows).2=true∧qgf pk rows k=some (rows[(qiA (fun r=>q9 (qbW pk r) k) rows).1]'hi):=by
 have hany:(qiA (fun r=>q9 (qbW pk r) k) rows).2=rows.any (fun r=>decide (q9 (qbW pk r) k=0)):=qoN _ rows (h.imp fun {a b} hab h0=>by
  have hne:¬q9 (qbW pk b) k<0:=fun q=>absurd (qck _ _ _ hab q) (by omega)
  have hz:q9 (qbW pk b) k≠0:=fun q=>by
   have e:=(qfG _ _).1 q
   rw [e] at hab; omega
  omega)
 obtain ⟨s1,s2,s3⟩:=qn5 (fun r=>q9 (qbW pk r) k) rows
 generalize qiA (fun r=>q9 (qbW pk r) k) rows=q at *
 obtain ⟨i,b⟩:=q
 simp only at *
 cases b with
 |false=>
  left
  refine ⟨rfl,qkV fun r hr e=> ?_⟩
  have:=List.any_eq_false.1 hany.symm r hr
  simp only [decide_eq_true_eq] at this
  exact this ((qfG _ _).2 e)
 |true=>
  right
  have hi:i<rows.length:=Nat.lt_of_le_of_ne s1 fun e=>by cases s2 e
  refine ⟨hi,rfl,?_⟩
  obtain ⟨_,s5⟩:=s3 rows[i] (List.getElem?_eq_getElem hi)
  have hz:q9 (qbW pk rows[i]) k=0:=by simpa using s5.symm
  have:=qwm h hi
  rw [(qfG _ _).1 hz] at this
  exact this
def ddK (pk:List Int) (rows:List qbA):Nat→List qbA
 |0=>[]
 |n+1=>match rows[n]? with
  |none=>ddK pk rows n
  |some r=>if qbW pk r∈ddK pk rows n then ddK pk rows n else ddK pk rows n++[qbW pk r]
theorem qv9 (pk:List Int) (rows:List qbA):(n:Nat)→(ddK pk rows n).length≤n
 |0=>by simp [ddK]
 |n+1=>by
  have:=qv9 pk rows n
  simp only [ddK]
  split
  ·omega
  ·split
   ·omega
   ·simp; omega
theorem qv4 (pk:List Int) (rows:List qbA) (k:qbA):(n:Nat)→(k∈ddK pk rows n↔∃i r,i<n∧rows[i]? =some r∧qbW pk r=k)
 |0=>by simp [ddK]
 |n+1=>by
  have ih:=qv4 pk rows k n
  simp only [ddK]
  cases hr:rows[n]? with
  |none=>
   simp only
   rw [ih]
   constructor
   ·rintro ⟨i,r,h1,h2⟩; exact ⟨i,r,by omega,h2⟩
   ·rintro ⟨i,r,h1,h2,h3⟩
    rcases Nat.lt_succ_iff_lt_or_eq.1 h1 with h1|rfl
    ·exact ⟨i,r,h1,h2,h3⟩
    ·rw [hr] at h2; cases h2
  |some r=>
   simp only
   have key:(∃i r',i<n+1∧rows[i]? =some r'∧qbW pk r'=k)↔k∈ddK pk rows n∨qbW pk r=k:=by
    rw [ih]
    constructor
    ·rintro ⟨i,r',h1,h2,h3⟩
     rcases Nat.lt_succ_iff_lt_or_eq.1 h1 with h1|rfl
     ·exact .inl ⟨i,r',h1,h2,h3⟩
     ·rw [hr] at h2; injection h2 with h2; subst h2; exact .inr h3
    ·rintro (⟨i,r',h1,h2⟩|h)
     ·exact ⟨i,r',by omega,h2⟩
     ·exact ⟨n,r,by omega,hr,h⟩
   rw [key]
   split
   ·rename_i hin
    constructor
    ·exact .inl
    ·rintro (h|rfl)
     ·exact h
     ·exact hin
   ·rw [List.mem_append,List.mem_singleton]
    exact or_congr_right eq_comm
theorem qtT (pk:List Int) (rows:List qbA):(n:Nat)→(ddK pk rows n).Nodup
 |0=>by simp [ddK]
 |n+1=>by
  have ih:=qtT pk rows n
  simp only [ddK]
  split
  ·exact ih
  ·split
   ·exact ih
   ·rename_i r _ hin
    rw [List.nodup_append]
    exact ⟨ih,by simp,fun a ha b hb e=>by
     rw [List.mem_singleton] at hb
     subst hb; subst e
     exact hin ha⟩
end
end Go.Vi
