import Derived.Test.YtfcdfdnlgfebmaaViXD
set_option linter.unusedVariables false
set_option linter.unusedSimpArgs false
set_option linter.unnecessarySimpa false
set_option linter.unusedSectionVars false
namespace Go.Vi
noncomputable section
def ic (x y:Int):Int:=if x<y then -1 else if y<x then 1 else 0
def vc (a b:qlB):Int:=if ic a.1 b.1≠0 then ic a.1 b.1 else if ic a.2.1 b.2.1≠0 then ic a.2.1 b.2.1 else Lib.compareBytes a.2.2.1 b.2.2.1
theorem qat (x y:Int):(x<y∧ic x y= -1)∨(x=y∧ic x y=0)∨(y<x∧ic x y=1):=by
 unfold ic
 split
 ·simp [*]
 ·split
  ·simp [*]
  ·have:x=y:=by omega
   simp [this]
theorem qpF (a b:qlB):vc a b= -1∨vc a b=0∨vc a b=1:=by
 unfold vc
 have h1:=qat a.1 b.1
 have h2:=qat a.2.1 b.2.1
 have h3:=qmJ a.2.2.1 b.2.2.1
 split
 ·omega
 ·split
  ·omega
  ·exact h3
theorem qmj (a b:qlB):vc b a= - vc a b:=by
 have s:∀x y,ic y x= - ic x y:=fun x y=>by
  have h1:=qat x y
  have h2:=qat y x
  omega
 unfold vc
 rw [s a.1 b.1,s a.2.1 b.2.1,qoe]
 split <;> split <;> first|omega|(split <;> split <;> omega)
theorem qiX (a b:qlB):vc a b=0↔a=b:=by
 obtain ⟨k,n,s,_⟩:=a
 obtain ⟨k',n',s',_⟩:=b
 have h1:=qat k k'
 have h2:=qat n n'
 have h3:=ql7 s s'
 simp only [vc,Prod.mk.injEq,and_true]
 split
 ·rename_i h
  constructor
  ·intro h0; exact absurd h0 h
  ·rintro ⟨rfl,_⟩; omega
 ·split
  ·rename_i h
   constructor
   ·intro h0; exact absurd h0 h
   ·rintro ⟨_,rfl,_⟩; omega
  ·rw [h3]
   constructor
   ·intro h; exact ⟨by omega,by omega,h⟩
   ·exact fun h=>h.2.2
abbrev qkR:Type:=List qlB
def qaW:qkR→qkR→Int
 |[],ys=>ic 0 (ys.length:Int)
 |_::xs,[]=>ic ((xs.length:Int)+1) 0
 |x::xs,y::ys=>if vc x y≠0 then vc x y else qaW xs ys
theorem qqm (a b k:Int):ic (a+k) (b+k)=ic a b:=by
 unfold ic
 by_cases h1:a<b
 ·rw [if_pos h1,if_pos (by omega)]
 ·rw [if_neg h1,if_neg (by omega)]
  by_cases h2:b<a
  ·rw [if_pos h2,if_pos (by omega)]
  ·rw [if_neg h2,if_neg (by omega)]
theorem qnz (xs ys:qkR) (i:Nat) (h:¬(i<xs.length∧i<ys.length)) (hx:i≤xs.length) (hy:i≤ys.length):qaW (xs.drop i) (ys.drop i)=ic (xs.length:Int) (ys.length:Int):=by
 by_cases h1:i<xs.length
 ·have h2:¬i<ys.length:=fun h2=>h ⟨h1,h2⟩
  rw [List.drop_eq_getElem_cons h1,List.drop_of_length_le (l:=ys) (by omega),qaW]
  have e1:((xs.drop (i+1)).length:Int)+1=(xs.length:Int)+(-(i:Int)):=by rw [List.length_drop]; omega
  have e2:(0:Int)=(ys.length:Int)+(-(i:Int)):=by omega
  rw [e1,show ic ((xs.length:Int)+ -(i:Int)) 0=ic ((xs.length:Int)+ -(i:Int)) ((ys.length:Int)+ -(i:Int)) by rw [←e2],qqm]
 ·rw [List.drop_of_length_le (l:=xs) (by omega)]
  rw [qaW.eq_def]
  simp only
  have e1:((ys.drop i).length:Int)=(ys.length:Int)+(-(i:Int)):=by rw [List.length_drop]; omega
  have e2:(0:Int)=(xs.length:Int)+(-(i:Int)):=by omega
  rw [e1,show ic 0 ((ys.length:Int)+ -(i:Int))=ic ((xs.length:Int)+ -(i:Int)) ((ys.length:Int)+ -(i:Int)) by rw [←e2],qqm]
abbrev zV:qlB:=(0,(0,(([]:List UInt8),())))
def cellV (row:qkR) (i:Int):qlB:=if h:0≤i∧i<(row.length:Int) then row[i.toNat]'(by omega) else zV
def keyC (pk:List Int) (row:qkR):qkR:=pk.map (cellV row)
theorem keyC_len (pk:List Int) (row:qkR):(keyC pk row).length=pk.length:=by simp [keyC]
def qi5 (f:qkR→Int):List qkR→Nat×Bool
 |[]=>(0,false)
 |r::rs=>if 0≤f r then (0,decide (f r=0)) else ((qi5 f rs).1+1,(qi5 f rs).2)
theorem qnt (f:qkR→Int):(rows:List qkR)→(qi5 f rows).1≤rows.length∧((qi5 f rows).1=rows.length→(qi5 f rows).2=false)∧(∀r,rows[(qi5 f rows).1]? =some r→0≤f r∧(qi5 f rows).2=decide (f r=0))
 |[]=>⟨Nat.le_refl _,fun _=>rfl,fun r h=>by simp at h⟩
 |r::rs=>by
  have ih:=qnt f rs
  unfold qi5
  split
  ·rename_i h
   refine ⟨Nat.zero_le _,fun h=>by simp at h,fun q hq=> ?_⟩
   simp at hq
   subst hq
   exact ⟨h,rfl⟩
  ·refine ⟨by simpa using ih.1,fun h=>ih.2.1 (by simpa using h),fun q hq=>ih.2.2 q (by simpa using hq)⟩
theorem qmC:(a b c:List UInt8)→Lib.compareBytes a b<0→Lib.compareBytes b c<0→Lib.compareBytes a c<0
 |[],[],_,h,_=>by simp [Lib.compareBytes] at h
 |[],_::_,[],_,h=>by simp [Lib.compareBytes] at h
 |[],_::_,_::_,_,_=>by simp [Lib.compareBytes]
 |_::_,[],_,h,_=>by simp [Lib.compareBytes] at h
 |_::_,_::_,[],_,h=>by simp [Lib.compareBytes] at h
 |x::a,y::b,z::c,h1,h2=>by
  simp only [Lib.compareBytes,UInt8.lt_iff_toNat_lt] at h1 h2⊢
  have ih:=qmC a b c
  by_cases e1:x.toNat<y.toNat
  ·by_cases e2:y.toNat<z.toNat
   ·rw [if_pos (by omega)]; omega
   ·by_cases e3:z.toNat<y.toNat
    ·rw [if_neg e2,if_pos e3] at h2; omega
    ·rw [if_pos (by omega)]; omega
  ·by_cases e4:y.toNat<x.toNat
   ·rw [if_neg e1,if_pos e4] at h1; omega
   ·rw [if_neg e1,if_neg e4] at h1
    by_cases e2:y.toNat<z.toNat
    ·rw [if_pos (by omega)]; omega
    ·by_cases e3:z.toNat<y.toNat
     ·rw [if_neg e2,if_pos e3] at h2; omega
     ·rw [if_neg e2,if_neg e3] at h2
      rw [if_neg (by omega),if_neg (by omega)]
      exact ih h1 h2
theorem qko {a b c:qlB} (h1:vc a b<0) (h2:vc b c<0):vc a c<0:=by
 unfold vc at *
 have a1:=qat a.1 b.1
 have a2:=qat b.1 c.1
 have a3:=qat a.1 c.1
 have b1:=qat a.2.1 b.2.1
 have b2:=qat b.2.1 c.2.1
 have b3:=qat a.2.1 c.2.1
 have tr:=qmC a.2.2.1 b.2.2.1 c.2.2.1
 generalize Lib.compareBytes a.2.2.1 b.2.2.1=s1 at *
 generalize Lib.compareBytes b.2.2.1 c.2.2.1=s2 at *
 generalize Lib.compareBytes a.2.2.1 c.2.2.1=s3 at *
 generalize ic a.1 b.1=i1 at *
 generalize ic b.1 c.1=i2 at *
 generalize ic a.1 c.1=i3 at *
 generalize ic a.2.1 b.2.1=j1 at *
 generalize ic b.2.1 c.2.1=j2 at *
 generalize ic a.2.1 c.2.1=j3 at *
 have k1:i1= -1∨(i1=0∧(j1= -1∨(j1=0∧s1<0))):=by
  split at h1
  ·omega
  ·split at h1 <;> omega
 have k2:i2= -1∨(i2=0∧(j2= -1∨(j2=0∧s2<0))):=by
  split at h2
  ·omega
  ·split at h2 <;> omega
 have k3:i3= -1∨(i3=0∧(j3= -1∨(j3=0∧s3<0))):=by
  rcases k1 with k1|⟨k1,k1'|⟨k1',k1''⟩⟩ <;> rcases k2 with k2|⟨k2,k2'|⟨k2',k2''⟩⟩ <;> first|omega|exact .inr ⟨by omega,.inr ⟨by omega,tr k1'' k2''⟩⟩
 split
 ·omega
 ·split <;> omega
theorem qnW (x y:Int):ic y x= - ic x y:=by
 have h1:=qat x y
 have h2:=qat y x
 omega
theorem qp4:(a b:qkR)→qaW b a= - qaW a b
 |[],[]=>by simp [qaW,ic]
 |[],y::ys=>by simp only [qaW,List.length_cons]; rw [qnW]; simp
 |x::xs,[]=>by simp only [qaW,List.length_cons]; rw [qnW]; simp
 |x::xs,y::ys=>by
  simp only [qaW,qmj x y,qp4 xs ys]
  by_cases h:vc x y=0
  ·simp [h]
  ·have:¬(-vc x y=0):=by omega
   simp [h,this]
theorem qpx:(a b:qkR)→(qaW a b=0↔a=b)
 |[],[]=>by simp [qaW,ic]
 |[],y::ys=>by
  have:=qat 0 (((y::ys).length:Nat):Int)
  simp only [qaW,List.length_cons] at this⊢
  constructor
  ·intro h; omega
  ·intro h; cases h
 |x::xs,[]=>by
  have:=qat ((xs.length:Int)+1) 0
  simp only [qaW]
  constructor
  ·intro h; omega
  ·intro h; cases h
 |x::xs,y::ys=>by
  simp only [qaW,List.cons.injEq,←qiX x y,←qpx xs ys]
  by_cases h:vc x y=0
  ·simp [h]
  ·simp [h]
theorem qoC:(a b c:qkR)→qaW a b<0→qaW b c<0→qaW a c<0
 |[],[],_,h,_=>by simp [qaW,ic] at h
 |[],y::ys,[],_,h=>by
  have:=qat ((ys.length:Int)+1) 0
  simp only [qaW] at h
  omega
 |[],_::_,z::zs,_,_=>by
  have:=qat 0 (((z::zs).length:Nat):Int)
  simp only [qaW,List.length_cons] at this⊢
  omega
 |x::xs,[],_,h,_=>by
  have:=qat ((xs.length:Int)+1) 0
  simp only [qaW] at h
  omega
 |_::_,y::ys,[],_,h=>by
  have:=qat ((ys.length:Int)+1) 0
  simp only [qaW] at h
  omega
 |x::xs,y::ys,z::zs,h1,h2=>by
  simp only [qaW] at h1 h2⊢
  have ih:=qoC xs ys zs
  by_cases e1:vc x y=0
  ·have e1':=(qiX x y).1 e1
   subst e1'
   simp only [e1,ne_eq,not_true_eq_false,if_false] at h1
   by_cases e2:vc x z=0
   ·simp only [e2,ne_eq,not_true_eq_false,if_false] at h2⊢
    exact ih h1 h2
   ·simp only [e2,ne_eq,not_false_eq_true,if_true] at h2⊢
    exact h2
  ·simp only [e1,ne_eq,not_false_eq_true,if_true] at h1
   by_cases e2:vc y z=0
   ·have e2':=(qiX y z).1 e2
    subst e2'
    simp only [e1,ne_eq,not_false_eq_true,if_true]
    exact h1
   ·simp only [e2,ne_eq,not_false_eq_true,if_true] at h2
    have:=qko h1 h2
    have e3:¬vc x z=0:=by omega
    simp only [e3,ne_eq,not_false_eq_true,if_true]
    exact this
theorem qn1 {α:Type} (R:α→α→Prop) (tr:∀a b c,R a b→R b c→R a c) (l:List α) (h:∀i (hi:i+1<l.length),R (l[i]'(by omega)) l[i+1]):∀(k i:Nat) (hk:i+1+k<l.length),R (l[i]'(by omega)) (l[i+1+k]'hk)
 |0,i,hk=>h i hk
 |k+1,i,hk=>tr _ _ _ (qn1 R tr l h k i (by omega)) (h (i+1+k) (by omega))
theorem qqB {α:Type} (R:α→α→Prop) (tr:∀a b c,R a b→R b c→R a c) (l:List α) (h:∀i (hi:i+1<l.length),R (l[i]'(by omega)) l[i+1]):l.Pairwise R:=
 List.pairwise_iff_getElem.2 fun i j hi hj hij=>by
  have:=qn1 R tr l h (j - (i+1)) i (by omega)
  have e:i+1+(j - (i+1))=j:=by omega
  simpa only [e] using this
theorem qpI (f:qkR→Int):(rows:List qkR)→rows.Pairwise (fun a b=>0≤f a→0<f b)→(qi5 f rows).2=rows.any (fun r=>decide (f r=0))
 |[],_=>rfl
 |r::rs,h=>by
  obtain ⟨h1,h2⟩:=List.pairwise_cons.1 h
  unfold qi5
  by_cases h0:0≤f r
  ·rw [if_pos h0,List.any_cons]
   have:rs.any (fun r=>decide (f r=0))=false:=by
    rw [List.any_eq_false]
    intro x hx he
    have:=h1 x hx h0
    rw [decide_eq_true_eq] at he
    omega
   rw [this]
   simp
  ·rw [if_neg h0,List.any_cons,qpI f rs h2]
   have:decide (f r=0)=false:=decide_eq_false (by omega)
   rw [this]
   simp
end
end Go.Vi
set_option linter.unusedSimpArgs false
set_option linter.unusedVariables false
set_option maxRecDepth 100000
namespace Go.Vi
noncomputable section
section
variable {α:Type} {P:α→Prop} {n:Nat} (d:α) {φ:(α×(α×Unit))→Option (Int×Unit)} {le:α→α→Prop} {N:Nat}
theorem qhk (hn:n≤1099511627776) (hN:n+1<N) {xs:List α} (h:Ck P n xs) {a b m:Int} (ha:0≤a) (hab:a+m≤b) (hm:0≤m) (hb2:b+m≤(n:Int)):
  ∃out,qfc d N (xs,(a,(b,(m,(φ,())))))=some ((),(out,()))∧Seg d n a (b+m) xs out∧∀k,0≤k→k<(n:Int)→qe out k d=if a≤k∧k<a+m then qe xs (k+(b - a)) d else if b≤k∧k<b+m then qe xs (k - (b - a)) d else qe xs k d:=by
 simp only [qfc]
 refine qP (S:=List α×(Int×Unit)) (fun p=>(m - p.2.1).toNat) (fun p=>Seg d n a (b+m) xs p.1∧0≤p.2.1∧p.2.1≤m∧∀k,0≤k→k<(n:Int)→qe p.1 k d=if a≤k∧k<a+p.2.1 then qe xs (k+(b - a)) d else if b≤k∧k<b+p.2.1 then qe xs (k - (b - a)) d else qe xs k d)
  (fun r=>∃out,r=some ((),(out,()))∧Seg d n a (b+m) xs out∧∀k,0≤k→k<(n:Int)→qe out k d=if a≤k∧k<a+m then qe xs (k+(b - a)) d else if b≤k∧k<b+m then qe xs (k - (b - a)) d else qe xs k d) ?_ N _
  ⟨.refl d _ _ xs,by simp only; omega,by simp only; omega,fun k k0 k1=>by simp only; rw [if_neg (by omega),if_neg (by omega)]⟩ (by simp only; omega)
 rintro ih ⟨ys,i,⟨⟩⟩ ⟨hs,hi0,him,hg⟩ hih
 simp only at hs hi0 him hg hih⊢
 have hc:=hs.ck d h
 by_cases q:i<m
 ·have e1:qB .i64 a i=a+i:=qO (by omega) (by omega)
  have e2:qB .i64 b i=b+i:=qO (by omega) (by omega)
  have e3:qB .i64 i 1=i+1:=qO (by omega) (by omega)
  simp only [ltT q,cond_true,e1,e2,e3,hc.inB (i:=a+i) (by omega) (by omega),hc.inB (i:=b+i) (by omega) (by omega),qbI,Bool.and_self]
  have g:=qcJ d hc.len (i:=a+i) (j:=b+i) (by omega) (by omega) (by omega) (by omega)
  refine hih (swp d ys (a+i) (b+i),(i+1,())) ⟨hs.trans d (qbT d hc.len ha (by omega) (by omega) (by omega) (by omega) (by omega)),by simp only; omega,by simp only; omega,fun k k0 k1=> ?_⟩ (by simp only; omega)
  simp only
  rw [g k k0]
  by_cases w1:k=b+i
  ·rw [if_pos w1,if_neg (by omega),if_pos (by omega),hg (a+i) (by omega) (by omega),if_neg (by omega),if_neg (by omega),w1,show b+i - (b - a)=a+i by omega]
  rw [if_neg w1]
  by_cases w2:k=a+i
  ·rw [if_pos w2,if_pos (by omega),hg (b+i) (by omega) (by omega),if_neg (by omega),if_neg (by omega),w2,show a+i+(b - a)=b+i by omega]
  rw [if_neg w2,hg k k0 k1]
  by_cases w3:a≤k∧k<a+i
  ·rw [if_pos w3,if_pos (by omega)]
  rw [if_neg w3]
  by_cases w4:b≤k∧k<b+i
  ·rw [if_pos w4,if_neg (by omega),if_pos (by omega)]
  rw [if_neg w4,if_neg (by omega),if_neg (by omega)]
 ·have:i=m:=by omega
  subst this
  simp only [ltF q,cond_false]
  exact ⟨ys,rfl,hs,hg⟩
def qpi (d:α) (xs:List α) (a m b k:Int):α:=if a≤k∧k<a+(b - m) then qe xs (k+(m - a)) d else if a+(b - m)≤k∧k<b then qe xs (k - (b - m)) d else qe xs k d
theorem qeX (xs:List α) {a m b k:Int} (h1:a≤k) (h2:k<a+(b - m)):qpi d xs a m b k=qe xs (k+(m - a)) d:=by rw [qpi,if_pos ⟨h1,h2⟩]
theorem qeY (xs:List α) {a m b k:Int} (h1:a+(b - m)≤k) (h2:k<b):qpi d xs a m b k=qe xs (k - (b - m)) d:=by rw [qpi,if_neg (by omega),if_pos ⟨h1,h2⟩]
theorem qd5 (xs:List α) {a m b k:Int} (h1:m≤b) (h2:a≤m) (h3:k<a∨b≤k):qpi d xs a m b k=qe xs k d:=by rw [qpi,if_neg (by omega),if_neg (by omega)]
theorem qm7 (hn:n≤1099511627776) (hN:2 * n+1<N) {xs:List α} (h:Ck P n xs) {a m b:Int} (ha:0≤a) (h1:a<m) (h2:m<b) (hb:b≤(n:Int)):
  ∃out,qcl d N (xs,(a,(m,(b,(φ,())))))=some ((),(out,()))∧Seg d n a b xs out∧∀k,0≤k→k<(n:Int)→qe out k d=qpi d xs a m b k:=by
 have e1:qt .i64 m a=m - a:=qQ (by omega) (by omega)
 have e2:qt .i64 b m=b - m:=qQ (by omega) (by omega)
 simp only [qcl,qD,e1,e2]
 refine qP (S:=List α×(Int×(Int×Unit))) (fun p=>(p.2.1+p.2.2.1).toNat) (fun p=>Seg d n a b xs p.1∧0<p.2.1∧p.2.1≤m - a∧0<p.2.2.1∧p.2.2.1≤b - m∧∀k,0≤k→k<(n:Int)→qpi d p.1 (m - p.2.1) m (m+p.2.2.1) k=qpi d xs a m b k)
  (fun r=>∃out,r=some ((),(out,()))∧Seg d n a b xs out∧∀k,0≤k→k<(n:Int)→qe out k d=qpi d xs a m b k) ?_ N _
  ⟨.refl d _ _ xs,by simp only; omega,by simp only; omega,by simp only; omega,by simp only; omega,fun k k0 k1=>by simp only; rw [show m - (m - a)=a by omega,show m+(b - m)=b by omega]⟩ (by simp only; omega)
 rintro ih ⟨ys,i,j,⟨⟩⟩ ⟨hs,hi0,him,hj0,hjm,hg⟩ hih
 simp only at hs hi0 him hj0 hjm hg hih⊢
 have hc:=hs.ck d h
 have s1:qt .i64 m i=m - i:=qQ (by omega) (by omega)
 by_cases q:i=j
 ·obtain ⟨out,o1,o2,o3⟩:=qhk (φ:=φ) (P:=P) d hn (by omega:n+1<N) hc (a:=m - i) (b:=m) (m:=i) (by omega) (by omega) (by omega) (by omega)
  simp only [neF q,cond_false,s1,o1,qd,qg,cond_true]
  refine ⟨out,rfl,hs.trans d (o2.mono d ha hb (by omega) (by omega)),fun k k0 k1=> ?_⟩
  rw [←hg k k0 k1,o3 k k0 k1]
  subst q
  by_cases w1:m - i≤k∧k<m
  ·rw [if_pos (by omega),qeX d ys (by omega) (by omega)]
  ·rw [if_neg (by omega)]
   by_cases w2:m≤k∧k<m+i
   ·rw [if_pos (by omega),qeY d ys (by omega) (by omega)]
    congr 1; omega
   ·rw [if_neg (by omega),qd5 d ys (by omega) (by omega) (by omega)]
 simp only [neT q,cond_true]
 by_cases q2:j<i
 ·obtain ⟨out,o1,o2,o3⟩:=qhk (φ:=φ) (P:=P) d hn (by omega:n+1<N) hc (a:=m - i) (b:=m) (m:=j) (by omega) (by omega) (by omega) (by omega)
  have s2:qt .i64 i j=i - j:=qQ (by omega) (by omega)
  simp only [ltT q2,cond_true,s1,s2,o1,qd,qg]
  refine hih (out,(i - j,(j,()))) ⟨hs.trans d (o2.mono d ha hb (by omega) (by omega)),by simp only; omega,by simp only; omega,hj0,hjm,fun k k0 k1=> ?_⟩ (by simp only; omega)
  simp only
  rw [←hg k k0 k1]
  by_cases w0:k<m - i+j∨m+j≤k
  ·rw [qd5 d out (by omega) (by omega) (by omega),o3 k k0 k1]
   by_cases w1:m - i≤k∧k<m+j
   ·rw [if_pos (by omega),qeX d ys (by omega) (by omega)]
   ·rw [if_neg (by omega),if_neg (by omega),qd5 d ys (by omega) (by omega) (by omega)]
  ·rw [qeY d ys (by omega) (by omega)]
   by_cases w1:k - (m - i+j)<j
   ·rw [qeX d out (by omega) (by omega),o3 _ (by omega) (by omega),if_neg (by omega),if_pos (by omega)]
    congr 1; omega
   ·rw [qeY d out (by omega) (by omega),o3 _ (by omega) (by omega),if_neg (by omega),if_neg (by omega)]
 ·obtain ⟨out,o1,o2,o3⟩:=qhk (φ:=φ) (P:=P) d hn (by omega:n+1<N) hc (a:=m - i) (b:=m+j - i) (m:=i) (by omega) (by omega) (by omega) (by omega)
  have s2:qt .i64 j i=j - i:=qQ (by omega) (by omega)
  have s3:qB .i64 m j=m+j:=qO (by omega) (by omega)
  have s4:qt .i64 (m+j) i=m+j - i:=qQ (by omega) (by omega)
  simp only [ltF q2,cond_false,s1,s2,s3,s4,o1,qd,qg,cond_true]
  refine hih (out,(i,(j - i,()))) ⟨hs.trans d (o2.mono d ha hb (by omega) (by omega)),hi0,him,by simp only; omega,by simp only; omega,fun k k0 k1=> ?_⟩ (by simp only; omega)
  simp only
  rw [←hg k k0 k1]
  by_cases w0:k<m - i∨m+(j - i)≤k
  ·rw [qd5 d out (by omega) (by omega) (by omega),o3 k k0 k1]
   by_cases w1:m - i≤k∧k<m+j
   ·rw [if_neg (by omega),if_pos (by omega),qeY d ys (by omega) (by omega)]
    congr 1; omega
   ·rw [if_neg (by omega),if_neg (by omega),qd5 d ys (by omega) (by omega) (by omega)]
  ·rw [qeX d ys (by omega) (by omega)]
   by_cases w1:k - (m - i)<j - i
   ·rw [qeX d out (by omega) (by omega),o3 _ (by omega) (by omega),if_neg (by omega),if_neg (by omega)]
   ·rw [qeY d out (by omega) (by omega),o3 _ (by omega) (by omega),if_pos (by omega)]
    congr 1; omega
theorem mid_eq2 {x y:Int} (hx:0≤x) (hy:0≤y) (h:x+y≤4398046511104):qbd .i64 (qgt .u64 (qbd .u64 (qB .i64 x y)) 1)=(x+y) / 2:=qgH hx hy h
def qqt (P:α→Prop) (d:α) (n:Nat) (le:α→α→Prop) (φ:(α×(α×Unit))→Option (Int×Unit)) (M:Nat) (Fs:((List α)×(Int×(Int×(Int×(((α×(α×Unit))→(Option (Int×Unit)))×Unit)))))→(Option (Unit×((List α)×Unit)))):Prop:=
 ∀(xs:List α),Ck P n xs→∀(a m b:Int),0≤a→a<m→m<b→b≤(n:Int)→(b - a).toNat<M→Srt d le a m xs→Srt d le m b xs→qg1 P d n le a b xs (Fs (xs,(a,(m,(b,(φ,()))))))
set_option maxHeartbeats 2000000 in
theorem qm2 (hφ:Cmp P φ le) (hn:n≤1099511627776) (hN:2 * n+1<N) {M:Nat} {Fs} (ih:qqt P d n le φ M Fs):qqt P d n le φ (M+1) (qiZ d N Fs):=by
 intro xs h a m b ha h1 h2 hb hM sl sr
 have e1:qt .i64 m a=m - a:=qQ (by omega) (by omega)
 have e2:qt .i64 b m=b - m:=qQ (by omega) (by omega)
 have l01:leI 0 1=true:=leT (by omega)
 simp only [qiZ,qD,e1,e2,l01,cond_true]
 by_cases q1:m - a=1
 ·simp only [eqT q1,cond_true]
  refine qP (S:=List α×(Int×(Int×Unit))) (fun p=>(p.2.2.1 - p.2.1).toNat) (fun p=>p.1=xs∧m≤p.2.1∧p.2.1≤p.2.2.1∧p.2.2.1≤b∧(∀k,m≤k→k<p.2.1→le (qe xs k d) (qe xs a d))∧∀k,p.2.2.1≤k→k<b→le (qe xs a d) (qe xs k d)) (qg1 P d n le a b xs) ?_ N _ ⟨rfl,by simp only; omega,by simp only; omega,by simp only; omega,fun k k1 k2=>by simp only at k2; omega,fun k k1 k2=>by simp only at k1; omega⟩ (by simp only; omega)
  rintro ih1 ⟨ys,i,j,⟨⟩⟩ ⟨hy,hi,hij,hj,lo,hi'⟩ hih
  simp only at hy hi hij hj lo hi' hih⊢
  subst hy
  have pa:=h.get d (i:=a) (by omega) (by omega)
  by_cases hc:i<j
  ·have em:=qgH (x:=i) (y:=j) (by omega) (by omega) (by omega)
   have em1:qB .i64 ((i+j) / 2) 1=(i+j) / 2+1:=qO (by omega) (by omega)
   have pm:=h.get d (i:=(i+j) / 2) (by omega) (by omega)
   obtain ⟨c,e3,e4⟩:=qgk hφ pm pa
   simp only [ltT hc,cond_true,em,em1,h.inB (i:=(i+j) / 2) (by omega) (by omega),h.inB (i:=a) (by omega) (by omega),e3,qd,qg,Bool.and_self]
   rcases e4 with ⟨c0,-,c2⟩|⟨c0,c1⟩
   ·simp only [ltT c0,cond_true]
    refine hih _ ⟨rfl,by simp only; omega,by simp only; omega,hj,fun k k1 k2=> ?_,hi'⟩ (by simp only; omega)
    simp only at k2
    exact hφ.trans _ _ _ (h.get d (by omega) (by omega)) pm pa (sr k ((i+j) / 2) k1 (by omega) (by omega)) c2
   ·simp only [ltF c0,cond_false]
    refine hih _ ⟨rfl,hi,by simp only; omega,by simp only; omega,lo,fun k k1 k2=> ?_⟩ (by simp only; omega)
    simp only at k1
    exact hφ.trans _ _ _ pa pm (h.get d (by omega) (by omega)) c1 (sr ((i+j) / 2) k (by omega) k1 k2)
  ·have:i=j:=by omega
   subst this
   simp only [ltF hc,cond_false]
   have ei:qt .i64 i 1=i - 1:=qQ (by omega) (by omega)
   rw [ei]
   refine qP (S:=List α×(Int×Unit)) (fun p=>(i - p.2.1).toNat) (fun p=>Seg d n a b ys p.1∧a≤p.2.1∧p.2.1≤i - 1∧∀k,0≤k→k<(n:Int)→qe p.1 k d=if a≤k∧k<p.2.1 then qe ys (k+1) d else if k=p.2.1 then qe ys a d else qe ys k d) (qg1 P d n le a b ys) ?_ N _ ⟨.refl d _ _ ys,by simp only; omega,by simp only; omega,fun k k0 k1=>by
    simp only
    rw [if_neg (by omega)]
    by_cases w:k=a
    ·rw [if_pos w,w]
    ·rw [if_neg w]⟩ (by simp only; omega)
   rintro jh ⟨zs,k,⟨⟩⟩ ⟨hz,hk,hki,hg⟩ hjh
   simp only at hz hk hki hg hjh⊢
   have hzc:=hz.ck d h
   by_cases hk2:k<i - 1
   ·have s1:qB .i64 k 1=k+1:=qO (by omega) (by omega)
    simp only [ltT hk2,s1,hzc.inB (i:=k) (by omega) (by omega),hzc.inB (i:=k+1) (by omega) (by omega),qbI,Bool.and_self,cond_true]
    have g:=qcJ d hzc.len (i:=k) (j:=k+1) (by omega) (by omega) (by omega) (by omega)
    refine hjh (swp d zs k (k+1),(k+1,())) ⟨hz.trans d (qbT d hzc.len ha hb (by omega) (by omega) (by omega) (by omega)),by simp only; omega,by simp only; omega,fun x x0 x1=> ?_⟩ (by simp only; omega)
    simp only
    rw [g x x0]
    by_cases w1:x=k+1
    ·rw [if_pos w1,if_neg (by omega),if_pos w1,hg k (by omega) (by omega),if_neg (by omega),if_pos rfl]
    rw [if_neg w1]
    by_cases w2:x=k
    ·rw [if_pos w2,if_pos (by omega),hg (k+1) (by omega) (by omega),if_neg (by omega),if_neg (by omega),w2]
    rw [if_neg w2,hg x x0 x1]
    by_cases w3:a≤x∧x<k
    ·rw [if_pos w3,if_pos (by omega)]
    ·rw [if_neg w3,if_neg w2,if_neg (by omega),if_neg w1]
   ·have:k=i - 1:=by omega
    subst this
    simp only [ltF hk2,cond_false]
    refine ⟨zs,rfl,hz,fun x y x1 x2 x3=> ?_⟩
    rw [hg x (by omega) (by omega),hg y (by omega) (by omega)]
    by_cases w1:a≤x∧x<i - 1
    ·rw [if_pos w1]
     by_cases w2:a≤y∧y<i - 1
     ·rw [if_pos w2]; exact sr (x+1) (y+1) (by omega) (by omega) (by omega)
     ·rw [if_neg w2]
      by_cases w3:y=i - 1
      ·rw [if_pos w3]; exact lo (x+1) (by omega) (by omega)
      ·rw [if_neg w3]; exact sr (x+1) y (by omega) (by omega) (by omega)
    ·rw [if_neg w1,if_neg (by omega:¬(a≤y∧y<i - 1))]
     by_cases w2:x=i - 1
     ·rw [if_pos w2]
      by_cases w3:y=i - 1
      ·rw [if_pos w3]; exact hφ.refl pa
      ·rw [if_neg w3]; exact hi' y (by omega) (by omega)
     ·rw [if_neg w2,if_neg (by omega:¬y=i - 1)]; exact sr x y (by omega) x2 (by omega)
 simp only [eqF q1,cond_false]
 by_cases q2:b - m=1
 ·simp only [eqT q2,cond_true]
  refine qP (S:=List α×(Int×(Int×Unit))) (fun p=>(p.2.2.1 - p.2.1).toNat) (fun p=>p.1=xs∧a≤p.2.1∧p.2.1≤p.2.2.1∧p.2.2.1≤m∧(∀k,a≤k→k<p.2.1→le (qe xs k d) (qe xs m d))∧∀k,p.2.2.1≤k→k<m→le (qe xs m d) (qe xs k d)) (qg1 P d n le a b xs) ?_ N _ ⟨rfl,by simp only; omega,by simp only; omega,by simp only; omega,fun k k1 k2=>by simp only at k2; omega,fun k k1 k2=>by simp only at k1; omega⟩ (by simp only; omega)
  rintro ih1 ⟨ys,i,j,⟨⟩⟩ ⟨hy,hi,hij,hj,lo,hi'⟩ hih
  simp only at hy hi hij hj lo hi' hih⊢
  subst hy
  have pm:=h.get d (i:=m) (by omega) (by omega)
  by_cases hc:i<j
  ·have em:=qgH (x:=i) (y:=j) (by omega) (by omega) (by omega)
   have em1:qB .i64 ((i+j) / 2) 1=(i+j) / 2+1:=qO (by omega) (by omega)
   have ph:=h.get d (i:=(i+j) / 2) (by omega) (by omega)
   obtain ⟨c,e3,e4⟩:=qgk hφ pm ph
   simp only [ltT hc,cond_true,em,em1,h.inB (i:=(i+j) / 2) (by omega) (by omega),h.inB (i:=m) (by omega) (by omega),e3,qd,qg,Bool.and_self]
   rcases e4 with ⟨c0,-,c2⟩|⟨c0,c1⟩
   ·simp only [ltT c0,Bool.not_true,cond_false]
    refine hih _ ⟨rfl,hi,by simp only; omega,by simp only; omega,lo,fun k k1 k2=> ?_⟩ (by simp only; omega)
    simp only at k1
    exact hφ.trans _ _ _ pm ph (h.get d (by omega) (by omega)) c2 (sl ((i+j) / 2) k (by omega) k1 k2)
   ·simp only [ltF c0,Bool.not_false,cond_true]
    refine hih _ ⟨rfl,by simp only; omega,by simp only; omega,hj,fun k k1 k2=> ?_,hi'⟩ (by simp only; omega)
    simp only at k2
    exact hφ.trans _ _ _ (h.get d (by omega) (by omega)) ph pm (sl k ((i+j) / 2) k1 (by omega) (by omega)) c1
  ·have:i=j:=by omega
   subst this
   simp only [ltF hc,cond_false]
   refine qP (S:=List α×(Int×Unit)) (fun p=>(p.2.1 - i).toNat) (fun p=>Seg d n a b ys p.1∧i≤p.2.1∧p.2.1≤m∧∀k,0≤k→k<(n:Int)→qe p.1 k d=if p.2.1<k∧k≤m then qe ys (k - 1) d else if k=p.2.1 then qe ys m d else qe ys k d) (qg1 P d n le a b ys) ?_ N _ ⟨.refl d _ _ ys,by simp only; omega,by simp only; omega,fun k k0 k1=>by
    simp only
    rw [if_neg (by omega)]
    by_cases w:k=m
    ·rw [if_pos w,w]
    ·rw [if_neg w]⟩ (by simp only; omega)
   rintro jh ⟨zs,k,⟨⟩⟩ ⟨hz,hk,hki,hg⟩ hjh
   simp only at hz hk hki hg hjh⊢
   have hzc:=hz.ck d h
   by_cases hk2:i<k
   ·have s1:qt .i64 k 1=k - 1:=qQ (by omega) (by omega)
    simp only [ltT hk2,s1,hzc.inB (i:=k) (by omega) (by omega),hzc.inB (i:=k - 1) (by omega) (by omega),qbI,Bool.and_self,cond_true]
    have g:=qcJ d hzc.len (i:=k) (j:=k - 1) (by omega) (by omega) (by omega) (by omega)
    refine hjh (swp d zs k (k - 1),(k - 1,())) ⟨hz.trans d (qbT d hzc.len ha hb (by omega) (by omega) (by omega) (by omega)),by simp only; omega,by simp only; omega,fun x x0 x1=> ?_⟩ (by simp only; omega)
    simp only
    rw [g x x0]
    by_cases w1:x=k - 1
    ·rw [if_pos w1,if_neg (by omega),if_pos w1,hg k (by omega) (by omega),if_neg (by omega),if_pos rfl]
    rw [if_neg w1]
    by_cases w2:x=k
    ·rw [if_pos w2,if_pos (by omega),hg (k - 1) (by omega) (by omega),if_neg (by omega),if_neg (by omega),w2]
    rw [if_neg w2,hg x x0 x1]
    by_cases w3:k<x∧x≤m
    ·rw [if_pos w3,if_pos (by omega)]
    ·rw [if_neg w3,if_neg w2,if_neg (by omega),if_neg w1]
   ·have:k=i:=by omega
    subst this
    simp only [ltF hk2,cond_false]
    refine ⟨zs,rfl,hz,fun x y x1 x2 x3=> ?_⟩
    rw [hg x (by omega) (by omega),hg y (by omega) (by omega)]
    by_cases w1:k<x∧x≤m
    ·rw [if_pos w1,if_pos (by omega:k<y∧y≤m)]
     exact sl (x - 1) (y - 1) (by omega) (by omega) (by omega)
    ·rw [if_neg w1]
     by_cases w2:x=k
     ·rw [if_pos w2]
      by_cases w3:k<y∧y≤m
      ·rw [if_pos w3]; exact hi' (y - 1) (by omega) (by omega)
      ·rw [if_neg w3,if_pos (by omega:y=k)]; exact hφ.refl pm
     ·rw [if_neg w2]
      by_cases w3:k<y∧y≤m
      ·rw [if_pos w3]; exact sl x (y - 1) (by omega) (by omega) (by omega)
      ·rw [if_neg w3]
       by_cases w4:y=k
       ·rw [if_pos w4]; exact lo x (by omega) (by omega)
       ·rw [if_neg w4]; exact sl x y (by omega) x2 (by omega)
 simp only [eqF q2,cond_false]
 have em:=qgH (x:=a) (y:=b) (by omega) (by omega) (by omega)
 rw [em]
 generalize hmid:(a+b) / 2=mid
 have hm1:a<mid:=by omega
 have hm2:mid<b:=by omega
 have en:qB .i64 mid m=mid+m:=qO (by omega) (by omega)
 have en2:qt .i64 (mid+m) b=mid+m - b:=qQ (by omega) (by omega)
 have en3:qt .i64 (mid+m) 1=mid+m - 1:=qQ (by omega) (by omega)
 simp only [en,en2,en3]
 obtain ⟨st,r,hst,hr,g1,g2,g3,g4,g5,g6,g7⟩:∃st r:Int,(bif ltI mid m then mid+m - b else a)=st∧(bif ltI mid m then mid else m)=r∧a≤st∧st≤r∧r≤mid∧r≤m∧mid+m - st≤b∧(st=a∨mid+m - st=b)∧(r=mid∨r=m):=by
  by_cases hq:mid<m
  ·exact ⟨_,_,rfl,rfl,by rw [ltT hq]; simp only [cond_true]; exact ⟨by omega,by omega,by omega,by omega,by omega,.inr (by omega),.inl trivial⟩⟩
  ·exact ⟨_,_,rfl,rfl,by rw [ltF hq]; simp only [cond_false]; exact ⟨by omega,by omega,by omega,by omega,by omega,.inl trivial,.inr trivial⟩⟩
 simp only [hst,hr]
 refine qP (S:=List α×(Int×(Int×Unit))) (fun p=>(p.2.2.1 - p.2.1).toNat) (fun p=>p.1=xs∧st≤p.2.1∧p.2.1≤p.2.2.1∧p.2.2.1≤r∧(st<p.2.1→le (qe xs (p.2.1 - 1) d) (qe xs (mid+m - p.2.1) d))∧(p.2.2.1<r→le (qe xs (mid+m - 1 - p.2.2.1) d) (qe xs p.2.2.1 d))) (qg1 P d n le a b xs) ?_ N _ ⟨rfl,by simp only; omega,by simp only; omega,by simp only; omega,fun w=>by simp only at w; omega,fun w=>by simp only at w; omega⟩ (by simp only; omega)
 rintro ih1 ⟨ys,i,j,⟨⟩⟩ ⟨hy,hi,hij,hj,lo,hi'⟩ hih
 simp only at hy hi hij hj lo hi' hih⊢
 subst hy
 by_cases hc:i<j
 ·have em:=qgH (x:=i) (y:=j) (by omega) (by omega) (by omega)
  have em1:qB .i64 ((i+j) / 2) 1=(i+j) / 2+1:=qO (by omega) (by omega)
  have em2:qt .i64 (mid+m - 1) ((i+j) / 2)=mid+m - 1 - (i+j) / 2:=qQ (by omega) (by omega)
  obtain ⟨c,e3,e4⟩:=qgk hφ (h.get d (i:=mid+m - 1 - (i+j) / 2) (by omega) (by omega)) (h.get d (i:=(i+j) / 2) (by omega) (by omega))
  simp only [ltT hc,cond_true,em,em1,em2,h.inB (i:=mid+m - 1 - (i+j) / 2) (by omega) (by omega),h.inB (i:=(i+j) / 2) (by omega) (by omega),e3,qd,qg,Bool.and_self]
  rcases e4 with ⟨c0,-,c2⟩|⟨c0,c1⟩
  ·simp only [ltT c0,Bool.not_true,cond_false]
   exact hih _ ⟨rfl,hi,by simp only; omega,by simp only; omega,lo,fun _=>c2⟩ (by simp only; omega)
  ·simp only [ltF c0,Bool.not_false,cond_true]
   refine hih _ ⟨rfl,by simp only; omega,by simp only; omega,hj,fun _=> ?_,hi'⟩ (by simp only; omega)
   simp only
   rw [show (i+j) / 2+1 - 1=(i+j) / 2 by omega,show mid+m - ((i+j) / 2+1)=mid+m - 1 - (i+j) / 2 by omega]
   exact c1
 ·have hijq:i=j:=by omega
  subst hijq
  have ee:qt .i64 (mid+m) i=mid+m - i:=qQ (by omega) (by omega)
  simp only [ltF hc,cond_false,ee]
  generalize hen:mid+m - i=en at *
  obtain ⟨zs,z1,z2,z3,z4⟩:∃zs,Seg d n a b ys zs∧(bif (ltI i m&&ltI m en) then qv (qcl d N (ys,(i,(m,(en,(φ,())))))) else true)=true∧(bif (ltI i m&&ltI m en) then (qp (qcl d N (ys,(i,(m,(en,(φ,())))))) ((),(([]:List α),()))).2.1 else ys)=zs∧∀k,0≤k→k<(n:Int)→qe zs k d=qpi d ys i m en k:=by
   by_cases hq:i<m∧m<en
   ·obtain ⟨out,k1,k2,k3⟩:=qm7 (φ:=φ) (P:=P) d hn hN h (a:=i) (m:=m) (b:=en) (by omega) hq.1 hq.2 (by omega)
    exact ⟨out,k2.mono d ha hb (by omega) (by omega),by simp only [ltT hq.1,ltT hq.2,Bool.and_self,cond_true,k1,qd],by simp only [ltT hq.1,ltT hq.2,Bool.and_self,cond_true,k1,qg],k3⟩
   ·have e:(ltI i m&&ltI m en)=false:=by
     by_cases hq1:i<m
     ·rw [ltF (fun hq2=>hq ⟨hq1,hq2⟩),Bool.and_false]
     ·rw [ltF hq1,Bool.false_and]
    refine ⟨ys,.refl d _ _ ys,by simp only [e,cond_false],by simp only [e,cond_false],fun k k0 k1=> ?_⟩
    by_cases w0:i≤k∧k<en
    ·by_cases w1:i=m
     ·rw [qeX d ys (by omega) (by omega)]; congr 1; omega
     ·rw [qeY d ys (by omega) (by omega)]; congr 1; omega
    ·rw [qd5 d ys (by omega) (by omega) (by omega)]
  have zc:=z1.ck d h
  simp only [z2,z3,cond_true]
  have hL1:∀k,a≤k→k<i→qe zs k d=qe ys k d:=fun k k1 k2=>by rw [z4 k (by omega) (by omega),qd5 d ys (by omega) (by omega) (by omega)]
  have hL2:∀k,i≤k→k<mid→qe zs k d=qe ys (k+(m - i)) d:=fun k k1 k2=>by rw [z4 k (by omega) (by omega),qeX d ys (by omega) (by omega)]
  have hR1:∀k,mid≤k→k<en→qe zs k d=qe ys (k - (en - m)) d:=fun k k1 k2=>by rw [z4 k (by omega) (by omega),qeY d ys (by omega) (by omega)]
  have hR2:∀k,en≤k→k<b→qe zs k d=qe ys k d:=fun k k1 k2=>by rw [z4 k (by omega) (by omega),qd5 d ys (by omega) (by omega) (by omega)]
  have cross:∀x y,a≤x→x<mid→mid≤y→y<b→le (qe zs x d) (qe zs y d):=fun x y x1 x2 y1 y2=>by
   by_cases wx:x<i
   ·rw [hL1 x x1 wx]
    by_cases wy:y<en
    ·rw [hR1 y y1 wy]; exact sl x _ x1 (by omega) (by omega)
    ·rw [hR2 y (by omega) y2]
     have:=lo (by omega)
     refine hφ.trans _ _ _ (h.get d (by omega) (by omega)) (h.get d (i:=i - 1) (by omega) (by omega)) (h.get d (by omega) (by omega)) (sl x (i - 1) x1 (by omega) (by omega)) (hφ.trans _ _ _ (h.get d (i:=i - 1) (by omega) (by omega)) (h.get d (i:=en) (by omega) (by omega)) (h.get d (by omega) (by omega)) this (sr en y (by omega) (by omega) y2))
   ·rw [hL2 x (by omega) x2]
    by_cases wy:y<en
    ·rw [hR1 y y1 wy]
     have:=hi' (by omega)
     rw [show mid+m - 1 - i=en - 1 by omega] at this
     refine hφ.trans _ _ _ (h.get d (by omega) (by omega)) (h.get d (i:=en - 1) (by omega) (by omega)) (h.get d (by omega) (by omega)) (sr _ (en - 1) (by omega) (by omega) (by omega)) (hφ.trans _ _ _ (h.get d (i:=en - 1) (by omega) (by omega)) (h.get d (i:=i) (by omega) (by omega)) (h.get d (by omega) (by omega)) this (sl i _ (by omega) (by omega) (by omega)))
    ·rw [hR2 y (by omega) y2]; exact sr _ y (by omega) (by omega) y2
  have s1:Srt d le a i zs:=fun x y x1 x2 x3=>by rw [hL1 x x1 (by omega),hL1 y (by omega) x3]; exact sl x y x1 x2 (by omega)
  have s2:Srt d le i mid zs:=fun x y x1 x2 x3=>by rw [hL2 x x1 (by omega),hL2 y (by omega) x3]; exact sr _ _ (by omega) (by omega) (by omega)
  have s3:Srt d le mid en zs:=fun x y x1 x2 x3=>by rw [hR1 x x1 (by omega),hR1 y (by omega) x3]; exact sl _ _ (by omega) (by omega) (by omega)
  have s4:Srt d le en b zs:=fun x y x1 x2 x3=>by rw [hR2 x x1 (by omega),hR2 y (by omega) x3]; exact sr x y (by omega) x2 x3
  obtain ⟨ws,w1,w2,w3,w4⟩:∃ws,Seg d n a mid zs ws∧(bif (ltI a i&&ltI i mid) then qv (Fs (zs,(a,(i,(mid,(φ,())))))) else true)=true∧(bif (ltI a i&&ltI i mid) then (qp (Fs (zs,(a,(i,(mid,(φ,())))))) ((),(([]:List α),()))).2.1 else zs)=ws∧Srt d le a mid ws:=by
   by_cases hq:a<i∧i<mid
   ·obtain ⟨out,k1,k2,k3⟩:=ih zs zc a i mid ha hq.1 hq.2 (by omega) (by omega) s1 s2
    exact ⟨out,k2,by simp only [ltT hq.1,ltT hq.2,Bool.and_self,cond_true,k1,qd],by simp only [ltT hq.1,ltT hq.2,Bool.and_self,cond_true,k1,qg],k3⟩
   ·have e:(ltI a i&&ltI i mid)=false:=by
     by_cases hq1:a<i
     ·rw [ltF (fun hq2=>hq ⟨hq1,hq2⟩),Bool.and_false]
     ·rw [ltF hq1,Bool.false_and]
    refine ⟨zs,.refl d _ _ zs,by simp only [e,cond_false],by simp only [e,cond_false],?_⟩
    by_cases hq1:a<i
    ·rw [show mid=i by omega]; exact s1
    ·rw [show a=i by omega]; exact s2
  have wc:=w1.ck d zc
  simp only [w2,w3,cond_true]
  have s3':Srt d le mid en ws:=fun x y x1 x2 x3=>by rw [w1.out x (by omega) (by omega) (by omega),w1.out y (by omega) (by omega) (by omega)]; exact s3 x y x1 x2 x3
  have s4':Srt d le en b ws:=fun x y x1 x2 x3=>by rw [w1.out x (by omega) (by omega) (by omega),w1.out y (by omega) (by omega) (by omega)]; exact s4 x y x1 x2 x3
  have cross':∀x y,a≤x→x<mid→mid≤y→y<b→le (qe ws x d) (qe ws y d):=fun x y x1 x2 y1 y2=>by
   obtain ⟨k,k1,k2,k3⟩:=w1.inn x x1 x2
   rw [k3,w1.out y (by omega) (by omega) (by omega)]; exact cross k y k1 k2 y1 y2
  have last:∀out,Seg d n mid b ws out→Srt d le mid b out→qg1 P d n le a b ys (some ((),(out,()))):=fun out o1 o2=>by
   refine ⟨out,rfl,z1.trans d ((w1.mono d ha hb (by omega) (by omega)).trans d (o1.mono d ha hb (by omega) (by omega))),fun x y x1 x2 x3=> ?_⟩
   by_cases wy:y<mid
   ·rw [o1.out x (by omega) (by omega) (by omega),o1.out y (by omega) (by omega) (by omega)]; exact w4 x y x1 x2 wy
   ·by_cases wx:x<mid
    ·obtain ⟨k,k1,k2,k3⟩:=o1.inn y (by omega) x3
     rw [k3,o1.out x (by omega) (by omega) (by omega)]; exact cross' x k x1 wx k1 k2
    ·exact o2 x y (by omega) x2 x3
  by_cases hq:mid<en∧en<b
  ·obtain ⟨out,k1,k2,k3⟩:=ih ws wc mid en b (by omega) hq.1 hq.2 hb (by omega) s3' s4'
   simp only [ltT hq.1,ltT hq.2,Bool.and_self,cond_true,k1,qd,qg]
   exact last out k2 k3
  ·have e:(ltI mid en&&ltI en b)=false:=by
    by_cases hq1:mid<en
    ·rw [ltF (fun hq2=>hq ⟨hq1,hq2⟩),Bool.and_false]
    ·rw [ltF hq1,Bool.false_and]
   simp only [e,cond_false,cond_true]
   refine last ws (.refl d _ _ ws) ?_
   by_cases hq1:mid<en
   ·have:en=b:=by omega
    rw [←this]; exact s3'
   ·have:mid=en:=by omega
    rw [this]; exact s4'
theorem qgb (hφ:Cmp P φ le) (hn:n≤1099511627776) (hN:2 * n+1<N):∀M:Nat,qqt P d n le φ M (qdV d N M)
 |0=>fun xs h a m b ha h1 h2 hb hM=>by omega
 |M+1=>qm2 d hφ hn hN (qgb hφ hn hN M)
inductive Bk (d:α) (le:α→α→Prop) (n:Nat) (s:Int) (xs:List α):Int→Prop where
 |last {a:Int} :a≤(n:Int)→(n:Int)≤a+s→Srt d le a (n:Int) xs→Bk d le n s xs a
 |step {a:Int} :a+s≤(n:Int)→Srt d le a (a+s) xs→Bk d le n s xs (a+s)→Bk d le n s xs a
inductive Pf (d:α) (le:α→α→Prop) (s:Int) (xs:List α):Int→Prop where
 |zero:Pf d le s xs 0
 |step {a:Int} :0≤a→Pf d le s xs a→Srt d le a (a+s) xs→Pf d le s xs (a+s)
theorem Pf.bk {s:Int} {xs:List α} :∀ {a:Int},Pf d le s xs a→a≤(n:Int)→0≤s→Bk d le n s xs a→Bk d le n s xs 0
 |_,.zero,_,_,h=>h
 |_,.step h0 hp hs,hn,h0s,h=>hp.bk (by omega) h0s (.step (by omega) hs h)
theorem Srt.same {a b:Int} {xs ys:List α} (h:Srt d le a b xs) (he:∀k,a≤k→k<b→qe ys k d=qe xs k d):Srt d le a b ys:=fun x y x1 x2 x3=>by
 rw [he x x1 (by omega),he y (by omega) x3]; exact h x y x1 x2 x3
theorem Pf.same {s:Int} {xs ys:List α} (h0s:0≤s):∀ {a:Int},Pf d le s xs a→(∀k,0≤k→k<a→qe ys k d=qe xs k d)→Pf d le s ys a
 |_,.zero,_=> .zero
 |_,.step h0 hp hs,he=> .step h0 (hp.same h0s fun k k0 k1=>he k k0 (by omega)) (hs.same d fun k k0 k1=>he k (by omega) (by omega))
theorem Bk.same {s:Int} {xs ys:List α} (h0s:0≤s):∀ {a:Int},Bk d le n s xs a→(∀k,a≤k→k<(n:Int)→qe ys k d=qe xs k d)→Bk d le n s ys a
 |_,.last h1 h2 hs,he=> .last h1 h2 (hs.same d fun k k0 k1=>he k k0 k1)
 |_,.step h1 hs hb,he=> .step h1 (hs.same d fun k k0 k1=>he k k0 (by omega)) (hb.same h0s fun k k0 k1=>he k (by omega) k1)
theorem Bk.two {s a:Int} {xs:List α} (h:Bk d le n s xs a) (hs:1≤s) (hb:a+2 * s≤(n:Int)):Srt d le a (a+s) xs∧Srt d le (a+s) (a+2 * s) xs∧Bk d le n s xs (a+2 * s):=by
 cases h with
 |last h1 h2 h3=>omega
 |step h1 h2 h3=>
  refine ⟨h2,?_⟩
  generalize hq:a+s=q at *
  rw [show a+2 * s=q+s by omega]
  cases h3 with
  |last k1 k2 k3=>
   have:(n:Int)=q+s:=by omega
   exact ⟨by rw [←this]; exact k3,by rw [←this]; exact .last (Int.le_refl _) (by omega) fun x y x1 x2 x3=>by omega⟩
  |step k1 k2 k3=>exact ⟨k2,k3⟩
theorem Bk.one {s a:Int} {xs:List α} (h:Bk d le n s xs a) (hs:1≤s) (hb:(n:Int)<a+2 * s) (hm:a+s<(n:Int)):Srt d le a (a+s) xs∧Srt d le (a+s) (n:Int) xs:=by
 cases h with
 |last h1 h2 h3=>omega
 |step h1 h2 h3=>
  refine ⟨h2,?_⟩
  generalize hq:a+s=q at *
  cases h3 with
  |last k1 k2 k3=>exact k3
  |step k1 k2 k3=>omega
theorem Bk.nil {s a:Int} {xs:List α} (h:Bk d le n s xs a) (hm:(n:Int)≤a+s):Srt d le a (n:Int) xs:=by
 cases h with
 |last h1 h2 h3=>exact h3
 |step h1 h2 h3=>
  have:(n:Int)=a+s:=by omega
  rw [this]; exact h2
theorem qne (hφ:Cmp P φ le) (hn:n≤1099511627776) (hN:2 * n+100<N) {xs:List α} (h:Ck P n xs):qg1 P d n le 0 (n:Int) xs (qhB d N (xs,((n:Int),(φ,())))):=by
 simp only [qhB,qD]
 refine qP (S:=List α×(Int×(Int×Unit))) (fun p=>((n:Int)+20 - p.2.2.1).toNat) (fun p=>Seg d n 0 (n:Int) xs p.1∧0≤p.2.1∧p.2.1≤(n:Int)∧p.2.2.1=p.2.1+20∧Pf d le 20 p.1 p.2.1) (qg1 P d n le 0 (n:Int) xs) ?_ N _ ⟨.refl d _ _ xs,by simp only; omega,by simp only; omega,by simp only; omega,.zero⟩ (by simp only; omega)
 rintro ih ⟨ys,a,b,⟨⟩⟩ ⟨hs,ha,ha2,hb,hp⟩ hih
 simp only at hs ha ha2 hb hp hih⊢
 have hc:=hs.ck d h
 by_cases q:b≤(n:Int)
 ·obtain ⟨out,o1,o2,o3⟩:=qg6 d (N:=N) hφ hn (by omega) hc (a:=a) (b:=b) ha ha2 q
  have e1:qB .i64 b 20=b+20:=qO (by omega) (by omega)
  simp only [leT q,cond_true,o1,qd,qg,e1]
  subst hb
  exact hih _ ⟨hs.trans d (o2.mono d (Int.le_refl 0) (Int.le_refl _) ha q),by simp only; omega,by simp only; omega,by simp only,.step ha (hp.same d (by omega) fun k k0 k1=>o2.out k k0 (by omega) (by omega)) o3⟩ (by simp only; omega)
 ·obtain ⟨out,o1,o2,o3⟩:=qg6 d (N:=N) hφ hn (by omega) hc (a:=a) (b:=(n:Int)) ha ha2 (Int.le_refl _)
  simp only [leF q,cond_false,o1,qd,qg,cond_true]
  have hbk:Bk d le n 20 out 0:=(hp.same d (by omega) fun k k0 k1=>o2.out k k0 (by omega) (by omega)).bk d ha2 (by omega) (.last ha2 (by omega) o3)
  refine qP (S:=List α×(Int×Unit)) (fun p=>((n:Int) - p.2.1).toNat) (fun p=>Seg d n 0 (n:Int) xs p.1∧1≤p.2.1∧p.2.1≤2 * (n:Int)+20∧Bk d le n p.2.1 p.1 0) (qg1 P d n le 0 (n:Int) xs) ?_ N _ ⟨hs.trans d (o2.mono d (Int.le_refl 0) (Int.le_refl _) ha (Int.le_refl _)),by simp only; omega,by simp only; omega,hbk⟩ (by simp only; omega)
  rintro jh ⟨ys,s,⟨⟩⟩ ⟨hs,hs1,hs2,hk⟩ hjh
  simp only at hs hs1 hs2 hk hjh⊢
  have hc:=hs.ck d h
  by_cases hsn:s<(n:Int)
  ·have e1:qh8 .i64 2 s=2 * s:=by rw [qb1,qbj (by omega) (by omega)]
   have e2:qh8 .i64 s 2=2 * s:=by rw [qb1,qbj (by omega) (by omega)]; omega
   simp only [ltT hsn,cond_true,e1,e2]
   refine qP (S:=List α×(Int×(Int×Unit))) (fun p=>((n:Int)+2 * s - p.2.2.1).toNat) (fun p=>Seg d n 0 (n:Int) xs p.1∧0≤p.2.1∧p.2.1≤(n:Int)∧p.2.2.1=p.2.1+2 * s∧Pf d le (2 * s) p.1 p.2.1∧Bk d le n s p.1 p.2.1) (qg1 P d n le 0 (n:Int) xs) ?_ N _ ⟨hs,by simp only; omega,by simp only; omega,by simp only; omega,.zero,hk⟩ (by simp only; omega)
   rintro kh ⟨zs,a,b,⟨⟩⟩ ⟨hz,ha,ha2,hb,hp,hk⟩ hkh
   simp only at hz ha ha2 hb hp hk hkh⊢
   have hzc:=hz.ck d h
   have e3:qB .i64 a s=a+s:=qO (by omega) (by omega)
   by_cases q:b≤(n:Int)
   ·subst hb
    obtain ⟨b1,b2,b3⟩:=hk.two d hs1 q
    obtain ⟨out,o1,o2,o3⟩:=qgb d hφ hn (by omega:2 * n+1<N) N zs hzc a (a+s) (a+2 * s) ha (by omega) (by omega) q (by omega) b1 b2
    have e4:qB .i64 (a+2 * s) (2 * s)=a+2 * s+2 * s:=qO (by omega) (by omega)
    have o1':qhx d N (zs,(a,(a+s,(a+2 * s,(φ,())))))=some ((),(out,())):=o1
    simp only [leT q,cond_true,e3,o1',qd,qg,e4]
    exact hkh _ ⟨hz.trans d (o2.mono d (Int.le_refl 0) (Int.le_refl _) ha q),by simp only; omega,by simp only; omega,by simp only,.step ha (hp.same d (by omega) fun k k0 k1=>o2.out k k0 (by omega) (by omega)) o3,b3.same d (by omega) fun k k0 k1=>o2.out k (by omega) k1 (by omega)⟩ (by simp only; omega)
   ·simp only [leF q,cond_false,e3]
    have fin:∀out,Seg d n a (n:Int) zs out→Srt d le a (n:Int) out→qg1 P d n le 0 (n:Int) xs (jh (out,(2 * s,()))):=fun out o1 o2=>
     hjh _ ⟨hz.trans d (o1.mono d (Int.le_refl 0) (Int.le_refl _) ha (Int.le_refl _)),by simp only; omega,by simp only; omega,(hp.same d (by omega) fun k k0 k1=>o1.out k k0 (by omega) (by omega)).bk d ha2 (by omega) (.last ha2 (by omega) o2)⟩ (by simp only; omega)
    by_cases hq:a+s<(n:Int)
    ·obtain ⟨b1,b2⟩:=hk.one d hs1 (by omega) hq
     obtain ⟨out,o1,o2,o3⟩:=qgb d hφ hn (by omega:2 * n+1<N) N zs hzc a (a+s) (n:Int) ha (by omega) hq (Int.le_refl _) (by omega) b1 b2
     have o1':qhx d N (zs,(a,(a+s,((n:Int),(φ,())))))=some ((),(out,())):=o1
     simp only [ltT hq,cond_true,o1',qd,qg]
     exact fin out o2 o3
    ·simp only [ltF hq,cond_false,cond_true]
     exact fin zs (.refl d _ _ zs) (hk.nil d (by omega))
  ·simp only [ltF hsn,cond_false]
   exact ⟨ys,rfl,hs,hk.nil d (by omega)⟩
theorem qnb (hφ:Cmp P φ le) {xs:List α} (hn:xs.length≤1099511627776) (hN:2 * xs.length+100<N) (h:∀x∈xs,P x):∃out,qip d N (xs,(φ,()))=some ((),(out,()))∧out.Perm xs∧Srt d le 0 (xs.length:Int) out:=by
 obtain ⟨out,o1,o2,o3⟩:=qne d hφ hn hN ⟨rfl,h⟩
 refine ⟨out,?_,o2.perm,o3⟩
 simp only [qip,qn,o1,qd,qg,cond_true]
end
end
end Go.Vi
