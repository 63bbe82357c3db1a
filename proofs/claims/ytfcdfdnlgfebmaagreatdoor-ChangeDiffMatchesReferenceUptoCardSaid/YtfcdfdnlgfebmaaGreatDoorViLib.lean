/- More words for the plain laws: loops in closed form, numbers, lists. -/
import Derived.Test.YtfcdfdnlgfebmaaGreatDoorViPlain
set_option linter.unusedVariables false
set_option linter.unusedSimpArgs false
set_option linter.unnecessarySimpa false
set_option linter.unusedSectionVars false
namespace Go.Vi
theorem qlU {S R:Type} {step:(S→Option R)→S→Option R} {s0:S} (st:Nat→S) (n:Nat) (r:R) (h0:st 0=s0) (hs:∀i,i<n→∀ih,step ih (st i)=ih (st (i+1))) (he:∀ih,step ih (st n)=some r) {N:Nat} (hN:n<N):qZ N step s0=some r:=by
 rw [←h0]
 have:∀k i,i+k=n→∀M,k<M→qZ M step (st i)=some r:=by
  intro k
  induction k with
  |zero=>
   intro i hi M hM
   obtain ⟨M,rfl⟩:∃m,M=m+1:=⟨M - 1,by omega⟩
   rw [qam,show i=n by omega]; exact he _
  |succ k ih=>
   intro i hi M hM
   obtain ⟨M,rfl⟩:∃m,M=m+1:=⟨M - 1,by omega⟩
   rw [qam,hs i (by omega)]
   exact ih (i+1) (by omega) M (by omega)
 exact this n 0 (by omega) N hN
theorem qjq {S R:Type} {step:(S→Option R)→S→Option R} {s0:S} (st:Nat→S) (n:Nat) (r:Option R) (h0:st 0=s0) (hs:∀i,i<n→∀ih,step ih (st i)=ih (st (i+1))) (he:∀ih,step ih (st n)=r) {N:Nat} (hN:n<N):qZ N step s0=r:=by
 rw [←h0]
 have:∀k i,i+k=n→∀M,k<M→qZ M step (st i)=r:=by
  intro k
  induction k with
  |zero=>
   intro i hi M hM
   obtain ⟨M,rfl⟩:∃m,M=m+1:=⟨M - 1,by omega⟩
   rw [qam,show i=n by omega]; exact he _
  |succ k ih=>
   intro i hi M hM
   obtain ⟨M,rfl⟩:∃m,M=m+1:=⟨M - 1,by omega⟩
   rw [qam,hs i (by omega)]
   exact ih (i+1) (by omega) M (by omega)
 exact this n 0 (by omega) N hN
theorem qaN (x y:Int):ltI x y=decide (x<y):=qa0 x y
theorem qeI (x y:Int):leI x y=decide (x≤y):=qba x y
theorem qca (i n:Int):inB i n=decide (0≤i∧i<n):=by rw [qcz]; simp
theorem qi1 (l h n:Int):inS l h n=decide (0≤l∧l≤h∧h≤n):=by rw [qkq]; simp
theorem qaz {x y:Int} (h1: -9223372036854775808≤x+y) (h2:x+y<9223372036854775808):qQ .i64 x y=x+y:=by rw [qk3,qdk h1 h2]
theorem qax {x y:Int} (h1: -9223372036854775808≤x - y) (h2:x - y<9223372036854775808):qO .i64 x y=x - y:=by rw [qi6,qdk h1 h2]
theorem imul64 {x y:Int} (h1: -9223372036854775808≤x * y) (h2:x * y<9223372036854775808):qmn .i64 x y=x * y:=by rw [qed,qdk h1 h2]
theorem ineg64 {x:Int} (h1: -9223372036854775808<x) (h2:x<9223372036854775808):ineg .i64 x= -x:=by rw [qnr,qdk (by omega) (by omega)]; omega
theorem qpW {x:Int} (h1: -9223372036854775808≤x) (h2:x<9223372036854775808):qcr .i64 x=x:=by rw [qeu,qdk h1 h2]
theorem iquo64 {x y:Int} (hx:0≤x) (hy:0<y) (h2:x<9223372036854775808):qom .i64 x y=x / y:=by
 have h3:x / y≤x:=Int.ediv_le_self _ hx
 have h4:0≤x / y:=Int.ediv_nonneg hx (by omega)
 rw [qia,Int.tdiv_eq_ediv_of_nonneg hx,qdk (by omega) (by omega)]
theorem irem64 {x y:Int} (hx:0≤x):irem x y=x % y:=by rw [qnN,Int.tmod_eq_emod_of_nonneg hx]
theorem q8 {i:Nat} (h:i<4611686018427387904):qQ .i64 (i:Int) 1=((i+1:Nat):Int):=by
 rw [qk3,qdk (by omega) (by omega)]
 omega
theorem qbC {α:Type} {xs:List α} {i:Nat} (h:i<xs.length):ltI (i:Int) (qn xs)=true:=by rw [qa0,qi]; simp; omega
theorem qaX {α:Type} {xs:List α} {i:Nat} (h:¬i<xs.length):ltI (i:Int) (qn xs)=false:=by rw [qa0,qi]; simp; omega
theorem qU {α:Type} {xs:List α} {i:Nat} (h:i<xs.length):inB (i:Int) (qn xs)=true:=by rw [qi]; exact qvk h
theorem drop_cons' {α:Type} {xs:List α} {i:Nat} (h:i<xs.length):xs.drop i=xs[i]::xs.drop (i+1):=List.drop_eq_getElem_cons h
theorem qcF {α:Type} {xs:List α} {i:Nat} (h:i<xs.length):xs.take (i+1)=xs.take i++[xs[i]]:=by rw [List.take_succ_eq_append_getElem h]
theorem qP {α:Type} {xs:List α} {i:Nat} (d:α) (h:i<xs.length):qh xs (i:Int) d=xs[i]:=qh2 (List.getElem?_eq_getElem h)
theorem qeX {α β:Type} {xs:List α} {ys:List β} {b:Nat} (h:(xs.length+ys.length) * b≤140737488355328):qcI (qn xs) (qn ys) b=true:=by
 rw [qjF,qi,qi]
 refine decide_eq_true ?_
 have:(((xs.length+ys.length) * b:Nat):Int)≤140737488355328:=by omega
 rwa [Int.natCast_mul,Int.natCast_add] at this
theorem qqT {α:Type} (xs:List α) (i:Nat):qau xs (i:Int) (qn xs)=xs.drop i:=by
 rw [qb4,qi]; simp
theorem qk7 {α:Type} (xs:List α) (i:Nat):qau xs 0 (i:Int)=xs.take i:=by
 rw [qb4]; simp
theorem slice_at {α:Type} (xs:List α) (i j:Nat):qau xs (i:Int) (j:Int)=(xs.take j).drop i:=by
 rw [qb4]; simp
theorem qt0 {α:Type} {xs:List α} {i:Nat} (h:i≤xs.length):inS (i:Int) (qn xs) (qn xs)=true:=by
 rw [qkq,qi]; simp; omega
theorem qtm (n:Int):IntKind.wrap .u8 n=n % 256:=by simp [IntKind.wrap,IntKind.signed,IntKind.bits]
theorem qqx (n:Int):IntKind.wrap .u64 n=n % 18446744073709551616:=by simp [IntKind.wrap,IntKind.signed,IntKind.bits]
theorem qfb {n:Int} (h1:0≤n) (h2:n<18446744073709551616):IntKind.wrap .u64 n=n:=by rw [qqx]; omega
theorem wrap8_id {n:Int} (h1:0≤n) (h2:n<256):qcr .u8 n=n:=by rw [qeu,qtm]; omega
theorem bv64 (n:Nat):BitVec.ofInt 64 (n:Int)=BitVec.ofNat 64 n:=by
 apply BitVec.eq_of_toInt_eq
 rw [BitVec.toInt_ofInt]
 exact (BitVec.toInt_ofNat' ..).symm
theorem qqd:IntKind.bits .i64=64:=rfl
theorem bor64 {a b:Nat} (ha:a<2^62) (hb:b<2^62):bor .i64 (a:Int) (b:Int)=((a|||b:Nat):Int):=by
 have hab:a|||b<2^62:=Nat.or_lt_two_pow ha hb
 rw [qpK,qqd,bv64,bv64,BitVec.toNat_or,BitVec.toNat_ofNat,BitVec.toNat_ofNat,Nat.mod_eq_of_lt (by omega),Nat.mod_eq_of_lt (by omega),qdk (by omega) (by omega)]
theorem band64 {a b:Nat} (ha:a<2^62) (hb:b<2^62):qux .i64 (a:Int) (b:Int)=((a&&& b:Nat):Int):=by
 have hab:a&&& b<2^62:=Nat.and_lt_two_pow a hb
 rw [qk2,qqd,bv64,bv64,BitVec.toNat_and,BitVec.toNat_ofNat,BitVec.toNat_ofNat,Nat.mod_eq_of_lt (by omega),Nat.mod_eq_of_lt (by omega),qdk (by omega) (by omega)]
theorem shl64 {a k:Nat} (hk:k<62) (h:a * 2^k<2^62):qjV .i64 (a:Int) (k:Int)=((a * 2^k:Nat):Int):=by
 rw [qk6,qqd,Int.toNat_natCast,Nat.min_eq_left (by omega)]
 have e:(a:Int) * 2^k=((a * 2^k:Nat):Int):=by push_cast; rfl
 rw [e,qdk (by omega) (by omega)]
theorem shr64 {a k:Nat} (hk:k<62):qi4 .i64 (a:Int) (k:Int)=((a / 2^k:Nat):Int):=by
 rw [qjR,qqd,Int.toNat_natCast,Nat.min_eq_left (by omega)]
 have e:(2:Int)^k=((2^k:Nat):Int):=by push_cast; rfl
 rw [e,Int.fdiv_eq_ediv_of_nonneg _ (Int.natCast_nonneg _)]
 push_cast; rfl
theorem mIdx_none {α β:Type} {xs:List (α×β)} {k:α} (h:¬qfr xs k<xs.length):∀p∈xs,p.1≠k:=fun p hp he=>by
 apply h
 unfold qfr
 exact List.findIdx_lt_length_of_exists ⟨p,hp,by simp [he]⟩
theorem mIdx_key {α β:Type} {xs:List (α×β)} {k:α} (h:qfr xs k<xs.length):(xs[qfr xs k]'h).1=k:=by
 unfold qfr at h⊢
 have:=List.findIdx_getElem (w:=h)
 simpa using this
theorem qhF {α β:Type} (p:α×β) (xs:List (α×β)) (k:α) (d:β):qhn (p::xs) k d=open Classical in if p.1=k then p.2 else qhn xs k d:=by
 rw [qjQ,qjQ]
 have:qfr (p::xs) k=open Classical in if p.1=k then 0 else qfr xs k+1:=by
  unfold qfr
  rw [List.findIdx_cons]
  by_cases h:p.1=k <;> simp [h]
 rw [this]
 by_cases h:p.1=k <;> simp [h]
theorem qnC {α β:Type} (k:α) (d:β):qhn ([]:List (α×β)) k d=d:=by rw [qjQ]; rfl
theorem qtN {α β:Type} (k:α) (v:β):qmh ([]:List (α×β)) k v=[(k,v)]:=by rw [qjN]; rfl
theorem qsq {α β:Type} (p:α×β) (xs:List (α×β)) (k:α) (v:β):qmh (p::xs) k v=open Classical in if p.1=k then (p.1,v)::xs else p::qmh xs k v:=by
 rw [qjN,qjN]
 have:qfr (p::xs) k=open Classical in if p.1=k then 0 else qfr xs k+1:=by
  unfold qfr
  rw [List.findIdx_cons]
  by_cases h:p.1=k <;> simp [h]
 rw [this]
 by_cases h:p.1=k
 ·simp [h,qp5]
 ·simp only [h,if_false,List.length_cons,Nat.add_lt_add_iff_right]
  by_cases h2:qfr xs k<xs.length
  ·simp only [h2,if_true,qp5,List.getElem?_cons_succ,List.getElem?_eq_getElem h2,List.set_cons_succ]
  ·simp [h2]
theorem qjM {α β:Type} (xs:List (α×β)) (k:α) (v:β) (k':α) (d:β):qhn (qmh xs k v) k' d=open Classical in if k=k' then v else qhn xs k' d:=by
 induction xs with
 |nil=>rw [qtN,qhF]
 |cons p r ih=>
  rw [qsq]
  by_cases h:p.1=k
  ·rw [if_pos h,qhF,qhF]
   by_cases h2:k=k'
   ·simp [h,h2]
   ·simp [h,h2]
  ·rw [if_neg h,qhF,qhF,ih]
   by_cases h2:p.1=k'
   ·have:¬k=k':=fun e=>h (h2.trans e.symm)
    simp [h2,this]
   ·simp [h2]
noncomputable def qpg {α:Type} (ks:List α):List (α×Int):=ks.foldl (fun m k=>qmh m k (qQ .i64 (qhn m k 0) 1)) []
theorem qtT {α:Type} :qpg ([]:List α)=[]:=rfl
theorem qlp {α:Type} (ks:List α) (k:α):qpg (ks++[k])=qmh (qpg ks) k (qQ .i64 (qhn (qpg ks) k 0) 1):=by simp [qpg]
theorem qum {α:Type} (ks:List α) (h:ks.length<4611686018427387904) (k:α):0≤qhn (qpg ks) k 0∧qhn (qpg ks) k 0≤(ks.length:Int)∧(0<qhn (qpg ks) k 0↔k∈ks):=by
 have key:∀(l:List α),l.length<4611686018427387904→∀k,0≤qhn (qpg l.reverse) k 0∧qhn (qpg l.reverse) k 0≤(l.length:Int)∧(0<qhn (qpg l.reverse) k 0↔k∈l):=by
  intro l
  induction l with
  |nil=>intro _ k; simp [qtT,qnC]
  |cons a l ih=>
   intro hl k
   rw [List.length_cons] at hl
   rw [List.reverse_cons,qlp,qjM]
   obtain ⟨h1,h2,h3⟩:=ih (by omega) a
   obtain ⟨g1,g2,g3⟩:=ih (by omega) k
   by_cases e:a=k
   ·subst e
    rw [if_pos rfl,qaz (by omega) (by omega),List.length_cons]
    refine ⟨by omega,by omega,by simp; omega⟩
   ·rw [if_neg e,List.length_cons]
    refine ⟨g1,by omega,by rw [g3]; simp [Ne.symm e]⟩
 have:=key ks.reverse (by simpa using h) k
 simpa using this
theorem qmL {α:Type} (ks:List α) (h:ks.length<4611686018427387904) (k:α):ltI 1 (qhn (qmh (qpg ks) k (qQ .i64 (qhn (qpg ks) k 0) 1)) k 0)=open Classical in decide (k∈ks):=by
 obtain ⟨h1,h2,h3⟩:=qum ks h k
 rw [qjM,if_pos rfl,qaz (by omega) (by omega),qaN]
 by_cases hk:k∈ks
 ·have:=h3.2 hk
  simp [hk]; omega
 ·have:¬0<qhn (qpg ks) k 0:=fun e=>hk (h3.1 e)
  simp [hk]; omega
def q9 {E:Type} (g:Nat→Option E):Nat→Option E
 |0=>none
 |n+1=>match q9 g n with
  |some e=>some e
  |none=>g n
theorem qaV {E:Type} {g:Nat→Option E} : {n:Nat} →q9 g n=none→∀i,i<n→g i=none
 |0,_,i,hi=>by omega
 |n+1,h,i,hi=>by
  simp only [q9] at h
  split at h
  ·cases h
  ·rename_i h0
   by_cases e:i=n
   ·rw [e]; exact h
   ·exact qaV h0 i (by omega)
theorem qcD {E:Type} {g:Nat→Option E} {e:E} : {n:Nat} →q9 g n=some e→∃i,i<n∧g i=some e∧q9 g i=none
 |0,h=>by cases h
 |n+1,h=>by
  simp only [q9] at h
  split at h
  ·rename_i e' h0
   injection h with h
   subst h
   obtain ⟨i,h1,h2⟩:=qcD h0
   exact ⟨i,by omega,h2⟩
  ·rename_i h0
   exact ⟨n,by omega,h,h0⟩
theorem qaj {S R E:Type} {step:(S→Option R)→S→Option R} {s0:S} (st:Nat→S) (n:Nat) (g:Nat→Option E) (out:E→Option R) (fin:Option R) (h0:st 0=s0)
  (hs:∀i,i<n→q9 g i=none→∀ih,step ih (st i)=match g i with
   |some e=>out e
   |none=>ih (st (i+1)))
  (he:q9 g n=none→∀ih,step ih (st n)=fin) {N:Nat} (hN:n<N):qZ N step s0=match q9 g n with
   |some e=>out e
   |none=>fin:=by
 rw [←h0]
 have:∀k i,i+k=n→q9 g i=none→∀M,k<M→qZ M step (st i)=match q9 g n with
   |some e=>out e
   |none=>fin:=by
  intro k
  induction k with
  |zero=>
   intro i hi hg M hM
   obtain ⟨M,rfl⟩:∃m,M=m+1:=⟨M - 1,by omega⟩
   have hin:i=n:=by omega
   subst hin
   rw [qam,hg]
   exact he hg _
  |succ k ih=>
   intro i hi hg M hM
   obtain ⟨M,rfl⟩:∃m,M=m+1:=⟨M - 1,by omega⟩
   rw [qam,hs i (by omega) hg]
   cases hgi:g i with
   |none=>exact ih (i+1) (by omega) (by simp only [q9,hg,hgi]) M (by omega)
   |some e=>
    have:∀m,q9 g (i+1+m)=some e:=by
     intro m
     induction m with
     |zero=>simp only [Nat.add_zero,q9,hg,hgi]
     |succ m ihm=>rw [←Nat.add_assoc]; simp only [q9,ihm]
    have:=this k
    rw [show i+1+k=n by omega] at this
    rw [this]
 exact this n 0 (by omega) rfl N hN
end Go.Vi
