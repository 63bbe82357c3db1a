import Derived.Test.YtfcdfdnlgfebmaaViXC
import Derived.Lib.LaidTab
import Derived.Lib.ItoaNum
import Derived.Lib.ItoaLen
import Derived.Lib.AtoiAllCases
import Derived.Lib.ParseIntBTie
import Derived.Lib.AtoiErrMem
import Derived.Lib.AppendIntMem
set_option linter.unusedVariables false
set_option linter.unusedSimpArgs false
set_option linter.unnecessarySimpa false
set_option linter.unusedSectionVars false
namespace Go.Vi
theorem iterF_seq {S R:Type} {step:(S→Option R)→S→Option R} {s0:S} (st:Nat→S) (n:Nat) (r:R) (h0:st 0=s0) (hs:∀i,i<n→∀ih,step ih (st i)=ih (st (i+1))) (he:∀ih,step ih (st n)=some r) {N:Nat} (hN:n<N):qac N step s0=some r:=by
 rw [←h0]
 have:∀k i,i+k=n→∀M,k<M→qac M step (st i)=some r:=by
  intro k
  induction k with
  |zero=>
   intro i hi M hM
   obtain ⟨M,rfl⟩:∃m,M=m+1:=⟨M - 1,by omega⟩
   rw [qaH,show i=n by omega]; exact he _
  |succ k ih=>
   intro i hi M hM
   obtain ⟨M,rfl⟩:∃m,M=m+1:=⟨M - 1,by omega⟩
   rw [qaH,hs i (by omega)]
   exact ih (i+1) (by omega) M (by omega)
 exact this n 0 (by omega) N hN
theorem qcC {S R:Type} {step:(S→Option R)→S→Option R} {s0:S} (st:Nat→S) (n:Nat) (r:Option R) (h0:st 0=s0) (hs:∀i,i<n→∀ih,step ih (st i)=ih (st (i+1))) (he:∀ih,step ih (st n)=r) {N:Nat} (hN:n<N):qac N step s0=r:=by
 rw [←h0]
 have:∀k i,i+k=n→∀M,k<M→qac M step (st i)=r:=by
  intro k
  induction k with
  |zero=>
   intro i hi M hM
   obtain ⟨M,rfl⟩:∃m,M=m+1:=⟨M - 1,by omega⟩
   rw [qaH,show i=n by omega]; exact he _
  |succ k ih=>
   intro i hi M hM
   obtain ⟨M,rfl⟩:∃m,M=m+1:=⟨M - 1,by omega⟩
   rw [qaH,hs i (by omega)]
   exact ih (i+1) (by omega) M (by omega)
 exact this n 0 (by omega) N hN
theorem qcN (x y:Int):ltI x y=decide (x<y):=qai x y
theorem leI_dec (x y:Int):leI x y=decide (x≤y):=qaT x y
theorem qef (i n:Int):inB i n=decide (0≤i∧i<n):=by rw [qgj]; simp
theorem inS_dec (l h n:Int):inS l h n=decide (0≤l∧l≤h∧h≤n):=by rw [qiF]; simp
theorem qO {x y:Int} (h1: -9223372036854775808≤x+y) (h2:x+y<9223372036854775808):qB .i64 x y=x+y:=by rw [qd4,qbj h1 h2]
theorem qQ {x y:Int} (h1: -9223372036854775808≤x - y) (h2:x - y<9223372036854775808):qt .i64 x y=x - y:=by rw [qd2,qbj h1 h2]
theorem imul64 {x y:Int} (h1: -9223372036854775808≤x * y) (h2:x * y<9223372036854775808):qh8 .i64 x y=x * y:=by rw [qb1,qbj h1 h2]
theorem ineg64 {x:Int} (h1: -9223372036854775808<x) (h2:x<9223372036854775808):ineg .i64 x= -x:=by rw [qkl,qbj (by omega) (by omega)]; omega
theorem ql5 {x:Int} (h1: -9223372036854775808≤x) (h2:x<9223372036854775808):qbd .i64 x=x:=by rw [qdh,qbj h1 h2]
theorem iquo64 {x y:Int} (hx:0≤x) (hy:0<y) (h2:x<9223372036854775808):qkP .i64 x y=x / y:=by
 have h3:x / y≤x:=Int.ediv_le_self _ hx
 have h4:0≤x / y:=Int.ediv_nonneg hx (by omega)
 rw [qfU,Int.tdiv_eq_ediv_of_nonneg hx,qbj (by omega) (by omega)]
theorem irem64 {x y:Int} (hx:0≤x):irem x y=x % y:=by rw [qks,Int.tmod_eq_emod_of_nonneg hx]
theorem qae {i:Nat} (h:i<4611686018427387904):qB .i64 (i:Int) 1=((i+1:Nat):Int):=by
 rw [qd4,qbj (by omega) (by omega)]
 omega
theorem qd9 {α:Type} {xs:List α} {i:Nat} (h:i<xs.length):ltI (i:Int) (qs xs)=true:=by rw [qai,qn]; simp; omega
theorem qds {α:Type} {xs:List α} {i:Nat} (h:¬i<xs.length):ltI (i:Int) (qs xs)=false:=by rw [qai,qn]; simp; omega
theorem qbh {α:Type} {xs:List α} {i:Nat} (h:i<xs.length):inB (i:Int) (qs xs)=true:=by rw [qn]; exact qfG h
theorem qdC {α:Type} {xs:List α} {i:Nat} (h:i<xs.length):xs.drop i=xs[i]::xs.drop (i+1):=List.drop_eq_getElem_cons h
theorem qdG {α:Type} {xs:List α} {i:Nat} (h:i<xs.length):xs.take (i+1)=xs.take i++[xs[i]]:=by rw [List.take_succ_eq_append_getElem h]
theorem qa2 {α:Type} {xs:List α} {i:Nat} (d:α) (h:i<xs.length):qe xs (i:Int) d=xs[i]:=qhU (List.getElem?_eq_getElem h)
theorem qeK {α β:Type} {xs:List α} {ys:List β} {b:Nat} (h:(xs.length+ys.length) * b≤140737488355328):qdZ (qs xs) (qs ys) b=true:=by
 rw [qet,qn,qn]
 refine decide_eq_true ?_
 have:(((xs.length+ys.length) * b:Nat):Int)≤140737488355328:=by omega
 rwa [Int.natCast_mul,Int.natCast_add] at this
theorem slice_from {α:Type} (xs:List α) (i:Nat):qa1 xs (i:Int) (qs xs)=xs.drop i:=by
 rw [qbF,qn]; simp
theorem qpz {α:Type} (xs:List α) (i:Nat):qa1 xs 0 (i:Int)=xs.take i:=by
 rw [qbF]; simp
theorem slice_at {α:Type} (xs:List α) (i j:Nat):qa1 xs (i:Int) (j:Int)=(xs.take j).drop i:=by
 rw [qbF]; simp
theorem inS_from {α:Type} {xs:List α} {i:Nat} (h:i≤xs.length):inS (i:Int) (qs xs) (qs xs)=true:=by
 rw [qiF,qn]; simp; omega
theorem qoW (n:Int):IntKind.wrap .u8 n=n % 256:=by simp [IntKind.wrap,IntKind.signed,IntKind.bits]
theorem qmt (n:Int):IntKind.wrap .u64 n=n % 18446744073709551616:=by simp [IntKind.wrap,IntKind.signed,IntKind.bits]
theorem qdP {n:Int} (h1:0≤n) (h2:n<18446744073709551616):IntKind.wrap .u64 n=n:=by rw [qmt]; omega
theorem wrap8_id {n:Int} (h1:0≤n) (h2:n<256):qbd .u8 n=n:=by rw [qdh,qoW]; omega
theorem bv64 (n:Nat):BitVec.ofInt 64 (n:Int)=BitVec.ofNat 64 n:=by
 apply BitVec.eq_of_toInt_eq
 rw [BitVec.toInt_ofInt]
 exact (BitVec.toInt_ofNat' ..).symm
theorem qmH:IntKind.bits .i64=64:=rfl
theorem bor64 {a b:Nat} (ha:a<2^62) (hb:b<2^62):bor .i64 (a:Int) (b:Int)=((a|||b:Nat):Int):=by
 have hab:a|||b<2^62:=Nat.or_lt_two_pow ha hb
 rw [qmd,qmH,bv64,bv64,BitVec.toNat_or,BitVec.toNat_ofNat,BitVec.toNat_ofNat,Nat.mod_eq_of_lt (by omega),Nat.mod_eq_of_lt (by omega),qbj (by omega) (by omega)]
theorem band64 {a b:Nat} (ha:a<2^62) (hb:b<2^62):qpp .i64 (a:Int) (b:Int)=((a&&& b:Nat):Int):=by
 have hab:a&&& b<2^62:=Nat.and_lt_two_pow a hb
 rw [qh0,qmH,bv64,bv64,BitVec.toNat_and,BitVec.toNat_ofNat,BitVec.toNat_ofNat,Nat.mod_eq_of_lt (by omega),Nat.mod_eq_of_lt (by omega),qbj (by omega) (by omega)]
theorem shl64 {a k:Nat} (hk:k<62) (h:a * 2^k<2^62):qg2 .i64 (a:Int) (k:Int)=((a * 2^k:Nat):Int):=by
 rw [qhX,qmH,Int.toNat_natCast,Nat.min_eq_left (by omega)]
 have e:(a:Int) * 2^k=((a * 2^k:Nat):Int):=by push_cast; rfl
 rw [e,qbj (by omega) (by omega)]
theorem shr64 {a k:Nat} (hk:k<62):qgt .i64 (a:Int) (k:Int)=((a / 2^k:Nat):Int):=by
 rw [qgJ,qmH,Int.toNat_natCast,Nat.min_eq_left (by omega)]
 have e:(2:Int)^k=((2^k:Nat):Int):=by push_cast; rfl
 rw [e,Int.fdiv_eq_ediv_of_nonneg _ (Int.natCast_nonneg _)]
 push_cast; rfl
theorem mIdx_none {α β:Type} {xs:List (α×β)} {k:α} (h:¬qd1 xs k<xs.length):∀p∈xs,p.1≠k:=fun p hp he=>by
 apply h
 unfold qd1
 exact List.findIdx_lt_length_of_exists ⟨p,hp,by simp [he]⟩
theorem mIdx_key {α β:Type} {xs:List (α×β)} {k:α} (h:qd1 xs k<xs.length):(xs[qd1 xs k]'h).1=k:=by
 unfold qd1 at h⊢
 have:=List.findIdx_getElem (w:=h)
 simpa using this
theorem qfF {α β:Type} (p:α×β) (xs:List (α×β)) (k:α) (d:β):qir (p::xs) k d=open Classical in if p.1=k then p.2 else qir xs k d:=by
 rw [qgW,qgW]
 have:qd1 (p::xs) k=open Classical in if p.1=k then 0 else qd1 xs k+1:=by
  unfold qd1
  rw [List.findIdx_cons]
  by_cases h:p.1=k <;> simp [h]
 rw [this]
 by_cases h:p.1=k <;> simp [h]
theorem qp0 {α β:Type} (k:α) (d:β):qir ([]:List (α×β)) k d=d:=by rw [qgW]; rfl
theorem qpW {α β:Type} (k:α) (v:β):qmw ([]:List (α×β)) k v=[(k,v)]:=by rw [qgG]; rfl
theorem qoF {α β:Type} (p:α×β) (xs:List (α×β)) (k:α) (v:β):qmw (p::xs) k v=open Classical in if p.1=k then (p.1,v)::xs else p::qmw xs k v:=by
 rw [qgG,qgG]
 have:qd1 (p::xs) k=open Classical in if p.1=k then 0 else qd1 xs k+1:=by
  unfold qd1
  rw [List.findIdx_cons]
  by_cases h:p.1=k <;> simp [h]
 rw [this]
 by_cases h:p.1=k
 ·simp [h,qlJ]
 ·simp only [h,if_false,List.length_cons,Nat.add_lt_add_iff_right]
  by_cases h2:qd1 xs k<xs.length
  ·simp only [h2,if_true,qlJ,List.getElem?_cons_succ,List.getElem?_eq_getElem h2,List.set_cons_succ]
  ·simp [h2]
theorem qkv {α β:Type} (xs:List (α×β)) (k:α) (v:β) (k':α) (d:β):qir (qmw xs k v) k' d=open Classical in if k=k' then v else qir xs k' d:=by
 induction xs with
 |nil=>rw [qpW,qfF]
 |cons p r ih=>
  rw [qoF]
  by_cases h:p.1=k
  ·rw [if_pos h,qfF,qfF]
   by_cases h2:k=k'
   ·simp [h,h2]
   ·simp [h,h2]
  ·rw [if_neg h,qfF,qfF,ih]
   by_cases h2:p.1=k'
   ·have:¬k=k':=fun e=>h (h2.trans e.symm)
    simp [h2,this]
   ·simp [h2]
noncomputable def qmQ {α:Type} (ks:List α):List (α×Int):=ks.foldl (fun m k=>qmw m k (qB .i64 (qir m k 0) 1)) []
theorem qpy {α:Type} :qmQ ([]:List α)=[]:=rfl
theorem qo0 {α:Type} (ks:List α) (k:α):qmQ (ks++[k])=qmw (qmQ ks) k (qB .i64 (qir (qmQ ks) k 0) 1):=by simp [qmQ]
theorem qp8 {α:Type} (ks:List α) (h:ks.length<4611686018427387904) (k:α):0≤qir (qmQ ks) k 0∧qir (qmQ ks) k 0≤(ks.length:Int)∧(0<qir (qmQ ks) k 0↔k∈ks):=by
 have key:∀(l:List α),l.length<4611686018427387904→∀k,0≤qir (qmQ l.reverse) k 0∧qir (qmQ l.reverse) k 0≤(l.length:Int)∧(0<qir (qmQ l.reverse) k 0↔k∈l):=by
  intro l
  induction l with
  |nil=>intro _ k; simp [qpy,qp0]
  |cons a l ih=>
   intro hl k
   rw [List.length_cons] at hl
   rw [List.reverse_cons,qo0,qkv]
   obtain ⟨h1,h2,h3⟩:=ih (by omega) a
   obtain ⟨g1,g2,g3⟩:=ih (by omega) k
   by_cases e:a=k
   ·subst e
    rw [if_pos rfl,qO (by omega) (by omega),List.length_cons]
    refine ⟨by omega,by omega,by simp; omega⟩
   ·rw [if_neg e,List.length_cons]
    refine ⟨g1,by omega,by rw [g3]; simp [Ne.symm e]⟩
 have:=key ks.reverse (by simpa using h) k
 simpa using this
theorem cntM_twice {α:Type} (ks:List α) (h:ks.length<4611686018427387904) (k:α):ltI 1 (qir (qmw (qmQ ks) k (qB .i64 (qir (qmQ ks) k 0) 1)) k 0)=open Classical in decide (k∈ks):=by
 obtain ⟨h1,h2,h3⟩:=qp8 ks h k
 rw [qkv,if_pos rfl,qO (by omega) (by omega),qcN]
 by_cases hk:k∈ks
 ·have:=h3.2 hk
  simp [hk]; omega
 ·have:¬0<qir (qmQ ks) k 0:=fun e=>hk (h3.1 e)
  simp [hk]; omega
def qdS {E:Type} (g:Nat→Option E):Nat→Option E
 |0=>none
 |n+1=>match qdS g n with
  |some e=>some e
  |none=>g n
theorem qlD {E:Type} {g:Nat→Option E} : {n:Nat} →qdS g n=none→∀i,i<n→g i=none
 |0,_,i,hi=>by omega
 |n+1,h,i,hi=>by
  simp only [qdS] at h
  split at h
  ·cases h
  ·rename_i h0
   by_cases e:i=n
   ·rw [e]; exact h
   ·exact qlD h0 i (by omega)
theorem qmg {E:Type} {g:Nat→Option E} {e:E} : {n:Nat} →qdS g n=some e→∃i,i<n∧g i=some e∧qdS g i=none
 |0,h=>by cases h
 |n+1,h=>by
  simp only [qdS] at h
  split at h
  ·rename_i e' h0
   injection h with h
   subst h
   obtain ⟨i,h1,h2⟩:=qmg h0
   exact ⟨i,by omega,h2⟩
  ·rename_i h0
   exact ⟨n,by omega,h,h0⟩
theorem qqE {S R E:Type} {step:(S→Option R)→S→Option R} {s0:S} (st:Nat→S) (n:Nat) (g:Nat→Option E) (out:E→Option R) (fin:Option R) (h0:st 0=s0)
  (hs:∀i,i<n→qdS g i=none→∀ih,step ih (st i)=match g i with
   |some e=>out e
   |none=>ih (st (i+1)))
  (he:qdS g n=none→∀ih,step ih (st n)=fin) {N:Nat} (hN:n<N):qac N step s0=match qdS g n with
   |some e=>out e
   |none=>fin:=by
 rw [←h0]
 have:∀k i,i+k=n→qdS g i=none→∀M,k<M→qac M step (st i)=match qdS g n with
   |some e=>out e
   |none=>fin:=by
  intro k
  induction k with
  |zero=>
   intro i hi hg M hM
   obtain ⟨M,rfl⟩:∃m,M=m+1:=⟨M - 1,by omega⟩
   have hin:i=n:=by omega
   subst hin
   rw [qaH,hg]
   exact he hg _
  |succ k ih=>
   intro i hi hg M hM
   obtain ⟨M,rfl⟩:∃m,M=m+1:=⟨M - 1,by omega⟩
   rw [qaH,hs i (by omega) hg]
   cases hgi:g i with
   |none=>exact ih (i+1) (by omega) (by simp only [qdS,hg,hgi]) M (by omega)
   |some e=>
    have:∀m,qdS g (i+1+m)=some e:=by
     intro m
     induction m with
     |zero=>simp only [Nat.add_zero,qdS,hg,hgi]
     |succ m ihm=>rw [←Nat.add_assoc]; simp only [qdS,ihm]
    have:=this k
    rw [show i+1+k=n by omega] at this
    rw [this]
 exact this n 0 (by omega) rfl N hN
end Go.Vi
set_option linter.unusedSimpArgs false
set_option maxRecDepth 100000
namespace Go.Vi
noncomputable section
def qdO {α:Type} (d:α) (N:Nat) (x:((List α)×(Int×(Int×(((α×(α×Unit))→(Option (Int×Unit)))×Unit))))):(Option (Unit×((List α)×Unit))):=
 (qac (S:=((List α)×(Int×Unit))) (R:=(Unit×((List α)×Unit))) N (fun ih0=>(fun p1=>(bif (ltI p1.2.1 x.2.2.1) then (qac (S:=((List α)×(Int×Unit))) (R:=(Unit×((List α)×Unit))) N (fun ih2=>(fun p3=>(bif (((!(ltI x.2.1 p3.2.1))||(inB p3.2.1 (qs p3.1)))&&(((!(ltI x.2.1 p3.2.1))||(inB (qt .i64 p3.2.1 1) (qs p3.1)))&&((!(ltI x.2.1 p3.2.1))||(qv (x.2.2.2.1 ((qe p3.1 p3.2.1 d),((qe p3.1 (qt .i64 p3.2.1 1) d),()))))))) then (bif ((ltI x.2.1 p3.2.1)&&(ltI (qp (x.2.2.2.1 ((qe p3.1 p3.2.1 d),((qe p3.1 (qt .i64 p3.2.1 1) d),()))) (0,())).1 0)) then (bif ((inB (qt .i64 p3.2.1 1) (qs p3.1))&&((inB p3.2.1 (qs p3.1))&&((inB p3.2.1 (qs p3.1))&&(inB (qt .i64 p3.2.1 1) (qs (qaG p3.1 p3.2.1 (qe p3.1 (qt .i64 p3.2.1 1) d))))))) then (ih2 ((qaG (qaG p3.1 p3.2.1 (qe p3.1 (qt .i64 p3.2.1 1) d)) (qt .i64 p3.2.1 1) (qe p3.1 p3.2.1 d)),((qt .i64 p3.2.1 1),()))) else none) else (ih0 (p3.1,((qB .i64 p1.2.1 1),())))) else none))) (p1.1,(p1.2.1,()))) else (some ((),(p1.1,())))))) (x.1,((qB .i64 x.2.1 1),())))
def qfc {α:Type} (d:α) (N:Nat) (x:((List α)×(Int×(Int×(Int×(((α×(α×Unit))→(Option (Int×Unit)))×Unit)))))):(Option (Unit×((List α)×Unit))):=
 (qac (S:=((List α)×(Int×Unit))) (R:=(Unit×((List α)×Unit))) N (fun ih0=>(fun p1=>(bif (ltI p1.2.1 x.2.2.2.1) then (bif ((inB (qB .i64 x.2.2.1 p1.2.1) (qs p1.1))&&((inB (qB .i64 x.2.1 p1.2.1) (qs p1.1))&&((inB (qB .i64 x.2.1 p1.2.1) (qs p1.1))&&(inB (qB .i64 x.2.2.1 p1.2.1) (qs (qaG p1.1 (qB .i64 x.2.1 p1.2.1) (qe p1.1 (qB .i64 x.2.2.1 p1.2.1) d))))))) then (ih0 ((qaG (qaG p1.1 (qB .i64 x.2.1 p1.2.1) (qe p1.1 (qB .i64 x.2.2.1 p1.2.1) d)) (qB .i64 x.2.2.1 p1.2.1) (qe p1.1 (qB .i64 x.2.1 p1.2.1) d)),((qB .i64 p1.2.1 1),()))) else none) else (some ((),(p1.1,())))))) (x.1,(0,())))
def qcl {α:Type} (d:α) (N:Nat) (x:((List α)×(Int×(Int×(Int×(((α×(α×Unit))→(Option (Int×Unit)))×Unit)))))):(Option (Unit×((List α)×Unit))):=
 (qN (qt .i64 x.2.2.1 x.2.1) (fun y0=>(qac (S:=((List α)×(Int×(Int×Unit)))) (R:=(Unit×((List α)×Unit))) N (fun ih1=>(fun p2=>(bif (neI p2.2.1 p2.2.2.1) then (bif (bif (ltI p2.2.2.1 p2.2.1) then (qv (qfc d N (p2.1,((qt .i64 x.2.2.1 p2.2.1),(x.2.2.1,(p2.2.2.1,(x.2.2.2.2.1,()))))))) else (qv (qfc d N (p2.1,((qt .i64 x.2.2.1 p2.2.1),((qt .i64 (qB .i64 x.2.2.1 p2.2.2.1) p2.2.1),(p2.2.1,(x.2.2.2.2.1,())))))))) then (ih1 ((bif (ltI p2.2.2.1 p2.2.1) then (qp (qfc d N (p2.1,((qt .i64 x.2.2.1 p2.2.1),(x.2.2.1,(p2.2.2.1,(x.2.2.2.2.1,())))))) ((),(([]:List α),()))).2.1 else (qp (qfc d N (p2.1,((qt .i64 x.2.2.1 p2.2.1),((qt .i64 (qB .i64 x.2.2.1 p2.2.2.1) p2.2.1),(p2.2.1,(x.2.2.2.2.1,())))))) ((),(([]:List α),()))).2.1),((bif (ltI p2.2.2.1 p2.2.1) then (qt .i64 p2.2.1 p2.2.2.1) else p2.2.1),((bif (ltI p2.2.2.1 p2.2.1) then p2.2.2.1 else (qt .i64 p2.2.2.1 p2.2.1)),())))) else none) else (bif (qv (qfc d N (p2.1,((qt .i64 x.2.2.1 p2.2.1),(x.2.2.1,(p2.2.1,(x.2.2.2.2.1,()))))))) then (some ((),((qp (qfc d N (p2.1,((qt .i64 x.2.2.1 p2.2.1),(x.2.2.1,(p2.2.1,(x.2.2.2.2.1,())))))) ((),(([]:List α),()))).2.1,()))) else none)))) (x.1,(y0,((qt .i64 x.2.2.2.1 x.2.2.1),()))))))
def qiZ {α:Type} (d:α) (N:Nat) (Fs:((List α)×(Int×(Int×(Int×(((α×(α×Unit))→(Option (Int×Unit)))×Unit)))))→(Option (Unit×((List α)×Unit)))) (x:((List α)×(Int×(Int×(Int×(((α×(α×Unit))→(Option (Int×Unit)))×Unit)))))):(Option (Unit×((List α)×Unit))):=
 (bif (eqI (qt .i64 x.2.2.1 x.2.1) 1) then (qac (S:=((List α)×(Int×(Int×Unit)))) (R:=(Unit×((List α)×Unit))) N (fun ih0=>(fun p1=>(bif (ltI p1.2.1 p1.2.2.1) then (bif (leI 0 1) then (qN (qbd .i64 (qgt .u64 (qbd .u64 (qB .i64 p1.2.1 p1.2.2.1)) 1)) (fun y2=>(bif ((inB y2 (qs p1.1))&&((inB x.2.1 (qs p1.1))&&(qv (x.2.2.2.2.1 ((qe p1.1 y2 d),((qe p1.1 x.2.1 d),())))))) then (ih0 (p1.1,((bif (ltI (qp (x.2.2.2.2.1 ((qe p1.1 y2 d),((qe p1.1 x.2.1 d),()))) (0,())).1 0) then (qB .i64 y2 1) else p1.2.1),((bif (ltI (qp (x.2.2.2.2.1 ((qe p1.1 y2 d),((qe p1.1 x.2.1 d),()))) (0,())).1 0) then p1.2.2.1 else y2),())))) else none))) else none) else (qac (S:=((List α)×(Int×Unit))) (R:=(Unit×((List α)×Unit))) N (fun ih2=>(fun p3=>(bif (ltI p3.2.1 (qt .i64 p1.2.1 1)) then (bif ((inB (qB .i64 p3.2.1 1) (qs p3.1))&&((inB p3.2.1 (qs p3.1))&&((inB p3.2.1 (qs p3.1))&&(inB (qB .i64 p3.2.1 1) (qs (qaG p3.1 p3.2.1 (qe p3.1 (qB .i64 p3.2.1 1) d))))))) then (ih2 ((qaG (qaG p3.1 p3.2.1 (qe p3.1 (qB .i64 p3.2.1 1) d)) (qB .i64 p3.2.1 1) (qe p3.1 p3.2.1 d)),((qB .i64 p3.2.1 1),()))) else none) else (some ((),(p3.1,())))))) (p1.1,(x.2.1,())))))) (x.1,(x.2.2.1,(x.2.2.2.1,())))) else (bif (eqI (qt .i64 x.2.2.2.1 x.2.2.1) 1) then (qac (S:=((List α)×(Int×(Int×Unit)))) (R:=(Unit×((List α)×Unit))) N (fun ih0=>(fun p1=>(bif (ltI p1.2.1 p1.2.2.1) then (bif (leI 0 1) then (qN (qbd .i64 (qgt .u64 (qbd .u64 (qB .i64 p1.2.1 p1.2.2.1)) 1)) (fun y2=>(bif ((inB x.2.2.1 (qs p1.1))&&((inB y2 (qs p1.1))&&(qv (x.2.2.2.2.1 ((qe p1.1 x.2.2.1 d),((qe p1.1 y2 d),())))))) then (ih0 (p1.1,((bif (!(ltI (qp (x.2.2.2.2.1 ((qe p1.1 x.2.2.1 d),((qe p1.1 y2 d),()))) (0,())).1 0)) then (qB .i64 y2 1) else p1.2.1),((bif (!(ltI (qp (x.2.2.2.2.1 ((qe p1.1 x.2.2.1 d),((qe p1.1 y2 d),()))) (0,())).1 0)) then p1.2.2.1 else y2),())))) else none))) else none) else (qac (S:=((List α)×(Int×Unit))) (R:=(Unit×((List α)×Unit))) N (fun ih2=>(fun p3=>(bif (ltI p1.2.1 p3.2.1) then (bif ((inB (qt .i64 p3.2.1 1) (qs p3.1))&&((inB p3.2.1 (qs p3.1))&&((inB p3.2.1 (qs p3.1))&&(inB (qt .i64 p3.2.1 1) (qs (qaG p3.1 p3.2.1 (qe p3.1 (qt .i64 p3.2.1 1) d))))))) then (ih2 ((qaG (qaG p3.1 p3.2.1 (qe p3.1 (qt .i64 p3.2.1 1) d)) (qt .i64 p3.2.1 1) (qe p3.1 p3.2.1 d)),((qt .i64 p3.2.1 1),()))) else none) else (some ((),(p3.1,())))))) (p1.1,(x.2.2.1,())))))) (x.1,(x.2.1,(x.2.2.1,())))) else (bif (leI 0 1) then (qN (qbd .i64 (qgt .u64 (qbd .u64 (qB .i64 x.2.1 x.2.2.2.1)) 1)) (fun y0=>(qN (qB .i64 y0 x.2.2.1) (fun y1=>(qN (bif (ltI y0 x.2.2.1) then (qt .i64 y1 x.2.2.2.1) else x.2.1) (fun y2=>(qN (bif (ltI y0 x.2.2.1) then y0 else x.2.2.1) (fun y3=>(qac (S:=((List α)×(Int×(Int×Unit)))) (R:=(Unit×((List α)×Unit))) N (fun ih4=>(fun p5=>(bif (ltI p5.2.1 p5.2.2.1) then (bif (leI 0 1) then (qN (qbd .i64 (qgt .u64 (qbd .u64 (qB .i64 p5.2.1 p5.2.2.1)) 1)) (fun y6=>(bif ((inB (qt .i64 (qt .i64 y1 1) y6) (qs p5.1))&&((inB y6 (qs p5.1))&&(qv (x.2.2.2.2.1 ((qe p5.1 (qt .i64 (qt .i64 y1 1) y6) d),((qe p5.1 y6 d),())))))) then (ih4 (p5.1,((bif (!(ltI (qp (x.2.2.2.2.1 ((qe p5.1 (qt .i64 (qt .i64 y1 1) y6) d),((qe p5.1 y6 d),()))) (0,())).1 0)) then (qB .i64 y6 1) else p5.2.1),((bif (!(ltI (qp (x.2.2.2.2.1 ((qe p5.1 (qt .i64 (qt .i64 y1 1) y6) d),((qe p5.1 y6 d),()))) (0,())).1 0)) then p5.2.2.1 else y6),())))) else none))) else none) else (qN (qt .i64 y1 p5.2.1) (fun y6=>(qN ((ltI p5.2.1 x.2.2.1)&&(ltI x.2.2.1 y6)) (fun y7=>(bif (bif y7 then (qv (qcl d N (p5.1,(p5.2.1,(x.2.2.1,(y6,(x.2.2.2.2.1,()))))))) else true) then (qN ((ltI x.2.1 p5.2.1)&&(ltI p5.2.1 y0)) (fun y8=>(bif (bif y8 then (qv (Fs ((bif y7 then (qp (qcl d N (p5.1,(p5.2.1,(x.2.2.1,(y6,(x.2.2.2.2.1,())))))) ((),(([]:List α),()))).2.1 else p5.1),(x.2.1,(p5.2.1,(y0,(x.2.2.2.2.1,()))))))) else true) then (qN ((ltI y0 y6)&&(ltI y6 x.2.2.2.1)) (fun y9=>(bif (bif y9 then (qv (Fs ((bif y8 then (qp (Fs ((bif y7 then (qp (qcl d N (p5.1,(p5.2.1,(x.2.2.1,(y6,(x.2.2.2.2.1,())))))) ((),(([]:List α),()))).2.1 else p5.1),(x.2.1,(p5.2.1,(y0,(x.2.2.2.2.1,())))))) ((),(([]:List α),()))).2.1 else (bif y7 then (qp (qcl d N (p5.1,(p5.2.1,(x.2.2.1,(y6,(x.2.2.2.2.1,())))))) ((),(([]:List α),()))).2.1 else p5.1)),(y0,(y6,(x.2.2.2.1,(x.2.2.2.2.1,()))))))) else true) then (some ((),((bif y9 then (qp (Fs ((bif y8 then (qp (Fs ((bif y7 then (qp (qcl d N (p5.1,(p5.2.1,(x.2.2.1,(y6,(x.2.2.2.2.1,())))))) ((),(([]:List α),()))).2.1 else p5.1),(x.2.1,(p5.2.1,(y0,(x.2.2.2.2.1,())))))) ((),(([]:List α),()))).2.1 else (bif y7 then (qp (qcl d N (p5.1,(p5.2.1,(x.2.2.1,(y6,(x.2.2.2.2.1,())))))) ((),(([]:List α),()))).2.1 else p5.1)),(y0,(y6,(x.2.2.2.1,(x.2.2.2.2.1,())))))) ((),(([]:List α),()))).2.1 else (bif y8 then (qp (Fs ((bif y7 then (qp (qcl d N (p5.1,(p5.2.1,(x.2.2.1,(y6,(x.2.2.2.2.1,())))))) ((),(([]:List α),()))).2.1 else p5.1),(x.2.1,(p5.2.1,(y0,(x.2.2.2.2.1,())))))) ((),(([]:List α),()))).2.1 else (bif y7 then (qp (qcl d N (p5.1,(p5.2.1,(x.2.2.1,(y6,(x.2.2.2.2.1,())))))) ((),(([]:List α),()))).2.1 else p5.1))),()))) else none))) else none))) else none)))))))) (x.1,(y2,(y3,())))))))))))) else none)))
def qdV {α:Type} (d:α) (N:Nat) (M:Nat):((List α)×(Int×(Int×(Int×(((α×(α×Unit))→(Option (Int×Unit)))×Unit)))))→(Option (Unit×((List α)×Unit))):=
 Nat.rec (motive:=fun _=>((List α)×(Int×(Int×(Int×(((α×(α×Unit))→(Option (Int×Unit)))×Unit)))))→(Option (Unit×((List α)×Unit)))) (fun _=>none) (fun _ Fs=>qiZ d N Fs) M
def qhx {α:Type} (d:α) (N:Nat):((List α)×(Int×(Int×(Int×(((α×(α×Unit))→(Option (Int×Unit)))×Unit)))))→(Option (Unit×((List α)×Unit))):=qdV d N N
def qhB {α:Type} (d:α) (N:Nat) (x:((List α)×(Int×(((α×(α×Unit))→(Option (Int×Unit)))×Unit)))):(Option (Unit×((List α)×Unit))):=
 (qac (S:=((List α)×(Int×(Int×Unit)))) (R:=(Unit×((List α)×Unit))) N (fun ih0=>(fun p1=>(bif (leI p1.2.2.1 x.2.1) then (bif (qv (qdO d N (p1.1,(p1.2.1,(p1.2.2.1,(x.2.2.1,())))))) then (qN (qp (qdO d N (p1.1,(p1.2.1,(p1.2.2.1,(x.2.2.1,()))))) ((),(([]:List α),()))).2.1 (fun ys2=>(qN p1.2.2.1 (fun y3=>(ih0 (ys2,(y3,((qB .i64 y3 20),())))))))) else none) else (bif (qv (qdO d N (p1.1,(p1.2.1,(x.2.1,(x.2.2.1,())))))) then (qac (S:=((List α)×(Int×Unit))) (R:=(Unit×((List α)×Unit))) N (fun ih2=>(fun p3=>(bif (ltI p3.2.1 x.2.1) then (qac (S:=((List α)×(Int×(Int×Unit)))) (R:=(Unit×((List α)×Unit))) N (fun ih4=>(fun p5=>(bif (leI p5.2.2.1 x.2.1) then (bif (qv (qhx d N (p5.1,(p5.2.1,((qB .i64 p5.2.1 p3.2.1),(p5.2.2.1,(x.2.2.1,()))))))) then (qN (qp (qhx d N (p5.1,(p5.2.1,((qB .i64 p5.2.1 p3.2.1),(p5.2.2.1,(x.2.2.1,())))))) ((),(([]:List α),()))).2.1 (fun ys6=>(qN p5.2.2.1 (fun y7=>(ih4 (ys6,(y7,((qB .i64 y7 (qh8 .i64 2 p3.2.1)),())))))))) else none) else (qN (qB .i64 p5.2.1 p3.2.1) (fun y6=>(bif (bif (ltI y6 x.2.1) then (qv (qhx d N (p5.1,(p5.2.1,(y6,(x.2.1,(x.2.2.1,()))))))) else true) then (ih2 ((bif (ltI y6 x.2.1) then (qp (qhx d N (p5.1,(p5.2.1,(y6,(x.2.1,(x.2.2.1,())))))) ((),(([]:List α),()))).2.1 else p5.1),((qh8 .i64 p3.2.1 2),()))) else none)))))) (p3.1,(0,((qh8 .i64 2 p3.2.1),())))) else (some ((),(p3.1,())))))) ((qp (qdO d N (p1.1,(p1.2.1,(x.2.1,(x.2.2.1,()))))) ((),(([]:List α),()))).2.1,(20,()))) else none)))) (x.1,(0,(20,()))))
def qip {α:Type} (d:α) (N:Nat) (x:((List α)×(((α×(α×Unit))→(Option (Int×Unit)))×Unit))):(Option (Unit×((List α)×Unit))):=
 (bif (qv (qhB d N (x.1,((qs x.1),(x.2.1,()))))) then (some ((),((qp (qhB d N (x.1,((qs x.1),(x.2.1,())))) ((),(([]:List α),()))).2.1,()))) else none)
theorem qa8 {S R:Type} {st1 st2:(S→Option R)→S→Option R} (μ:S→Nat) (I:S→Prop) (Q:Option R→Option R→Prop)
  (hs:∀ih1 ih2 p,I p→(∀q,I q→μ q<μ p→Q (ih1 q) (ih2 q))→Q (st1 ih1 p) (st2 ih2 p)):∀(N:Nat) (p:S),I p→μ p<N→Q (qac N st1 p) (qac N st2 p)
 |0,p,_,h=>by omega
 |N+1,p,hI,h=>by
  rw [qaH,qaH]
  exact hs _ _ p hI fun q hq hm=>qa8 μ I Q hs N q hq (by omega)
structure Ck {α:Type} (P:α→Prop) (n:Nat) (ys:List α):Prop where
 len:ys.length=n
 all:∀x∈ys,P x
def qoi {α:Type} (P:α→Prop) (φ ψ:(α×(α×Unit))→Option (Int×Unit)):Prop:=∀a b,P a→P b→∃c e,φ (a,(b,()))=some (c,())∧ψ (a,(b,()))=some (e,())∧(c<0↔e<0)
def Res {α:Type} (P:α→Prop) (n:Nat) (r s:Option (Unit×(List α×Unit))):Prop:=∃out,Ck P n out∧r=some ((),(out,()))∧s=some ((),(out,()))
theorem Ck.inB {α:Type} {P:α→Prop} {n:Nat} {ys:List α} (h:Ck P n ys) {i:Int} (h0:0≤i) (h1:i<(n:Int)):inB i (qs ys)=true:=by
 rw [qef,qn,h.len]; simp; omega
theorem Ck.get {α:Type} {P:α→Prop} {n:Nat} {ys:List α} (h:Ck P n ys) (d:α) {i:Int} (h0:0≤i) (h1:i<(n:Int)):P (qe ys i d):=by
 obtain ⟨k,rfl⟩:∃k:Nat,i=(k:Int):=⟨i.toNat,by omega⟩
 have hk:k<ys.length:=by rw [h.len]; omega
 rw [qa2 _ hk]
 exact h.all _ (List.getElem_mem hk)
theorem Ck.set {α:Type} {P:α→Prop} {n:Nat} {ys:List α} (h:Ck P n ys) (i:Int) {v:α} (hv:P v):Ck P n (qaG ys i v):=by
 rw [qaN]
 refine ⟨by rw [List.length_set]; exact h.len,fun x hx=> ?_⟩
 rcases List.mem_or_eq_of_mem_set hx with hx|rfl
 ·exact h.all x hx
 ·exact hv
theorem ltT {x y:Int} (h:x<y):ltI x y=true:=by rw [qcN]; exact decide_eq_true h
theorem ltF {x y:Int} (h:¬x<y):ltI x y=false:=by rw [qcN]; exact decide_eq_false h
theorem leT {x y:Int} (h:x≤y):leI x y=true:=by rw [qaT]; exact decide_eq_true h
theorem leF {x y:Int} (h:¬x≤y):leI x y=false:=by rw [qaT]; exact decide_eq_false h
theorem eqT {x y:Int} (h:x=y):eqI x y=true:=by rw [qcA]; exact decide_eq_true h
theorem eqF {x y:Int} (h:¬x=y):eqI x y=false:=by rw [qcA]; exact decide_eq_false h
theorem neT {x y:Int} (h:¬x=y):neI x y=true:=by rw [qaI]; simp [h]
theorem neF {x y:Int} (h:x=y):neI x y=false:=by rw [qaI]; simp [h]
theorem qgH {x y:Int} (hx:0≤x) (hy:0≤y) (h:x+y≤4398046511104):qbd .i64 (qgt .u64 (qbd .u64 (qB .i64 x y)) 1)=(x+y) / 2:=by
 have e1:qB .i64 x y=x+y:=qO (by omega) (by omega)
 have e2:qbd .u64 (x+y)=x+y:=by rw [qdh,qmt]; omega
 have e3:qgt .u64 (x+y) 1=(x+y) / 2:=by
  rw [qgJ]
  have:(2:Int)^ (min (1:Int).toNat IntKind.u64.bits)=2:=by decide
  rw [this,Int.fdiv_eq_ediv_of_nonneg _ (by omega)]
 rw [e1,e2,e3,ql5 (by omega) (by omega)]
section
variable {α:Type} {P:α→Prop} {n:Nat} (d:α) {φ ψ:(α×(α×Unit))→Option (Int×Unit)} {N:Nat}
theorem qle (hφ:qoi P φ ψ) (hn:n≤1099511627776) (hN:n+1<N) {ys:List α} (h:Ck P n ys) {a b:Int} (ha:0≤a) (ha2:a≤(n:Int)) (hb:b≤(n:Int)):Res P n (qdO d N (ys,(a,(b,(φ,()))))) (qdO d N (ys,(a,(b,(ψ,()))))):=by
 simp only [qdO]
 have ea:qB .i64 a 1=a+1:=qO (by omega) (by omega)
 rw [ea]
 refine qa8 (S:=List α×(Int×Unit)) (fun p=>(b - p.2.1).toNat) (fun p=>Ck P n p.1∧a+1≤p.2.1∧p.2.1≤(n:Int)+1) (Res P n) ?_ N _ ⟨h,by simp only; omega,by simp only; omega⟩ (by simp only; omega)
 rintro ih1 ih2 ⟨ys,i,⟨⟩⟩ ⟨h,hi,hi2⟩ hih
 simp only at h hi hi2 hih⊢
 by_cases hc:i<b
 ·simp only [ltT hc,cond_true]
  refine qa8 (S:=List α×(Int×Unit)) (fun p=>(p.2.1 - a).toNat) (fun p=>Ck P n p.1∧a≤p.2.1∧p.2.1≤i) (Res P n) ?_ N _ ⟨h,by simp only; omega,by simp only; omega⟩ (by simp only; omega)
  rintro jh1 jh2 ⟨zs,j,⟨⟩⟩ ⟨hz,hj1,hj2⟩ hjh
  simp only at hz hj1 hj2 hjh⊢
  have ei:qB .i64 i 1=i+1:=qO (by omega) (by omega)
  by_cases hja:a<j
  ·have s1:qt .i64 j 1=j - 1:=qQ (by omega) (by omega)
   obtain ⟨c,e,e1,e2,e3⟩:=hφ _ _ (hz.get d (i:=j) (by omega) (by omega)) (hz.get d (i:=j - 1) (by omega) (by omega))
   have b1:=hz.inB (i:=j) (by omega) (by omega)
   have b2:=hz.inB (i:=j - 1) (by omega) (by omega)
   have k1:=hz.set j (hz.get d (i:=j - 1) (by omega) (by omega))
   have b3:=k1.inB (i:=j - 1) (by omega) (by omega)
   have k2:=k1.set (j - 1) (hz.get d (i:=j) (by omega) (by omega))
   simp only [ltT hja,s1,b1,b2,e1,e2,qd,qg,Bool.not_true,Bool.false_or,Bool.and_self,cond_true,Bool.true_and]
   by_cases hc0:c<0
   ·simp only [ltT hc0,ltT (e3.1 hc0),b3,cond_true]
    exact hjh _ ⟨k2,by simp only; omega,by simp only; omega⟩ (by simp only; omega)
   ·simp only [ltF hc0,ltF (fun q=>hc0 (e3.2 q)),cond_false,ei]
    exact hih _ ⟨hz,by simp only; omega,by simp only; omega⟩ (by simp only; omega)
  ·simp only [ltF hja,Bool.not_false,Bool.true_or,Bool.and_self,cond_true,Bool.false_and,cond_false,ei]
   exact hih _ ⟨hz,by simp only; omega,by simp only; omega⟩ (by simp only; omega)
 ·simp only [ltF hc,cond_false]
  exact ⟨ys,h,rfl,rfl⟩
theorem qiw (hn:n≤1099511627776) (hN:n+1<N) {ys:List α} (h:Ck P n ys) {a b m:Int} (ha:0≤a) (hb:0≤b) (hm:0≤m) (ha2:a+m≤(n:Int)) (hb2:b+m≤(n:Int)):Res P n (qfc d N (ys,(a,(b,(m,(φ,())))))) (qfc d N (ys,(a,(b,(m,(ψ,())))))):=by
 simp only [qfc]
 refine qa8 (S:=List α×(Int×Unit)) (fun p=>(m - p.2.1).toNat) (fun p=>Ck P n p.1∧0≤p.2.1) (Res P n) ?_ N _ ⟨h,by simp only; omega⟩ (by simp only; omega)
 rintro ih1 ih2 ⟨ys,i,⟨⟩⟩ ⟨h,hi⟩ hih
 simp only at h hi hih⊢
 by_cases hc:i<m
 ·have e1:qB .i64 a i=a+i:=qO (by omega) (by omega)
  have e2:qB .i64 b i=b+i:=qO (by omega) (by omega)
  have e3:qB .i64 i 1=i+1:=qO (by omega) (by omega)
  have b1:=h.inB (i:=a+i) (by omega) (by omega)
  have b2:=h.inB (i:=b+i) (by omega) (by omega)
  have k1:=h.set (a+i) (h.get d (i:=b+i) (by omega) (by omega))
  have b3:=k1.inB (i:=b+i) (by omega) (by omega)
  have k2:=k1.set (b+i) (h.get d (i:=a+i) (by omega) (by omega))
  simp only [ltT hc,e1,e2,e3,b1,b2,b3,Bool.and_self,cond_true]
  exact hih _ ⟨k2,by simp only; omega⟩ (by simp only; omega)
 ·simp only [ltF hc,cond_false]
  exact ⟨ys,h,rfl,rfl⟩
theorem qoD (hn:n≤1099511627776) (hN:2 * n+1<N) {ys:List α} (h:Ck P n ys) {a m b:Int} (ha:0≤a) (h1:a<m) (h2:m<b) (hb:b≤(n:Int)):Res P n (qcl d N (ys,(a,(m,(b,(φ,())))))) (qcl d N (ys,(a,(m,(b,(ψ,())))))):=by
 have e1:qt .i64 m a=m - a:=qQ (by omega) (by omega)
 have e2:qt .i64 b m=b - m:=qQ (by omega) (by omega)
 simp only [qcl,qD,e1,e2]
 refine qa8 (S:=List α×(Int×(Int×Unit))) (fun p=>(p.2.1+p.2.2.1).toNat) (fun p=>Ck P n p.1∧1≤p.2.1∧p.2.1≤m - a∧1≤p.2.2.1∧p.2.2.1≤b - m) (Res P n) ?_ N _ ⟨h,by simp only; omega,by simp only; omega,by simp only; omega,by simp only; omega⟩ (by simp only; omega)
 rintro ih1 ih2 ⟨ys,i,j,⟨⟩⟩ ⟨h,hi,hi2,hj,hj2⟩ hih
 simp only at h hi hi2 hj hj2 hih⊢
 have s1:qt .i64 m i=m - i:=qQ (by omega) (by omega)
 by_cases hc:i=j
 ·obtain ⟨out,k1,k2,k3⟩:=qiw (φ:=φ) (ψ:=ψ) d hn (by omega:n+1<N) h (a:=m - i) (b:=m) (m:=i) (by omega) (by omega) (by omega) (by omega) (by omega)
  simp only [neF hc,cond_false,s1,k2,k3,qd,qg,cond_true]
  exact ⟨out,k1,rfl,rfl⟩
 ·have s2:qB .i64 m j=m+j:=qO (by omega) (by omega)
  have s3:qt .i64 (m+j) i=m+j - i:=qQ (by omega) (by omega)
  have s4:qt .i64 i j=i - j:=qQ (by omega) (by omega)
  have s5:qt .i64 j i=j - i:=qQ (by omega) (by omega)
  by_cases hq:j<i
  ·obtain ⟨out,k1,k2,k3⟩:=qiw (φ:=φ) (ψ:=ψ) d hn (by omega:n+1<N) h (a:=m - i) (b:=m) (m:=j) (by omega) (by omega) (by omega) (by omega) (by omega)
   simp only [neT hc,ltT hq,cond_true,s1,s4,k2,k3,qd,qg]
   exact hih _ ⟨k1,by simp only; omega,by simp only; omega,by simp only; omega,by simp only; omega⟩ (by simp only; omega)
  ·obtain ⟨out,k1,k2,k3⟩:=qiw (φ:=φ) (ψ:=ψ) d hn (by omega:n+1<N) h (a:=m - i) (b:=m+j - i) (m:=i) (by omega) (by omega) (by omega) (by omega) (by omega)
   simp only [neT hc,ltF hq,cond_true,cond_false,s1,s2,s3,s5,k2,k3,qd,qg]
   exact hih _ ⟨k1,by simp only; omega,by simp only; omega,by simp only; omega,by simp only; omega⟩ (by simp only; omega)
theorem qjo (hφ:qoi P φ ψ) (hn:n≤1099511627776) (hN:2 * n+1<N):∀(M:Nat) (ys:List α),Ck P n ys→∀(a m b:Int),0≤a→a<m→m<b→b≤(n:Int)→(b - a).toNat<M→Res P n (qdV d N M (ys,(a,(m,(b,(φ,())))))) (qdV d N M (ys,(a,(m,(b,(ψ,()))))))
 |0,_,_,_,_,_,_,_,_,_,h=>by omega
 |M+1,ys,h,a,m,b,ha,h1,h2,hb,hM=>by
  have ih:=qjo hφ hn hN M
  have unf:∀χ,qdV d N (M+1) (ys,(a,(m,(b,(χ,())))))=qiZ d N (qdV d N M) (ys,(a,(m,(b,(χ,()))))):=fun _=>rfl
  rw [unf,unf]
  have e1:qt .i64 m a=m - a:=qQ (by omega) (by omega)
  have e2:qt .i64 b m=b - m:=qQ (by omega) (by omega)
  have l01:leI 0 1=true:=leT (by omega)
  simp only [qiZ,qD,e1,e2,l01,cond_true]
  by_cases q1:m - a=1
  ·simp only [eqT q1,cond_true]
   refine qa8 (S:=List α×(Int×(Int×Unit))) (fun p=>(p.2.2.1 - p.2.1).toNat) (fun p=>Ck P n p.1∧m≤p.2.1∧p.2.1≤b∧p.2.2.1≤b) (Res P n) ?_ N _ ⟨h,by simp only; omega,by simp only; omega,by simp only; omega⟩ (by simp only; omega)
   rintro ih1 ih2 ⟨ys,i,j,⟨⟩⟩ ⟨h,hi,hi2,hj⟩ hih
   simp only at h hi hi2 hj hih⊢
   by_cases hc:i<j
   ·have em:=qgH (x:=i) (y:=j) (by omega) (by omega) (by omega)
    have em1:qB .i64 ((i+j) / 2) 1=(i+j) / 2+1:=qO (by omega) (by omega)
    obtain ⟨c,e,e3,e4,e5⟩:=hφ _ _ (h.get d (i:=(i+j) / 2) (by omega) (by omega)) (h.get d (i:=a) (by omega) (by omega))
    simp only [ltT hc,cond_true,em,em1,h.inB (i:=(i+j) / 2) (by omega) (by omega),h.inB (i:=a) (by omega) (by omega),e3,e4,qd,qg,Bool.and_self]
    by_cases hc0:c<0
    ·simp only [ltT hc0,ltT (e5.1 hc0),cond_true]
     exact hih _ ⟨h,by simp only; omega,by simp only; omega,by simp only; omega⟩ (by simp only; omega)
    ·simp only [ltF hc0,ltF (fun q=>hc0 (e5.2 q)),cond_false]
     exact hih _ ⟨h,by simp only; omega,by simp only; omega,by simp only; omega⟩ (by simp only; omega)
   ·simp only [ltF hc,cond_false]
    have ei:qt .i64 i 1=i - 1:=qQ (by omega) (by omega)
    rw [ei]
    refine qa8 (S:=List α×(Int×Unit)) (fun p=>(i - p.2.1).toNat) (fun p=>Ck P n p.1∧a≤p.2.1) (Res P n) ?_ N _ ⟨h,by simp only; omega⟩ (by simp only; omega)
    rintro jh1 jh2 ⟨zs,k,⟨⟩⟩ ⟨hz,hk⟩ hjh
    simp only at hz hk hjh⊢
    by_cases hk2:k<i - 1
    ·have s1:qB .i64 k 1=k+1:=qO (by omega) (by omega)
     have k1:=hz.set k (hz.get d (i:=k+1) (by omega) (by omega))
     have k2:=k1.set (k+1) (hz.get d (i:=k) (by omega) (by omega))
     simp only [ltT hk2,s1,hz.inB (i:=k) (by omega) (by omega),hz.inB (i:=k+1) (by omega) (by omega),k1.inB (i:=k+1) (by omega) (by omega),Bool.and_self,cond_true]
     exact hjh _ ⟨k2,by simp only; omega⟩ (by simp only; omega)
    ·simp only [ltF hk2,cond_false]
     exact ⟨zs,hz,rfl,rfl⟩
  simp only [eqF q1,cond_false]
  by_cases q2:b - m=1
  ·simp only [eqT q2,cond_true]
   refine qa8 (S:=List α×(Int×(Int×Unit))) (fun p=>(p.2.2.1 - p.2.1).toNat) (fun p=>Ck P n p.1∧a≤p.2.1∧p.2.1≤m∧p.2.2.1≤m) (Res P n) ?_ N _ ⟨h,by simp only; omega,by simp only; omega,by simp only; omega⟩ (by simp only; omega)
   rintro ih1 ih2 ⟨ys,i,j,⟨⟩⟩ ⟨h,hi,hi2,hj⟩ hih
   simp only at h hi hi2 hj hih⊢
   by_cases hc:i<j
   ·have em:=qgH (x:=i) (y:=j) (by omega) (by omega) (by omega)
    have em1:qB .i64 ((i+j) / 2) 1=(i+j) / 2+1:=qO (by omega) (by omega)
    obtain ⟨c,e,e3,e4,e5⟩:=hφ _ _ (h.get d (i:=m) (by omega) (by omega)) (h.get d (i:=(i+j) / 2) (by omega) (by omega))
    simp only [ltT hc,cond_true,em,em1,h.inB (i:=(i+j) / 2) (by omega) (by omega),h.inB (i:=m) (by omega) (by omega),e3,e4,qd,qg,Bool.and_self]
    by_cases hc0:c<0
    ·simp only [ltT hc0,ltT (e5.1 hc0),Bool.not_true,cond_false]
     exact hih _ ⟨h,by simp only; omega,by simp only; omega,by simp only; omega⟩ (by simp only; omega)
    ·simp only [ltF hc0,ltF (fun q=>hc0 (e5.2 q)),Bool.not_false,cond_true]
     exact hih _ ⟨h,by simp only; omega,by simp only; omega,by simp only; omega⟩ (by simp only; omega)
   ·simp only [ltF hc,cond_false]
    refine qa8 (S:=List α×(Int×Unit)) (fun p=>(p.2.1 - i).toNat) (fun p=>Ck P n p.1∧p.2.1≤m) (Res P n) ?_ N _ ⟨h,by simp only; omega⟩ (by simp only; omega)
    rintro jh1 jh2 ⟨zs,k,⟨⟩⟩ ⟨hz,hk⟩ hjh
    simp only at hz hk hjh⊢
    by_cases hk2:i<k
    ·have s1:qt .i64 k 1=k - 1:=qQ (by omega) (by omega)
     have k1:=hz.set k (hz.get d (i:=k - 1) (by omega) (by omega))
     have k2:=k1.set (k - 1) (hz.get d (i:=k) (by omega) (by omega))
     simp only [ltT hk2,s1,hz.inB (i:=k) (by omega) (by omega),hz.inB (i:=k - 1) (by omega) (by omega),k1.inB (i:=k - 1) (by omega) (by omega),Bool.and_self,cond_true]
     exact hjh _ ⟨k2,by simp only; omega⟩ (by simp only; omega)
    ·simp only [ltF hk2,cond_false]
     exact ⟨zs,hz,rfl,rfl⟩
  simp only [eqF q2,cond_false]
  have em:=qgH (x:=a) (y:=b) (by omega) (by omega) (by omega)
  rw [em]
  generalize hmid:(a+b) / 2=mid
  have hm1:a<mid:=by omega
  have hm2:mid<b:=by omega
  have en:qB .i64 mid m=mid+m:=qO (by omega) (by omega)
  have en2:qt .i64 (mid+m) b=mid+m - b:=qQ (by omega) (by omega)
  have en3:qt .i64 (mid+m) 1=mid+m - 1:=qQ (by omega) (by omega)
  simp only [en,en2,en3]
  obtain ⟨st,r,hst,hr,g1,g2,g3,g4⟩:∃st r:Int,(bif ltI mid m then mid+m - b else a)=st∧(bif ltI mid m then mid else m)=r∧a≤st∧st≤r∧r≤mid∧r≤m∧mid+m - st≤b:=by
   by_cases hq:mid<m
   ·exact ⟨_,_,rfl,rfl,by rw [ltT hq]; simp only [cond_true]; omega⟩
   ·exact ⟨_,_,rfl,rfl,by rw [ltF hq]; simp only [cond_false]; omega⟩
  obtain ⟨g4,g5⟩:=g4
  simp only [hst,hr]
  refine qa8 (S:=List α×(Int×(Int×Unit))) (fun p=>(p.2.2.1 - p.2.1).toNat) (fun p=>Ck P n p.1∧st≤p.2.1∧p.2.1≤r∧p.2.2.1≤r) (Res P n) ?_ N _ ⟨h,by simp only; omega,by simp only; omega,by simp only; omega⟩ (by simp only; omega)
  rintro ih1 ih2 ⟨ys,i,j,⟨⟩⟩ ⟨h,hi,hi2,hj⟩ hih
  simp only at h hi hi2 hj hih⊢
  by_cases hc:i<j
  ·have em:=qgH (x:=i) (y:=j) (by omega) (by omega) (by omega)
   have em1:qB .i64 ((i+j) / 2) 1=(i+j) / 2+1:=qO (by omega) (by omega)
   have em2:qt .i64 (mid+m - 1) ((i+j) / 2)=mid+m - 1 - (i+j) / 2:=qQ (by omega) (by omega)
   obtain ⟨c,e,e3,e4,e5⟩:=hφ _ _ (h.get d (i:=mid+m - 1 - (i+j) / 2) (by omega) (by omega)) (h.get d (i:=(i+j) / 2) (by omega) (by omega))
   simp only [ltT hc,cond_true,em,em1,em2,h.inB (i:=mid+m - 1 - (i+j) / 2) (by omega) (by omega),h.inB (i:=(i+j) / 2) (by omega) (by omega),e3,e4,qd,qg,Bool.and_self]
   by_cases hc0:c<0
   ·simp only [ltT hc0,ltT (e5.1 hc0),Bool.not_true,cond_false]
    exact hih _ ⟨h,by simp only; omega,by simp only; omega,by simp only; omega⟩ (by simp only; omega)
   ·simp only [ltF hc0,ltF (fun q=>hc0 (e5.2 q)),Bool.not_false,cond_true]
    exact hih _ ⟨h,by simp only; omega,by simp only; omega,by simp only; omega⟩ (by simp only; omega)
  ·have ee:qt .i64 (mid+m) i=mid+m - i:=qQ (by omega) (by omega)
   simp only [ltF hc,cond_false,ee]
   obtain ⟨zs,z1,z2,z3,z4⟩:∃zs,Ck P n zs∧(bif (ltI i m&&ltI m (mid+m - i)) then qv (qcl d N (ys,(i,(m,(mid+m - i,(φ,())))))) else true)=true∧(bif (ltI i m&&ltI m (mid+m - i)) then qv (qcl d N (ys,(i,(m,(mid+m - i,(ψ,())))))) else true)=true∧(bif (ltI i m&&ltI m (mid+m - i)) then (qp (qcl d N (ys,(i,(m,(mid+m - i,(φ,())))))) ((),(([]:List α),()))).2.1 else ys)=zs∧(bif (ltI i m&&ltI m (mid+m - i)) then (qp (qcl d N (ys,(i,(m,(mid+m - i,(ψ,())))))) ((),(([]:List α),()))).2.1 else ys)=zs:=by
    by_cases hq:i<m∧m<mid+m - i
    ·obtain ⟨out,k1,k2,k3⟩:=qoD (φ:=φ) (ψ:=ψ) d hn hN h (a:=i) (m:=m) (b:=mid+m - i) (by omega) hq.1 hq.2 (by omega)
     exact ⟨out,k1,by simp only [ltT hq.1,ltT hq.2,Bool.and_self,cond_true,k2,k3,qd,qg,and_self]⟩
    ·have e:(ltI i m&&ltI m (mid+m - i))=false:=by
      by_cases hq1:i<m
      ·rw [ltF (fun hq2=>hq ⟨hq1,hq2⟩),Bool.and_false]
      ·rw [ltF hq1,Bool.false_and]
     exact ⟨ys,h,by simp only [e,cond_false,and_self]⟩
   obtain ⟨z4,z5⟩:=z4
   simp only [z2,z3,z4,z5,cond_true]
   obtain ⟨ws,w1,w2,w3,w4,w5⟩:∃ws,Ck P n ws∧(bif (ltI a i&&ltI i mid) then qv (qdV d N M (zs,(a,(i,(mid,(φ,())))))) else true)=true∧(bif (ltI a i&&ltI i mid) then qv (qdV d N M (zs,(a,(i,(mid,(ψ,())))))) else true)=true∧(bif (ltI a i&&ltI i mid) then (qp (qdV d N M (zs,(a,(i,(mid,(φ,())))))) ((),(([]:List α),()))).2.1 else zs)=ws∧(bif (ltI a i&&ltI i mid) then (qp (qdV d N M (zs,(a,(i,(mid,(ψ,())))))) ((),(([]:List α),()))).2.1 else zs)=ws:=by
    by_cases hq:a<i∧i<mid
    ·obtain ⟨out,k1,k2,k3⟩:=ih zs z1 a i mid ha hq.1 hq.2 (by omega) (by omega)
     exact ⟨out,k1,by simp only [ltT hq.1,ltT hq.2,Bool.and_self,cond_true,k2,k3,qd,qg,and_self]⟩
    ·have e:(ltI a i&&ltI i mid)=false:=by
      by_cases hq1:a<i
      ·rw [ltF (fun hq2=>hq ⟨hq1,hq2⟩),Bool.and_false]
      ·rw [ltF hq1,Bool.false_and]
     exact ⟨zs,z1,by simp only [e,cond_false,and_self]⟩
   simp only [w2,w3,w4,w5,cond_true]
   by_cases hq:mid<mid+m - i∧mid+m - i<b
   ·obtain ⟨out,k1,k2,k3⟩:=ih ws w1 mid (mid+m - i) b (by omega) hq.1 hq.2 hb (by omega)
    simp only [ltT hq.1,ltT hq.2,Bool.and_self,cond_true,k2,k3,qd,qg]
    exact ⟨out,k1,rfl,rfl⟩
   ·have e:(ltI mid (mid+m - i)&&ltI (mid+m - i) b)=false:=by
     by_cases hq1:mid<mid+m - i
     ·rw [ltF (fun hq2=>hq ⟨hq1,hq2⟩),Bool.and_false]
     ·rw [ltF hq1,Bool.false_and]
    simp only [e,cond_false,cond_true]
    exact ⟨ws,w1,rfl,rfl⟩
theorem qlo (hφ:qoi P φ ψ) (hn:n≤1099511627776) (hN:2 * n+1<N) {ys:List α} (h:Ck P n ys) {a m b:Int} (ha:0≤a) (h1:a<m) (h2:m<b) (hb:b≤(n:Int)):Res P n (qhx d N (ys,(a,(m,(b,(φ,())))))) (qhx d N (ys,(a,(m,(b,(ψ,())))))):=
 qjo d hφ hn hN N ys h a m b ha h1 h2 hb (by omega)
theorem qof (hφ:qoi P φ ψ) (hn:n≤1099511627776) (hN:2 * n+100<N) {ys:List α} (h:Ck P n ys):Res P n (qhB d N (ys,((n:Int),(φ,())))) (qhB d N (ys,((n:Int),(ψ,())))):=by
 simp only [qhB,qD]
 refine qa8 (S:=List α×(Int×(Int×Unit))) (fun p=>((n:Int)+20 - p.2.2.1).toNat) (fun p=>Ck P n p.1∧0≤p.2.1∧p.2.1≤(n:Int)∧p.2.2.1=p.2.1+20) (Res P n) ?_ N _ ⟨h,by simp only; omega,by simp only; omega,by simp only; omega⟩ (by simp only; omega)
 rintro ih1 ih2 ⟨ys,a,b,⟨⟩⟩ ⟨h,ha,ha2,hb⟩ hih
 simp only at h ha ha2 hb hih⊢
 by_cases hc:b≤(n:Int)
 ·obtain ⟨out,k1,k2,k3⟩:=qle d hφ hn (by omega:n+1<N) h ha ha2 hc
  have e1:qB .i64 b 20=b+20:=qO (by omega) (by omega)
  simp only [leT hc,cond_true,k2,k3,qd,qg,e1]
  exact hih _ ⟨k1,by simp only; omega,by simp only; omega,by simp only⟩ (by simp only; omega)
 ·obtain ⟨out,k1,k2,k3⟩:=qle d hφ hn (by omega:n+1<N) h ha ha2 (Int.le_refl (n:Int))
  simp only [leF hc,cond_false,k2,k3,qd,qg,cond_true]
  refine qa8 (S:=List α×(Int×Unit)) (fun p=>((n:Int) - p.2.1).toNat) (fun p=>Ck P n p.1∧1≤p.2.1∧p.2.1≤2 * (n:Int)+20) (Res P n) ?_ N _ ⟨k1,by simp only; omega,by simp only; omega⟩ (by simp only; omega)
  rintro jh1 jh2 ⟨ys,s,⟨⟩⟩ ⟨h,hs,hs2⟩ hjh
  simp only at h hs hs2 hjh⊢
  by_cases hsn:s<(n:Int)
  ·have e1:qh8 .i64 2 s=2 * s:=by rw [qb1,qbj (by omega) (by omega)]
   have e2:qh8 .i64 s 2=2 * s:=by rw [qb1,qbj (by omega) (by omega)]; omega
   simp only [ltT hsn,cond_true,e1,e2]
   refine qa8 (S:=List α×(Int×(Int×Unit))) (fun p=>((n:Int)+2 * s - p.2.2.1).toNat) (fun p=>Ck P n p.1∧0≤p.2.1∧p.2.1≤(n:Int)∧p.2.2.1=p.2.1+2 * s) (Res P n) ?_ N _ ⟨h,by simp only; omega,by simp only; omega,by simp only; omega⟩ (by simp only; omega)
   rintro kh1 kh2 ⟨ys,a,b,⟨⟩⟩ ⟨h,ha,ha2,hb⟩ hkh
   simp only at h ha ha2 hb hkh⊢
   have e3:qB .i64 a s=a+s:=qO (by omega) (by omega)
   by_cases hc:b≤(n:Int)
   ·obtain ⟨out,k1,k2,k3⟩:=qlo d hφ hn (by omega:2 * n+1<N) h (a:=a) (m:=a+s) (b:=b) ha (by omega) (by omega) hc
    have e4:qB .i64 b (2 * s)=b+2 * s:=qO (by omega) (by omega)
    simp only [leT hc,cond_true,e3,k2,k3,qd,qg,e4]
    exact hkh _ ⟨k1,by simp only; omega,by simp only; omega,by simp only⟩ (by simp only; omega)
   ·simp only [leF hc,cond_false,e3]
    by_cases hq:a+s<(n:Int)
    ·obtain ⟨out,k1,k2,k3⟩:=qlo d hφ hn (by omega:2 * n+1<N) h (a:=a) (m:=a+s) (b:=(n:Int)) ha (by omega) hq (Int.le_refl _)
     simp only [ltT hq,cond_true,k2,k3,qd,qg]
     exact hjh _ ⟨k1,by simp only; omega,by simp only; omega⟩ (by simp only; omega)
    ·simp only [ltF hq,cond_false,cond_true]
     exact hjh _ ⟨h,by simp only; omega,by simp only; omega⟩ (by simp only; omega)
  ·simp only [ltF hsn,cond_false]
   exact ⟨ys,h,rfl,rfl⟩
theorem srtAll_ok (hφ:qoi P φ ψ) {ys:List α} (hn:ys.length≤1099511627776) (hN:2 * ys.length+100<N) (h:∀x∈ys,P x):∃out:List α,qip d N (ys,(φ,()))=some ((),(out,()))∧qip d N (ys,(ψ,()))=some ((),(out,()))∧out.length=ys.length∧∀x∈out,P x:=by
 obtain ⟨out,k1,k2,k3⟩:=qof d hφ hn hN ⟨rfl,h⟩
 refine ⟨out,?_,?_,k1.len,k1.all⟩
 ·simp only [qip,qn,k2,qd,qg,cond_true]
 ·simp only [qip,qn,k3,qd,qg,cond_true]
end
end
end Go.Vi
set_option linter.unusedSimpArgs false
set_option linter.unusedVariables false
set_option maxRecDepth 100000
namespace Go.Vi
noncomputable section
def qhq {α:Type} (d:α) (N:Nat) (x:((List α)×(Int×(Int×(Int×(((α×(α×Unit))→(Option (Int×Unit)))×Unit)))))):(Option (Unit×((List α)×Unit))):=
 (qac (S:=((List α)×(Int×Unit))) (R:=(Unit×((List α)×Unit))) N (fun ih0=>(fun p1=>(qN (qB .i64 (qh8 .i64 2 p1.2.1) 1) (fun y2=>(bif (leI x.2.2.1 y2) then (some ((),(p1.1,()))) else (bif (((!(ltI (qB .i64 y2 1) x.2.2.1))||(inB (qB .i64 x.2.2.2.1 y2) (qs p1.1)))&&(((!(ltI (qB .i64 y2 1) x.2.2.1))||(inB (qB .i64 (qB .i64 x.2.2.2.1 y2) 1) (qs p1.1)))&&((!(ltI (qB .i64 y2 1) x.2.2.1))||(qv (x.2.2.2.2.1 ((qe p1.1 (qB .i64 x.2.2.2.1 y2) d),((qe p1.1 (qB .i64 (qB .i64 x.2.2.2.1 y2) 1) d),()))))))) then (qN ((ltI (qB .i64 y2 1) x.2.2.1)&&(ltI (qp (x.2.2.2.2.1 ((qe p1.1 (qB .i64 x.2.2.2.1 y2) d),((qe p1.1 (qB .i64 (qB .i64 x.2.2.2.1 y2) 1) d),()))) (0,())).1 0)) (fun y3=>(qN (bif y3 then (qB .i64 y2 1) else y2) (fun y4=>(bif ((inB (qB .i64 x.2.2.2.1 p1.2.1) (qs p1.1))&&((inB (qB .i64 x.2.2.2.1 y4) (qs p1.1))&&(qv (x.2.2.2.2.1 ((qe p1.1 (qB .i64 x.2.2.2.1 p1.2.1) d),((qe p1.1 (qB .i64 x.2.2.2.1 y4) d),())))))) then (bif (!(ltI (qp (x.2.2.2.2.1 ((qe p1.1 (qB .i64 x.2.2.2.1 p1.2.1) d),((qe p1.1 (qB .i64 x.2.2.2.1 y4) d),()))) (0,())).1 0)) then (some ((),(p1.1,()))) else (bif ((inB (qB .i64 x.2.2.2.1 y4) (qs p1.1))&&((inB (qB .i64 x.2.2.2.1 p1.2.1) (qs p1.1))&&((inB (qB .i64 x.2.2.2.1 p1.2.1) (qs p1.1))&&(inB (qB .i64 x.2.2.2.1 y4) (qs (qaG p1.1 (qB .i64 x.2.2.2.1 p1.2.1) (qe p1.1 (qB .i64 x.2.2.2.1 y4) d))))))) then (ih0 ((qaG (qaG p1.1 (qB .i64 x.2.2.2.1 p1.2.1) (qe p1.1 (qB .i64 x.2.2.2.1 y4) d)) (qB .i64 x.2.2.2.1 y4) (qe p1.1 (qB .i64 x.2.2.2.1 p1.2.1) d)),(y4,()))) else none)) else none))))) else none)))))) (x.1,(x.2.1,())))
def qlR {α:Type} (d:α) (N:Nat) (x:((List α)×(Int×(Int×(((α×(α×Unit))→(Option (Int×Unit)))×Unit))))):(Option (Unit×((List α)×Unit))):=
 (qN (qt .i64 x.2.2.1 x.2.1) (fun y0=>(bif (neI 2 0) then (qac (S:=((List α)×(Int×Unit))) (R:=(Unit×((List α)×Unit))) N (fun ih1=>(fun p2=>(bif (leI 0 p2.2.1) then (bif (qv (qhq d N (p2.1,(p2.2.1,(y0,(x.2.1,(x.2.2.2.1,()))))))) then (ih1 ((qp (qhq d N (p2.1,(p2.2.1,(y0,(x.2.1,(x.2.2.2.1,())))))) ((),(([]:List α),()))).2.1,((qt .i64 p2.2.1 1),()))) else none) else (qac (S:=((List α)×(Int×Unit))) (R:=(Unit×((List α)×Unit))) N (fun ih3=>(fun p4=>(bif (leI 0 p4.2.1) then (bif ((inB (qB .i64 x.2.1 p4.2.1) (qs p4.1))&&((inB x.2.1 (qs p4.1))&&((inB x.2.1 (qs p4.1))&&(inB (qB .i64 x.2.1 p4.2.1) (qs (qaG p4.1 x.2.1 (qe p4.1 (qB .i64 x.2.1 p4.2.1) d))))))) then (bif (qv (qhq d N ((qaG (qaG p4.1 x.2.1 (qe p4.1 (qB .i64 x.2.1 p4.2.1) d)) (qB .i64 x.2.1 p4.2.1) (qe p4.1 x.2.1 d)),(0,(p4.2.1,(x.2.1,(x.2.2.2.1,()))))))) then (ih3 ((qp (qhq d N ((qaG (qaG p4.1 x.2.1 (qe p4.1 (qB .i64 x.2.1 p4.2.1) d)) (qB .i64 x.2.1 p4.2.1) (qe p4.1 x.2.1 d)),(0,(p4.2.1,(x.2.1,(x.2.2.2.1,())))))) ((),(([]:List α),()))).2.1,((qt .i64 p4.2.1 1),()))) else none) else none) else (some ((),(p4.1,())))))) (p2.1,((qt .i64 y0 1),())))))) (x.1,((qkP .i64 (qt .i64 y0 1) 2),()))) else none)))
def qaw {α:Type} (d:α) (N:Nat) (x:((List α)×(Int×(Int×(((α×(α×Unit))→(Option (Int×Unit)))×Unit))))):(Option (Unit×((List α)×Unit))):=
 (qac (S:=((List α)×(Int×(Int×Unit)))) (R:=(Unit×((List α)×Unit))) N (fun ih0=>(fun p1=>(bif (ltI p1.2.1 p1.2.2.1) then (bif ((inB p1.2.2.1 (qs p1.1))&&((inB p1.2.1 (qs p1.1))&&((inB p1.2.1 (qs p1.1))&&(inB p1.2.2.1 (qs (qaG p1.1 p1.2.1 (qe p1.1 p1.2.2.1 d))))))) then (qN (qB .i64 p1.2.1 1) (fun y2=>(ih0 ((qaG (qaG p1.1 p1.2.1 (qe p1.1 p1.2.2.1 d)) p1.2.2.1 (qe p1.1 p1.2.1 d)),(y2,((qt .i64 p1.2.2.1 1),())))))) else none) else (some ((),(p1.1,())))))) (x.1,(x.2.1,((qt .i64 x.2.2.1 1),()))))
def qff {α:Type} (d:α) (N:Nat) (x:((List α)×(Int×(Int×(Int×(((α×(α×Unit))→(Option (Int×Unit)))×Unit)))))):(Option ((Int×(Int×Unit))×((List α)×(Int×Unit)))):=
 (bif ((inB x.2.2.1 (qs x.1))&&((inB x.2.1 (qs x.1))&&(qv (x.2.2.2.2.1 ((qe x.1 x.2.2.1 d),((qe x.1 x.2.1 d),())))))) then (bif (ltI (qp (x.2.2.2.2.1 ((qe x.1 x.2.2.1 d),((qe x.1 x.2.1 d),()))) (0,())).1 0) then (some ((x.2.2.1,(x.2.1,())),(x.1,((qB .i64 x.2.2.2.1 1),())))) else (some ((x.2.1,(x.2.2.1,())),(x.1,(x.2.2.2.1,()))))) else none)
def qeo {α:Type} (d:α) (N:Nat) (x:((List α)×(Int×(Int×(Int×(Int×(((α×(α×Unit))→(Option (Int×Unit)))×Unit))))))):(Option ((Int×Unit)×((List α)×(Int×Unit)))):=
 (bif (qv (qff d N (x.1,(x.2.1,(x.2.2.1,(x.2.2.2.2.1,(x.2.2.2.2.2.1,()))))))) then (qN (qp (qff d N (x.1,(x.2.1,(x.2.2.1,(x.2.2.2.2.1,(x.2.2.2.2.2.1,())))))) ((0,(0,())),(([]:List α),(0,())))).2.1 (fun ys0=>(qN (qp (qff d N (x.1,(x.2.1,(x.2.2.1,(x.2.2.2.2.1,(x.2.2.2.2.2.1,())))))) ((0,(0,())),(([]:List α),(0,())))).1.1 (fun y1=>(qN (qp (qff d N (x.1,(x.2.1,(x.2.2.1,(x.2.2.2.2.1,(x.2.2.2.2.2.1,())))))) ((0,(0,())),(([]:List α),(0,())))).1.2.1 (fun y2=>(qN (qp (qff d N (x.1,(x.2.1,(x.2.2.1,(x.2.2.2.2.1,(x.2.2.2.2.2.1,())))))) ((0,(0,())),(([]:List α),(0,())))).2.2.1 (fun y3=>(bif (qv (qff d N (ys0,(y2,(x.2.2.2.1,(y3,(x.2.2.2.2.2.1,()))))))) then (qN (qp (qff d N (ys0,(y2,(x.2.2.2.1,(y3,(x.2.2.2.2.2.1,())))))) ((0,(0,())),(([]:List α),(0,())))).2.1 (fun ys4=>(qN (qp (qff d N (ys0,(y2,(x.2.2.2.1,(y3,(x.2.2.2.2.2.1,())))))) ((0,(0,())),(([]:List α),(0,())))).1.1 (fun y5=>(qN (qp (qff d N (ys0,(y2,(x.2.2.2.1,(y3,(x.2.2.2.2.2.1,())))))) ((0,(0,())),(([]:List α),(0,())))).1.2.1 (fun y6=>(qN (qp (qff d N (ys0,(y2,(x.2.2.2.1,(y3,(x.2.2.2.2.2.1,())))))) ((0,(0,())),(([]:List α),(0,())))).2.2.1 (fun y7=>(bif (qv (qff d N (ys4,(y1,(y5,(y7,(x.2.2.2.2.2.1,()))))))) then (qN (qp (qff d N (ys4,(y1,(y5,(y7,(x.2.2.2.2.2.1,())))))) ((0,(0,())),(([]:List α),(0,())))).2.1 (fun ys8=>(qN (qp (qff d N (ys4,(y1,(y5,(y7,(x.2.2.2.2.2.1,())))))) ((0,(0,())),(([]:List α),(0,())))).1.1 (fun y9=>(qN (qp (qff d N (ys4,(y1,(y5,(y7,(x.2.2.2.2.2.1,())))))) ((0,(0,())),(([]:List α),(0,())))).1.2.1 (fun y10=>(qN (qp (qff d N (ys4,(y1,(y5,(y7,(x.2.2.2.2.2.1,())))))) ((0,(0,())),(([]:List α),(0,())))).2.2.1 (fun y11=>(some ((y10,()),(ys8,(y11,())))))))))))) else none))))))))) else none))))))))) else none)
def qi {α:Type} (d:α) (N:Nat) (x:((List α)×(Int×(Int×(((α×(α×Unit))→(Option (Int×Unit)))×Unit))))):(Option ((Int×Unit)×((List α)×(Int×Unit)))):=
 (bif (qv (qeo d N (x.1,((qt .i64 x.2.1 1),(x.2.1,((qB .i64 x.2.1 1),(x.2.2.1,(x.2.2.2.1,())))))))) then (some (((qp (qeo d N (x.1,((qt .i64 x.2.1 1),(x.2.1,((qB .i64 x.2.1 1),(x.2.2.1,(x.2.2.2.1,()))))))) ((0,()),(([]:List α),(0,())))).1.1,()),((qp (qeo d N (x.1,((qt .i64 x.2.1 1),(x.2.1,((qB .i64 x.2.1 1),(x.2.2.1,(x.2.2.2.1,()))))))) ((0,()),(([]:List α),(0,())))).2.1,((qp (qeo d N (x.1,((qt .i64 x.2.1 1),(x.2.1,((qB .i64 x.2.1 1),(x.2.2.1,(x.2.2.2.1,()))))))) ((0,()),(([]:List α),(0,())))).2.2.1,())))) else none)
def qd0 {α:Type} (d:α) (N:Nat) (x:((List α)×(Int×(Int×(((α×(α×Unit))→(Option (Int×Unit)))×Unit))))):(Option ((Int×(Int×Unit))×((List α)×Unit))):=
 (qN (qt .i64 x.2.2.1 x.2.1) (fun y0=>(bif (neI 4 0) then (qN (qB .i64 x.2.1 (qh8 .i64 (qkP .i64 y0 4) 1)) (fun y1=>(bif (neI 4 0) then (qN (qB .i64 x.2.1 (qh8 .i64 (qkP .i64 y0 4) 2)) (fun y2=>(bif (neI 4 0) then (qN (qB .i64 x.2.1 (qh8 .i64 (qkP .i64 y0 4) 3)) (fun y3=>(bif (bif (leI 8 y0) then ((bif (leI 50 y0) then ((qv (qi d N (x.1,(y1,(0,(x.2.2.2.1,()))))))&&((qv (qi d N ((qp (qi d N (x.1,(y1,(0,(x.2.2.2.1,()))))) ((0,()),(([]:List α),(0,())))).2.1,(y2,((qp (qi d N (x.1,(y1,(0,(x.2.2.2.1,()))))) ((0,()),(([]:List α),(0,())))).2.2.1,(x.2.2.2.1,()))))))&&(qv (qi d N ((qp (qi d N ((qp (qi d N (x.1,(y1,(0,(x.2.2.2.1,()))))) ((0,()),(([]:List α),(0,())))).2.1,(y2,((qp (qi d N (x.1,(y1,(0,(x.2.2.2.1,()))))) ((0,()),(([]:List α),(0,())))).2.2.1,(x.2.2.2.1,()))))) ((0,()),(([]:List α),(0,())))).2.1,(y3,((qp (qi d N ((qp (qi d N (x.1,(y1,(0,(x.2.2.2.1,()))))) ((0,()),(([]:List α),(0,())))).2.1,(y2,((qp (qi d N (x.1,(y1,(0,(x.2.2.2.1,()))))) ((0,()),(([]:List α),(0,())))).2.2.1,(x.2.2.2.1,()))))) ((0,()),(([]:List α),(0,())))).2.2.1,(x.2.2.2.1,())))))))) else true)&&(qv (qeo d N ((bif (leI 50 y0) then (qp (qi d N ((qp (qi d N ((qp (qi d N (x.1,(y1,(0,(x.2.2.2.1,()))))) ((0,()),(([]:List α),(0,())))).2.1,(y2,((qp (qi d N (x.1,(y1,(0,(x.2.2.2.1,()))))) ((0,()),(([]:List α),(0,())))).2.2.1,(x.2.2.2.1,()))))) ((0,()),(([]:List α),(0,())))).2.1,(y3,((qp (qi d N ((qp (qi d N (x.1,(y1,(0,(x.2.2.2.1,()))))) ((0,()),(([]:List α),(0,())))).2.1,(y2,((qp (qi d N (x.1,(y1,(0,(x.2.2.2.1,()))))) ((0,()),(([]:List α),(0,())))).2.2.1,(x.2.2.2.1,()))))) ((0,()),(([]:List α),(0,())))).2.2.1,(x.2.2.2.1,()))))) ((0,()),(([]:List α),(0,())))).2.1 else x.1),((bif (leI 50 y0) then (qp (qi d N (x.1,(y1,(0,(x.2.2.2.1,()))))) ((0,()),(([]:List α),(0,())))).1.1 else y1),((bif (leI 50 y0) then (qp (qi d N ((qp (qi d N (x.1,(y1,(0,(x.2.2.2.1,()))))) ((0,()),(([]:List α),(0,())))).2.1,(y2,((qp (qi d N (x.1,(y1,(0,(x.2.2.2.1,()))))) ((0,()),(([]:List α),(0,())))).2.2.1,(x.2.2.2.1,()))))) ((0,()),(([]:List α),(0,())))).1.1 else y2),((bif (leI 50 y0) then (qp (qi d N ((qp (qi d N ((qp (qi d N (x.1,(y1,(0,(x.2.2.2.1,()))))) ((0,()),(([]:List α),(0,())))).2.1,(y2,((qp (qi d N (x.1,(y1,(0,(x.2.2.2.1,()))))) ((0,()),(([]:List α),(0,())))).2.2.1,(x.2.2.2.1,()))))) ((0,()),(([]:List α),(0,())))).2.1,(y3,((qp (qi d N ((qp (qi d N (x.1,(y1,(0,(x.2.2.2.1,()))))) ((0,()),(([]:List α),(0,())))).2.1,(y2,((qp (qi d N (x.1,(y1,(0,(x.2.2.2.1,()))))) ((0,()),(([]:List α),(0,())))).2.2.1,(x.2.2.2.1,()))))) ((0,()),(([]:List α),(0,())))).2.2.1,(x.2.2.2.1,()))))) ((0,()),(([]:List α),(0,())))).1.1 else y3),((bif (leI 50 y0) then (qp (qi d N ((qp (qi d N ((qp (qi d N (x.1,(y1,(0,(x.2.2.2.1,()))))) ((0,()),(([]:List α),(0,())))).2.1,(y2,((qp (qi d N (x.1,(y1,(0,(x.2.2.2.1,()))))) ((0,()),(([]:List α),(0,())))).2.2.1,(x.2.2.2.1,()))))) ((0,()),(([]:List α),(0,())))).2.1,(y3,((qp (qi d N ((qp (qi d N (x.1,(y1,(0,(x.2.2.2.1,()))))) ((0,()),(([]:List α),(0,())))).2.1,(y2,((qp (qi d N (x.1,(y1,(0,(x.2.2.2.1,()))))) ((0,()),(([]:List α),(0,())))).2.2.1,(x.2.2.2.1,()))))) ((0,()),(([]:List α),(0,())))).2.2.1,(x.2.2.2.1,()))))) ((0,()),(([]:List α),(0,())))).2.2.1 else 0),(x.2.2.2.1,()))))))))) else true) then (qN (bif (leI 8 y0) then (qp (qeo d N ((bif (leI 50 y0) then (qp (qi d N ((qp (qi d N ((qp (qi d N (x.1,(y1,(0,(x.2.2.2.1,()))))) ((0,()),(([]:List α),(0,())))).2.1,(y2,((qp (qi d N (x.1,(y1,(0,(x.2.2.2.1,()))))) ((0,()),(([]:List α),(0,())))).2.2.1,(x.2.2.2.1,()))))) ((0,()),(([]:List α),(0,())))).2.1,(y3,((qp (qi d N ((qp (qi d N (x.1,(y1,(0,(x.2.2.2.1,()))))) ((0,()),(([]:List α),(0,())))).2.1,(y2,((qp (qi d N (x.1,(y1,(0,(x.2.2.2.1,()))))) ((0,()),(([]:List α),(0,())))).2.2.1,(x.2.2.2.1,()))))) ((0,()),(([]:List α),(0,())))).2.2.1,(x.2.2.2.1,()))))) ((0,()),(([]:List α),(0,())))).2.1 else x.1),((bif (leI 50 y0) then (qp (qi d N (x.1,(y1,(0,(x.2.2.2.1,()))))) ((0,()),(([]:List α),(0,())))).1.1 else y1),((bif (leI 50 y0) then (qp (qi d N ((qp (qi d N (x.1,(y1,(0,(x.2.2.2.1,()))))) ((0,()),(([]:List α),(0,())))).2.1,(y2,((qp (qi d N (x.1,(y1,(0,(x.2.2.2.1,()))))) ((0,()),(([]:List α),(0,())))).2.2.1,(x.2.2.2.1,()))))) ((0,()),(([]:List α),(0,())))).1.1 else y2),((bif (leI 50 y0) then (qp (qi d N ((qp (qi d N ((qp (qi d N (x.1,(y1,(0,(x.2.2.2.1,()))))) ((0,()),(([]:List α),(0,())))).2.1,(y2,((qp (qi d N (x.1,(y1,(0,(x.2.2.2.1,()))))) ((0,()),(([]:List α),(0,())))).2.2.1,(x.2.2.2.1,()))))) ((0,()),(([]:List α),(0,())))).2.1,(y3,((qp (qi d N ((qp (qi d N (x.1,(y1,(0,(x.2.2.2.1,()))))) ((0,()),(([]:List α),(0,())))).2.1,(y2,((qp (qi d N (x.1,(y1,(0,(x.2.2.2.1,()))))) ((0,()),(([]:List α),(0,())))).2.2.1,(x.2.2.2.1,()))))) ((0,()),(([]:List α),(0,())))).2.2.1,(x.2.2.2.1,()))))) ((0,()),(([]:List α),(0,())))).1.1 else y3),((bif (leI 50 y0) then (qp (qi d N ((qp (qi d N ((qp (qi d N (x.1,(y1,(0,(x.2.2.2.1,()))))) ((0,()),(([]:List α),(0,())))).2.1,(y2,((qp (qi d N (x.1,(y1,(0,(x.2.2.2.1,()))))) ((0,()),(([]:List α),(0,())))).2.2.1,(x.2.2.2.1,()))))) ((0,()),(([]:List α),(0,())))).2.1,(y3,((qp (qi d N ((qp (qi d N (x.1,(y1,(0,(x.2.2.2.1,()))))) ((0,()),(([]:List α),(0,())))).2.1,(y2,((qp (qi d N (x.1,(y1,(0,(x.2.2.2.1,()))))) ((0,()),(([]:List α),(0,())))).2.2.1,(x.2.2.2.1,()))))) ((0,()),(([]:List α),(0,())))).2.2.1,(x.2.2.2.1,()))))) ((0,()),(([]:List α),(0,())))).2.2.1 else 0),(x.2.2.2.1,()))))))) ((0,()),(([]:List α),(0,())))).2.2.1 else 0) (fun y4=>(qN (bif (leI 8 y0) then (qp (qeo d N ((bif (leI 50 y0) then (qp (qi d N ((qp (qi d N ((qp (qi d N (x.1,(y1,(0,(x.2.2.2.1,()))))) ((0,()),(([]:List α),(0,())))).2.1,(y2,((qp (qi d N (x.1,(y1,(0,(x.2.2.2.1,()))))) ((0,()),(([]:List α),(0,())))).2.2.1,(x.2.2.2.1,()))))) ((0,()),(([]:List α),(0,())))).2.1,(y3,((qp (qi d N ((qp (qi d N (x.1,(y1,(0,(x.2.2.2.1,()))))) ((0,()),(([]:List α),(0,())))).2.1,(y2,((qp (qi d N (x.1,(y1,(0,(x.2.2.2.1,()))))) ((0,()),(([]:List α),(0,())))).2.2.1,(x.2.2.2.1,()))))) ((0,()),(([]:List α),(0,())))).2.2.1,(x.2.2.2.1,()))))) ((0,()),(([]:List α),(0,())))).2.1 else x.1),((bif (leI 50 y0) then (qp (qi d N (x.1,(y1,(0,(x.2.2.2.1,()))))) ((0,()),(([]:List α),(0,())))).1.1 else y1),((bif (leI 50 y0) then (qp (qi d N ((qp (qi d N (x.1,(y1,(0,(x.2.2.2.1,()))))) ((0,()),(([]:List α),(0,())))).2.1,(y2,((qp (qi d N (x.1,(y1,(0,(x.2.2.2.1,()))))) ((0,()),(([]:List α),(0,())))).2.2.1,(x.2.2.2.1,()))))) ((0,()),(([]:List α),(0,())))).1.1 else y2),((bif (leI 50 y0) then (qp (qi d N ((qp (qi d N ((qp (qi d N (x.1,(y1,(0,(x.2.2.2.1,()))))) ((0,()),(([]:List α),(0,())))).2.1,(y2,((qp (qi d N (x.1,(y1,(0,(x.2.2.2.1,()))))) ((0,()),(([]:List α),(0,())))).2.2.1,(x.2.2.2.1,()))))) ((0,()),(([]:List α),(0,())))).2.1,(y3,((qp (qi d N ((qp (qi d N (x.1,(y1,(0,(x.2.2.2.1,()))))) ((0,()),(([]:List α),(0,())))).2.1,(y2,((qp (qi d N (x.1,(y1,(0,(x.2.2.2.1,()))))) ((0,()),(([]:List α),(0,())))).2.2.1,(x.2.2.2.1,()))))) ((0,()),(([]:List α),(0,())))).2.2.1,(x.2.2.2.1,()))))) ((0,()),(([]:List α),(0,())))).1.1 else y3),((bif (leI 50 y0) then (qp (qi d N ((qp (qi d N ((qp (qi d N (x.1,(y1,(0,(x.2.2.2.1,()))))) ((0,()),(([]:List α),(0,())))).2.1,(y2,((qp (qi d N (x.1,(y1,(0,(x.2.2.2.1,()))))) ((0,()),(([]:List α),(0,())))).2.2.1,(x.2.2.2.1,()))))) ((0,()),(([]:List α),(0,())))).2.1,(y3,((qp (qi d N ((qp (qi d N (x.1,(y1,(0,(x.2.2.2.1,()))))) ((0,()),(([]:List α),(0,())))).2.1,(y2,((qp (qi d N (x.1,(y1,(0,(x.2.2.2.1,()))))) ((0,()),(([]:List α),(0,())))).2.2.1,(x.2.2.2.1,()))))) ((0,()),(([]:List α),(0,())))).2.2.1,(x.2.2.2.1,()))))) ((0,()),(([]:List α),(0,())))).2.2.1 else 0),(x.2.2.2.1,()))))))) ((0,()),(([]:List α),(0,())))).1.1 else y2) (fun y5=>(bif (eqI y4 0) then (some ((y5,(1,())),((bif (leI 8 y0) then (qp (qeo d N ((bif (leI 50 y0) then (qp (qi d N ((qp (qi d N ((qp (qi d N (x.1,(y1,(0,(x.2.2.2.1,()))))) ((0,()),(([]:List α),(0,())))).2.1,(y2,((qp (qi d N (x.1,(y1,(0,(x.2.2.2.1,()))))) ((0,()),(([]:List α),(0,())))).2.2.1,(x.2.2.2.1,()))))) ((0,()),(([]:List α),(0,())))).2.1,(y3,((qp (qi d N ((qp (qi d N (x.1,(y1,(0,(x.2.2.2.1,()))))) ((0,()),(([]:List α),(0,())))).2.1,(y2,((qp (qi d N (x.1,(y1,(0,(x.2.2.2.1,()))))) ((0,()),(([]:List α),(0,())))).2.2.1,(x.2.2.2.1,()))))) ((0,()),(([]:List α),(0,())))).2.2.1,(x.2.2.2.1,()))))) ((0,()),(([]:List α),(0,())))).2.1 else x.1),((bif (leI 50 y0) then (qp (qi d N (x.1,(y1,(0,(x.2.2.2.1,()))))) ((0,()),(([]:List α),(0,())))).1.1 else y1),((bif (leI 50 y0) then (qp (qi d N ((qp (qi d N (x.1,(y1,(0,(x.2.2.2.1,()))))) ((0,()),(([]:List α),(0,())))).2.1,(y2,((qp (qi d N (x.1,(y1,(0,(x.2.2.2.1,()))))) ((0,()),(([]:List α),(0,())))).2.2.1,(x.2.2.2.1,()))))) ((0,()),(([]:List α),(0,())))).1.1 else y2),((bif (leI 50 y0) then (qp (qi d N ((qp (qi d N ((qp (qi d N (x.1,(y1,(0,(x.2.2.2.1,()))))) ((0,()),(([]:List α),(0,())))).2.1,(y2,((qp (qi d N (x.1,(y1,(0,(x.2.2.2.1,()))))) ((0,()),(([]:List α),(0,())))).2.2.1,(x.2.2.2.1,()))))) ((0,()),(([]:List α),(0,())))).2.1,(y3,((qp (qi d N ((qp (qi d N (x.1,(y1,(0,(x.2.2.2.1,()))))) ((0,()),(([]:List α),(0,())))).2.1,(y2,((qp (qi d N (x.1,(y1,(0,(x.2.2.2.1,()))))) ((0,()),(([]:List α),(0,())))).2.2.1,(x.2.2.2.1,()))))) ((0,()),(([]:List α),(0,())))).2.2.1,(x.2.2.2.1,()))))) ((0,()),(([]:List α),(0,())))).1.1 else y3),((bif (leI 50 y0) then (qp (qi d N ((qp (qi d N ((qp (qi d N (x.1,(y1,(0,(x.2.2.2.1,()))))) ((0,()),(([]:List α),(0,())))).2.1,(y2,((qp (qi d N (x.1,(y1,(0,(x.2.2.2.1,()))))) ((0,()),(([]:List α),(0,())))).2.2.1,(x.2.2.2.1,()))))) ((0,()),(([]:List α),(0,())))).2.1,(y3,((qp (qi d N ((qp (qi d N (x.1,(y1,(0,(x.2.2.2.1,()))))) ((0,()),(([]:List α),(0,())))).2.1,(y2,((qp (qi d N (x.1,(y1,(0,(x.2.2.2.1,()))))) ((0,()),(([]:List α),(0,())))).2.2.1,(x.2.2.2.1,()))))) ((0,()),(([]:List α),(0,())))).2.2.1,(x.2.2.2.1,()))))) ((0,()),(([]:List α),(0,())))).2.2.1 else 0),(x.2.2.2.1,()))))))) ((0,()),(([]:List α),(0,())))).2.1 else x.1),()))) else (bif (eqI y4 12) then (some ((y5,(2,())),((bif (leI 8 y0) then (qp (qeo d N ((bif (leI 50 y0) then (qp (qi d N ((qp (qi d N ((qp (qi d N (x.1,(y1,(0,(x.2.2.2.1,()))))) ((0,()),(([]:List α),(0,())))).2.1,(y2,((qp (qi d N (x.1,(y1,(0,(x.2.2.2.1,()))))) ((0,()),(([]:List α),(0,())))).2.2.1,(x.2.2.2.1,()))))) ((0,()),(([]:List α),(0,())))).2.1,(y3,((qp (qi d N ((qp (qi d N (x.1,(y1,(0,(x.2.2.2.1,()))))) ((0,()),(([]:List α),(0,())))).2.1,(y2,((qp (qi d N (x.1,(y1,(0,(x.2.2.2.1,()))))) ((0,()),(([]:List α),(0,())))).2.2.1,(x.2.2.2.1,()))))) ((0,()),(([]:List α),(0,())))).2.2.1,(x.2.2.2.1,()))))) ((0,()),(([]:List α),(0,())))).2.1 else x.1),((bif (leI 50 y0) then (qp (qi d N (x.1,(y1,(0,(x.2.2.2.1,()))))) ((0,()),(([]:List α),(0,())))).1.1 else y1),((bif (leI 50 y0) then (qp (qi d N ((qp (qi d N (x.1,(y1,(0,(x.2.2.2.1,()))))) ((0,()),(([]:List α),(0,())))).2.1,(y2,((qp (qi d N (x.1,(y1,(0,(x.2.2.2.1,()))))) ((0,()),(([]:List α),(0,())))).2.2.1,(x.2.2.2.1,()))))) ((0,()),(([]:List α),(0,())))).1.1 else y2),((bif (leI 50 y0) then (qp (qi d N ((qp (qi d N ((qp (qi d N (x.1,(y1,(0,(x.2.2.2.1,()))))) ((0,()),(([]:List α),(0,())))).2.1,(y2,((qp (qi d N (x.1,(y1,(0,(x.2.2.2.1,()))))) ((0,()),(([]:List α),(0,())))).2.2.1,(x.2.2.2.1,()))))) ((0,()),(([]:List α),(0,())))).2.1,(y3,((qp (qi d N ((qp (qi d N (x.1,(y1,(0,(x.2.2.2.1,()))))) ((0,()),(([]:List α),(0,())))).2.1,(y2,((qp (qi d N (x.1,(y1,(0,(x.2.2.2.1,()))))) ((0,()),(([]:List α),(0,())))).2.2.1,(x.2.2.2.1,()))))) ((0,()),(([]:List α),(0,())))).2.2.1,(x.2.2.2.1,()))))) ((0,()),(([]:List α),(0,())))).1.1 else y3),((bif (leI 50 y0) then (qp (qi d N ((qp (qi d N ((qp (qi d N (x.1,(y1,(0,(x.2.2.2.1,()))))) ((0,()),(([]:List α),(0,())))).2.1,(y2,((qp (qi d N (x.1,(y1,(0,(x.2.2.2.1,()))))) ((0,()),(([]:List α),(0,())))).2.2.1,(x.2.2.2.1,()))))) ((0,()),(([]:List α),(0,())))).2.1,(y3,((qp (qi d N ((qp (qi d N (x.1,(y1,(0,(x.2.2.2.1,()))))) ((0,()),(([]:List α),(0,())))).2.1,(y2,((qp (qi d N (x.1,(y1,(0,(x.2.2.2.1,()))))) ((0,()),(([]:List α),(0,())))).2.2.1,(x.2.2.2.1,()))))) ((0,()),(([]:List α),(0,())))).2.2.1,(x.2.2.2.1,()))))) ((0,()),(([]:List α),(0,())))).2.2.1 else 0),(x.2.2.2.1,()))))))) ((0,()),(([]:List α),(0,())))).2.1 else x.1),()))) else (some ((y5,(0,())),((bif (leI 8 y0) then (qp (qeo d N ((bif (leI 50 y0) then (qp (qi d N ((qp (qi d N ((qp (qi d N (x.1,(y1,(0,(x.2.2.2.1,()))))) ((0,()),(([]:List α),(0,())))).2.1,(y2,((qp (qi d N (x.1,(y1,(0,(x.2.2.2.1,()))))) ((0,()),(([]:List α),(0,())))).2.2.1,(x.2.2.2.1,()))))) ((0,()),(([]:List α),(0,())))).2.1,(y3,((qp (qi d N ((qp (qi d N (x.1,(y1,(0,(x.2.2.2.1,()))))) ((0,()),(([]:List α),(0,())))).2.1,(y2,((qp (qi d N (x.1,(y1,(0,(x.2.2.2.1,()))))) ((0,()),(([]:List α),(0,())))).2.2.1,(x.2.2.2.1,()))))) ((0,()),(([]:List α),(0,())))).2.2.1,(x.2.2.2.1,()))))) ((0,()),(([]:List α),(0,())))).2.1 else x.1),((bif (leI 50 y0) then (qp (qi d N (x.1,(y1,(0,(x.2.2.2.1,()))))) ((0,()),(([]:List α),(0,())))).1.1 else y1),((bif (leI 50 y0) then (qp (qi d N ((qp (qi d N (x.1,(y1,(0,(x.2.2.2.1,()))))) ((0,()),(([]:List α),(0,())))).2.1,(y2,((qp (qi d N (x.1,(y1,(0,(x.2.2.2.1,()))))) ((0,()),(([]:List α),(0,())))).2.2.1,(x.2.2.2.1,()))))) ((0,()),(([]:List α),(0,())))).1.1 else y2),((bif (leI 50 y0) then (qp (qi d N ((qp (qi d N ((qp (qi d N (x.1,(y1,(0,(x.2.2.2.1,()))))) ((0,()),(([]:List α),(0,())))).2.1,(y2,((qp (qi d N (x.1,(y1,(0,(x.2.2.2.1,()))))) ((0,()),(([]:List α),(0,())))).2.2.1,(x.2.2.2.1,()))))) ((0,()),(([]:List α),(0,())))).2.1,(y3,((qp (qi d N ((qp (qi d N (x.1,(y1,(0,(x.2.2.2.1,()))))) ((0,()),(([]:List α),(0,())))).2.1,(y2,((qp (qi d N (x.1,(y1,(0,(x.2.2.2.1,()))))) ((0,()),(([]:List α),(0,())))).2.2.1,(x.2.2.2.1,()))))) ((0,()),(([]:List α),(0,())))).2.2.1,(x.2.2.2.1,()))))) ((0,()),(([]:List α),(0,())))).1.1 else y3),((bif (leI 50 y0) then (qp (qi d N ((qp (qi d N ((qp (qi d N (x.1,(y1,(0,(x.2.2.2.1,()))))) ((0,()),(([]:List α),(0,())))).2.1,(y2,((qp (qi d N (x.1,(y1,(0,(x.2.2.2.1,()))))) ((0,()),(([]:List α),(0,())))).2.2.1,(x.2.2.2.1,()))))) ((0,()),(([]:List α),(0,())))).2.1,(y3,((qp (qi d N ((qp (qi d N (x.1,(y1,(0,(x.2.2.2.1,()))))) ((0,()),(([]:List α),(0,())))).2.1,(y2,((qp (qi d N (x.1,(y1,(0,(x.2.2.2.1,()))))) ((0,()),(([]:List α),(0,())))).2.2.1,(x.2.2.2.1,()))))) ((0,()),(([]:List α),(0,())))).2.2.1,(x.2.2.2.1,()))))) ((0,()),(([]:List α),(0,())))).2.2.1 else 0),(x.2.2.2.1,()))))))) ((0,()),(([]:List α),(0,())))).2.1 else x.1),()))))))))) else none))) else none))) else none))) else none)))
def qa9 {α:Type} (d:α) (N:Nat) (x:((List α)×(Int×(Int×(((α×(α×Unit))→(Option (Int×Unit)))×Unit))))):(Option ((Bool×Unit)×((List α)×Unit))):=
 (qN (qB .i64 x.2.1 1) (fun y0=>(qac (S:=((List α)×(Int×(Int×Unit)))) (R:=((Bool×Unit)×((List α)×Unit))) N (fun ih1=>(fun p2=>(bif (ltI p2.2.2.1 5) then (qac (S:=((List α)×(Int×Unit))) (R:=((Bool×Unit)×((List α)×Unit))) N (fun ih3=>(fun p4=>(bif (((!(ltI p4.2.1 x.2.2.1))||(inB p4.2.1 (qs p4.1)))&&(((!(ltI p4.2.1 x.2.2.1))||(inB (qt .i64 p4.2.1 1) (qs p4.1)))&&((!(ltI p4.2.1 x.2.2.1))||(qv (x.2.2.2.1 ((qe p4.1 p4.2.1 d),((qe p4.1 (qt .i64 p4.2.1 1) d),()))))))) then (bif ((ltI p4.2.1 x.2.2.1)&&(!(ltI (qp (x.2.2.2.1 ((qe p4.1 p4.2.1 d),((qe p4.1 (qt .i64 p4.2.1 1) d),()))) (0,())).1 0))) then (ih3 (p4.1,((qB .i64 p4.2.1 1),()))) else (bif (eqI p4.2.1 x.2.2.1) then (some ((true,()),(p4.1,()))) else (bif (ltI (qt .i64 x.2.2.1 x.2.1) 50) then (some ((false,()),(p4.1,()))) else (bif ((inB (qt .i64 p4.2.1 1) (qs p4.1))&&((inB p4.2.1 (qs p4.1))&&((inB p4.2.1 (qs p4.1))&&(inB (qt .i64 p4.2.1 1) (qs (qaG p4.1 p4.2.1 (qe p4.1 (qt .i64 p4.2.1 1) d))))))) then (bif (leI 2 (qt .i64 p4.2.1 x.2.1)) then (qac (S:=((List α)×(Int×Unit))) (R:=((Bool×Unit)×((List α)×Unit))) N (fun ih5=>(fun p6=>(bif (leI 1 p6.2.1) then (bif ((inB p6.2.1 (qs p6.1))&&((inB (qt .i64 p6.2.1 1) (qs p6.1))&&(qv (x.2.2.2.1 ((qe p6.1 p6.2.1 d),((qe p6.1 (qt .i64 p6.2.1 1) d),())))))) then (bif (!(ltI (qp (x.2.2.2.1 ((qe p6.1 p6.2.1 d),((qe p6.1 (qt .i64 p6.2.1 1) d),()))) (0,())).1 0)) then (bif (leI 2 (qt .i64 x.2.2.1 p4.2.1)) then (qac (S:=((List α)×(Int×Unit))) (R:=((Bool×Unit)×((List α)×Unit))) N (fun ih7=>(fun p8=>(bif (ltI p8.2.1 x.2.2.1) then (bif ((inB p8.2.1 (qs p8.1))&&((inB (qt .i64 p8.2.1 1) (qs p8.1))&&(qv (x.2.2.2.1 ((qe p8.1 p8.2.1 d),((qe p8.1 (qt .i64 p8.2.1 1) d),())))))) then (bif (!(ltI (qp (x.2.2.2.1 ((qe p8.1 p8.2.1 d),((qe p8.1 (qt .i64 p8.2.1 1) d),()))) (0,())).1 0)) then (ih1 (p8.1,(p4.2.1,((qB .i64 p2.2.2.1 1),())))) else (bif ((inB (qt .i64 p8.2.1 1) (qs p8.1))&&((inB p8.2.1 (qs p8.1))&&((inB p8.2.1 (qs p8.1))&&(inB (qt .i64 p8.2.1 1) (qs (qaG p8.1 p8.2.1 (qe p8.1 (qt .i64 p8.2.1 1) d))))))) then (ih7 ((qaG (qaG p8.1 p8.2.1 (qe p8.1 (qt .i64 p8.2.1 1) d)) (qt .i64 p8.2.1 1) (qe p8.1 p8.2.1 d)),((qB .i64 p8.2.1 1),()))) else none)) else none) else (ih1 (p8.1,(p4.2.1,((qB .i64 p2.2.2.1 1),()))))))) (p6.1,((qB .i64 p4.2.1 1),()))) else (ih1 (p6.1,(p4.2.1,((qB .i64 p2.2.2.1 1),()))))) else (bif ((inB (qt .i64 p6.2.1 1) (qs p6.1))&&((inB p6.2.1 (qs p6.1))&&((inB p6.2.1 (qs p6.1))&&(inB (qt .i64 p6.2.1 1) (qs (qaG p6.1 p6.2.1 (qe p6.1 (qt .i64 p6.2.1 1) d))))))) then (ih5 ((qaG (qaG p6.1 p6.2.1 (qe p6.1 (qt .i64 p6.2.1 1) d)) (qt .i64 p6.2.1 1) (qe p6.1 p6.2.1 d)),((qt .i64 p6.2.1 1),()))) else none)) else none) else (bif (leI 2 (qt .i64 x.2.2.1 p4.2.1)) then (qac (S:=((List α)×(Int×Unit))) (R:=((Bool×Unit)×((List α)×Unit))) N (fun ih7=>(fun p8=>(bif (ltI p8.2.1 x.2.2.1) then (bif ((inB p8.2.1 (qs p8.1))&&((inB (qt .i64 p8.2.1 1) (qs p8.1))&&(qv (x.2.2.2.1 ((qe p8.1 p8.2.1 d),((qe p8.1 (qt .i64 p8.2.1 1) d),())))))) then (bif (!(ltI (qp (x.2.2.2.1 ((qe p8.1 p8.2.1 d),((qe p8.1 (qt .i64 p8.2.1 1) d),()))) (0,())).1 0)) then (ih1 (p8.1,(p4.2.1,((qB .i64 p2.2.2.1 1),())))) else (bif ((inB (qt .i64 p8.2.1 1) (qs p8.1))&&((inB p8.2.1 (qs p8.1))&&((inB p8.2.1 (qs p8.1))&&(inB (qt .i64 p8.2.1 1) (qs (qaG p8.1 p8.2.1 (qe p8.1 (qt .i64 p8.2.1 1) d))))))) then (ih7 ((qaG (qaG p8.1 p8.2.1 (qe p8.1 (qt .i64 p8.2.1 1) d)) (qt .i64 p8.2.1 1) (qe p8.1 p8.2.1 d)),((qB .i64 p8.2.1 1),()))) else none)) else none) else (ih1 (p8.1,(p4.2.1,((qB .i64 p2.2.2.1 1),()))))))) (p6.1,((qB .i64 p4.2.1 1),()))) else (ih1 (p6.1,(p4.2.1,((qB .i64 p2.2.2.1 1),())))))))) ((qaG (qaG p4.1 p4.2.1 (qe p4.1 (qt .i64 p4.2.1 1) d)) (qt .i64 p4.2.1 1) (qe p4.1 p4.2.1 d)),((qt .i64 p4.2.1 1),()))) else (bif (leI 2 (qt .i64 x.2.2.1 p4.2.1)) then (qac (S:=((List α)×(Int×Unit))) (R:=((Bool×Unit)×((List α)×Unit))) N (fun ih5=>(fun p6=>(bif (ltI p6.2.1 x.2.2.1) then (bif ((inB p6.2.1 (qs p6.1))&&((inB (qt .i64 p6.2.1 1) (qs p6.1))&&(qv (x.2.2.2.1 ((qe p6.1 p6.2.1 d),((qe p6.1 (qt .i64 p6.2.1 1) d),())))))) then (bif (!(ltI (qp (x.2.2.2.1 ((qe p6.1 p6.2.1 d),((qe p6.1 (qt .i64 p6.2.1 1) d),()))) (0,())).1 0)) then (ih1 (p6.1,(p4.2.1,((qB .i64 p2.2.2.1 1),())))) else (bif ((inB (qt .i64 p6.2.1 1) (qs p6.1))&&((inB p6.2.1 (qs p6.1))&&((inB p6.2.1 (qs p6.1))&&(inB (qt .i64 p6.2.1 1) (qs (qaG p6.1 p6.2.1 (qe p6.1 (qt .i64 p6.2.1 1) d))))))) then (ih5 ((qaG (qaG p6.1 p6.2.1 (qe p6.1 (qt .i64 p6.2.1 1) d)) (qt .i64 p6.2.1 1) (qe p6.1 p6.2.1 d)),((qB .i64 p6.2.1 1),()))) else none)) else none) else (ih1 (p6.1,(p4.2.1,((qB .i64 p2.2.2.1 1),()))))))) ((qaG (qaG p4.1 p4.2.1 (qe p4.1 (qt .i64 p4.2.1 1) d)) (qt .i64 p4.2.1 1) (qe p4.1 p4.2.1 d)),((qB .i64 p4.2.1 1),()))) else (ih1 ((qaG (qaG p4.1 p4.2.1 (qe p4.1 (qt .i64 p4.2.1 1) d)) (qt .i64 p4.2.1 1) (qe p4.1 p4.2.1 d)),(p4.2.1,((qB .i64 p2.2.2.1 1),())))))) else none)))) else none))) (p2.1,(p2.2.1,()))) else (some ((false,()),(p2.1,())))))) (x.1,(y0,(0,()))))))
def qe8 {α:Type} (d:α) (N:Nat) (x:((List α)×(Int×(Int×(Int×(((α×(α×Unit))→(Option (Int×Unit)))×Unit)))))):(Option ((Int×Unit)×((List α)×Unit))):=
 (bif ((inB x.2.2.2.1 (qs x.1))&&((inB x.2.1 (qs x.1))&&((inB x.2.1 (qs x.1))&&(inB x.2.2.2.1 (qs (qaG x.1 x.2.1 (qe x.1 x.2.2.2.1 d))))))) then (qac (S:=((List α)×(Int×(Int×Unit)))) (R:=((Int×Unit)×((List α)×Unit))) N (fun ih0=>(fun p1=>(qac (S:=((List α)×(Int×(Int×Unit)))) (R:=((Int×Unit)×((List α)×Unit))) N (fun ih2=>(fun p3=>(bif (((!(leI p3.2.1 p3.2.2.1))||(inB x.2.1 (qs p3.1)))&&(((!(leI p3.2.1 p3.2.2.1))||(inB p3.2.1 (qs p3.1)))&&((!(leI p3.2.1 p3.2.2.1))||(qv (x.2.2.2.2.1 ((qe p3.1 x.2.1 d),((qe p3.1 p3.2.1 d),()))))))) then (bif ((leI p3.2.1 p3.2.2.1)&&(!(ltI (qp (x.2.2.2.2.1 ((qe p3.1 x.2.1 d),((qe p3.1 p3.2.1 d),()))) (0,())).1 0))) then (ih2 (p3.1,((qB .i64 p3.2.1 1),(p3.2.2.1,())))) else (qac (S:=((List α)×(Int×Unit))) (R:=((Int×Unit)×((List α)×Unit))) N (fun ih4=>(fun p5=>(bif (((!(leI p3.2.1 p5.2.1))||(inB x.2.1 (qs p5.1)))&&(((!(leI p3.2.1 p5.2.1))||(inB p5.2.1 (qs p5.1)))&&((!(leI p3.2.1 p5.2.1))||(qv (x.2.2.2.2.1 ((qe p5.1 x.2.1 d),((qe p5.1 p5.2.1 d),()))))))) then (bif ((leI p3.2.1 p5.2.1)&&(ltI (qp (x.2.2.2.2.1 ((qe p5.1 x.2.1 d),((qe p5.1 p5.2.1 d),()))) (0,())).1 0)) then (ih4 (p5.1,((qt .i64 p5.2.1 1),()))) else (bif (ltI p5.2.1 p3.2.1) then (some ((p3.2.1,()),(p5.1,()))) else (bif ((inB p5.2.1 (qs p5.1))&&((inB p3.2.1 (qs p5.1))&&((inB p3.2.1 (qs p5.1))&&(inB p5.2.1 (qs (qaG p5.1 p3.2.1 (qe p5.1 p5.2.1 d))))))) then (qN (qB .i64 p3.2.1 1) (fun y6=>(ih0 ((qaG (qaG p5.1 p3.2.1 (qe p5.1 p5.2.1 d)) p5.2.1 (qe p5.1 p3.2.1 d)),(y6,((qt .i64 p5.2.1 1),())))))) else none))) else none))) (p3.1,(p3.2.2.1,())))) else none))) (p1.1,(p1.2.1,(p1.2.2.1,())))))) ((qaG (qaG x.1 x.2.1 (qe x.1 x.2.2.2.1 d)) x.2.2.2.1 (qe x.1 x.2.1 d)),((qB .i64 x.2.1 1),((qt .i64 x.2.2.1 1),())))) else none)
def qdQ {α:Type} (d:α) (N:Nat) (x:((List α)×(Int×(Int×(Int×(((α×(α×Unit))→(Option (Int×Unit)))×Unit)))))):(Option ((Int×(Bool×Unit))×((List α)×Unit))):=
 (bif ((inB x.2.2.2.1 (qs x.1))&&((inB x.2.1 (qs x.1))&&((inB x.2.1 (qs x.1))&&(inB x.2.2.2.1 (qs (qaG x.1 x.2.1 (qe x.1 x.2.2.2.1 d))))))) then (qac (S:=((List α)×(Int×Unit))) (R:=((Int×(Bool×Unit))×((List α)×Unit))) N (fun ih0=>(fun p1=>(bif (((!(leI p1.2.1 (qt .i64 x.2.2.1 1)))||(inB p1.2.1 (qs p1.1)))&&(((!(leI p1.2.1 (qt .i64 x.2.2.1 1)))||(inB x.2.1 (qs p1.1)))&&((!(leI p1.2.1 (qt .i64 x.2.2.1 1)))||(qv (x.2.2.2.2.1 ((qe p1.1 p1.2.1 d),((qe p1.1 x.2.1 d),()))))))) then (bif ((leI p1.2.1 (qt .i64 x.2.2.1 1))&&(ltI (qp (x.2.2.2.2.1 ((qe p1.1 p1.2.1 d),((qe p1.1 x.2.1 d),()))) (0,())).1 0)) then (ih0 (p1.1,((qB .i64 p1.2.1 1),()))) else (qac (S:=((List α)×(Int×Unit))) (R:=((Int×(Bool×Unit))×((List α)×Unit))) N (fun ih2=>(fun p3=>(bif (((!(leI p1.2.1 p3.2.1))||(inB p3.2.1 (qs p3.1)))&&(((!(leI p1.2.1 p3.2.1))||(inB x.2.1 (qs p3.1)))&&((!(leI p1.2.1 p3.2.1))||(qv (x.2.2.2.2.1 ((qe p3.1 p3.2.1 d),((qe p3.1 x.2.1 d),()))))))) then (bif ((leI p1.2.1 p3.2.1)&&(!(ltI (qp (x.2.2.2.2.1 ((qe p3.1 p3.2.1 d),((qe p3.1 x.2.1 d),()))) (0,())).1 0))) then (ih2 (p3.1,((qt .i64 p3.2.1 1),()))) else (bif (ltI p3.2.1 p1.2.1) then (bif ((inB x.2.1 (qs p3.1))&&((inB p3.2.1 (qs p3.1))&&((inB p3.2.1 (qs p3.1))&&(inB x.2.1 (qs (qaG p3.1 p3.2.1 (qe p3.1 x.2.1 d))))))) then (some ((p3.2.1,(true,())),((qaG (qaG p3.1 p3.2.1 (qe p3.1 x.2.1 d)) x.2.1 (qe p3.1 p3.2.1 d)),()))) else none) else (bif ((inB p3.2.1 (qs p3.1))&&((inB p1.2.1 (qs p3.1))&&((inB p1.2.1 (qs p3.1))&&(inB p3.2.1 (qs (qaG p3.1 p1.2.1 (qe p3.1 p3.2.1 d))))))) then (qN (qB .i64 p1.2.1 1) (fun y4=>(qac (S:=((List α)×(Int×(Int×Unit)))) (R:=((Int×(Bool×Unit))×((List α)×Unit))) N (fun ih5=>(fun p6=>(qac (S:=((List α)×(Int×(Int×Unit)))) (R:=((Int×(Bool×Unit))×((List α)×Unit))) N (fun ih7=>(fun p8=>(bif (((!(leI p8.2.1 p8.2.2.1))||(inB p8.2.1 (qs p8.1)))&&(((!(leI p8.2.1 p8.2.2.1))||(inB x.2.1 (qs p8.1)))&&((!(leI p8.2.1 p8.2.2.1))||(qv (x.2.2.2.2.1 ((qe p8.1 p8.2.1 d),((qe p8.1 x.2.1 d),()))))))) then (bif ((leI p8.2.1 p8.2.2.1)&&(ltI (qp (x.2.2.2.2.1 ((qe p8.1 p8.2.1 d),((qe p8.1 x.2.1 d),()))) (0,())).1 0)) then (ih7 (p8.1,((qB .i64 p8.2.1 1),(p8.2.2.1,())))) else (qac (S:=((List α)×(Int×Unit))) (R:=((Int×(Bool×Unit))×((List α)×Unit))) N (fun ih9=>(fun p10=>(bif (((!(leI p8.2.1 p10.2.1))||(inB p10.2.1 (qs p10.1)))&&(((!(leI p8.2.1 p10.2.1))||(inB x.2.1 (qs p10.1)))&&((!(leI p8.2.1 p10.2.1))||(qv (x.2.2.2.2.1 ((qe p10.1 p10.2.1 d),((qe p10.1 x.2.1 d),()))))))) then (bif ((leI p8.2.1 p10.2.1)&&(!(ltI (qp (x.2.2.2.2.1 ((qe p10.1 p10.2.1 d),((qe p10.1 x.2.1 d),()))) (0,())).1 0))) then (ih9 (p10.1,((qt .i64 p10.2.1 1),()))) else (bif (ltI p10.2.1 p8.2.1) then (bif ((inB x.2.1 (qs p10.1))&&((inB p10.2.1 (qs p10.1))&&((inB p10.2.1 (qs p10.1))&&(inB x.2.1 (qs (qaG p10.1 p10.2.1 (qe p10.1 x.2.1 d))))))) then (some ((p10.2.1,(false,())),((qaG (qaG p10.1 p10.2.1 (qe p10.1 x.2.1 d)) x.2.1 (qe p10.1 p10.2.1 d)),()))) else none) else (bif ((inB p10.2.1 (qs p10.1))&&((inB p8.2.1 (qs p10.1))&&((inB p8.2.1 (qs p10.1))&&(inB p10.2.1 (qs (qaG p10.1 p8.2.1 (qe p10.1 p10.2.1 d))))))) then (qN (qB .i64 p8.2.1 1) (fun y11=>(ih5 ((qaG (qaG p10.1 p8.2.1 (qe p10.1 p10.2.1 d)) p10.2.1 (qe p10.1 p8.2.1 d)),(y11,((qt .i64 p10.2.1 1),())))))) else none))) else none))) (p8.1,(p8.2.2.1,())))) else none))) (p6.1,(p6.2.1,(p6.2.2.1,())))))) ((qaG (qaG p3.1 p1.2.1 (qe p3.1 p3.2.1 d)) p3.2.1 (qe p3.1 p1.2.1 d)),(y4,((qt .i64 p3.2.1 1),())))))) else none))) else none))) (p1.1,((qt .i64 x.2.2.1 1),())))) else none))) ((qaG (qaG x.1 x.2.1 (qe x.1 x.2.2.2.1 d)) x.2.2.2.1 (qe x.1 x.2.1 d)),((qB .i64 x.2.1 1),()))) else none)
def qkL (x:(Int×Unit)):(Option ((Int×Unit)×(Int×Unit))):=
 (bif (leI 0 13) then (bif (leI 0 7) then (bif (leI 0 17) then (some (((qfX .u64 (qfX .u64 (qfX .u64 x.1 (qg2 .u64 x.1 13)) (qgt .u64 (qfX .u64 x.1 (qg2 .u64 x.1 13)) 7)) (qg2 .u64 (qfX .u64 (qfX .u64 x.1 (qg2 .u64 x.1 13)) (qgt .u64 (qfX .u64 x.1 (qg2 .u64 x.1 13)) 7)) 17)),()),((qfX .u64 (qfX .u64 (qfX .u64 x.1 (qg2 .u64 x.1 13)) (qgt .u64 (qfX .u64 x.1 (qg2 .u64 x.1 13)) 7)) (qg2 .u64 (qfX .u64 (qfX .u64 x.1 (qg2 .u64 x.1 13)) (qgt .u64 (qfX .u64 x.1 (qg2 .u64 x.1 13)) 7)) 17)),()))) else none) else none) else none)
def qmV (L:(Int×Unit)→Option ((Int×Unit)×Unit)) (x:(Int×Unit)):(Option ((Int×Unit)×Unit)):=
 (bif ((qv (L ((qbd .u64 x.1),())))&&(leI 0 (qp (L ((qbd .u64 x.1),())) ((0,()),())).1.1)) then (some (((qg2 .u64 1 (qp (L ((qbd .u64 x.1),())) ((0,()),())).1.1),()),())) else none)
def qeq {α:Type} (d:α) (N:Nat) (L:(Int×Unit)→Option ((Int×Unit)×Unit)) (x:((List α)×(Int×(Int×(((α×(α×Unit))→(Option (Int×Unit)))×Unit))))):(Option (Unit×((List α)×Unit))):=
 (qN (qt .i64 x.2.2.1 x.2.1) (fun y0=>(bif (leI 8 y0) then (bif (qv ((qmV L) (y0,()))) then (qN y0 (fun y1=>(qN (qp ((qmV L) (y0,())) ((0,()),())).1.1 (fun y2=>(bif (neI 4 0) then (qac (S:=((List α)×(Int×(Int×Unit)))) (R:=(Unit×((List α)×Unit))) N (fun ih3=>(fun p4=>(bif (neI 4 0) then (bif (leI p4.2.2.1 (qB .i64 (qB .i64 x.2.1 (qh8 .i64 (qkP .i64 y1 4) 2)) 1)) then (bif (qv (qkL (p4.2.1,()))) then (qN (qp (qkL (p4.2.1,())) ((0,()),(0,()))).2.1 (fun y5=>(qN (qbd .i64 (qpp .u64 (qp (qkL (p4.2.1,())) ((0,()),(0,()))).1.1 (qt .u64 y2 1))) (fun y6=>(qN y5 (fun y7=>(qN (bif (leI y1 y6) then (qt .i64 y6 y1) else y6) (fun y8=>(bif ((inB (qB .i64 x.2.1 y8) (qs p4.1))&&((inB p4.2.2.1 (qs p4.1))&&((inB p4.2.2.1 (qs p4.1))&&(inB (qB .i64 x.2.1 y8) (qs (qaG p4.1 p4.2.2.1 (qe p4.1 (qB .i64 x.2.1 y8) d))))))) then (ih3 ((qaG (qaG p4.1 p4.2.2.1 (qe p4.1 (qB .i64 x.2.1 y8) d)) (qB .i64 x.2.1 y8) (qe p4.1 p4.2.2.1 d)),(y7,((qB .i64 p4.2.2.1 1),())))) else none))))))))) else none) else (some ((),(p4.1,())))) else none))) (x.1,((qbd .u64 y0),((qt .i64 (qB .i64 x.2.1 (qh8 .i64 (qkP .i64 y1 4) 2)) 1),())))) else none))))) else none) else (some ((),(x.1,()))))))
def pdqS {α:Type} (d:α) (N:Nat) (L:(Int×Unit)→Option ((Int×Unit)×Unit)) (Fs:((List α)×(Int×(Int×(Int×(((α×(α×Unit))→(Option (Int×Unit)))×Unit)))))→(Option (Unit×((List α)×Unit)))) (x:((List α)×(Int×(Int×(Int×(((α×(α×Unit))→(Option (Int×Unit)))×Unit)))))):(Option (Unit×((List α)×Unit))):=
 (qac (S:=((List α)×(Int×(Int×(Int×(Bool×(Bool×Unit))))))) (R:=(Unit×((List α)×Unit))) N (fun ih0=>(fun p1=>(qN (qt .i64 p1.2.2.1 p1.2.1) (fun y2=>(bif (leI y2 12) then (bif (qv (qdO d N (p1.1,(p1.2.1,(p1.2.2.1,(x.2.2.2.2.1,())))))) then (some ((),((qp (qdO d N (p1.1,(p1.2.1,(p1.2.2.1,(x.2.2.2.2.1,()))))) ((),(([]:List α),()))).2.1,()))) else none) else (bif (eqI p1.2.2.2.1 0) then (bif (qv (qlR d N (p1.1,(p1.2.1,(p1.2.2.1,(x.2.2.2.2.1,())))))) then (some ((),((qp (qlR d N (p1.1,(p1.2.1,(p1.2.2.1,(x.2.2.2.2.1,()))))) ((),(([]:List α),()))).2.1,()))) else none) else (bif (bif (!p1.2.2.2.2.1) then (qv (qeq d N L (p1.1,(p1.2.1,(p1.2.2.1,(x.2.2.2.2.1,())))))) else true) then (qN (bif (!p1.2.2.2.2.1) then (qt .i64 p1.2.2.2.1 1) else p1.2.2.2.1) (fun y3=>(bif (qv (qd0 d N ((bif (!p1.2.2.2.2.1) then (qp (qeq d N L (p1.1,(p1.2.1,(p1.2.2.1,(x.2.2.2.2.1,()))))) ((),(([]:List α),()))).2.1 else p1.1),(p1.2.1,(p1.2.2.1,(x.2.2.2.2.1,())))))) then (qN (qp (qd0 d N ((bif (!p1.2.2.2.2.1) then (qp (qeq d N L (p1.1,(p1.2.1,(p1.2.2.1,(x.2.2.2.2.1,()))))) ((),(([]:List α),()))).2.1 else p1.1),(p1.2.1,(p1.2.2.1,(x.2.2.2.2.1,()))))) ((0,(0,())),(([]:List α),()))).2.1 (fun ys4=>(qN p1.2.1 (fun y5=>(qN p1.2.2.1 (fun y6=>(qN (qp (qd0 d N ((bif (!p1.2.2.2.2.1) then (qp (qeq d N L (p1.1,(p1.2.1,(p1.2.2.1,(x.2.2.2.2.1,()))))) ((),(([]:List α),()))).2.1 else p1.1),(p1.2.1,(p1.2.2.1,(x.2.2.2.2.1,()))))) ((0,(0,())),(([]:List α),()))).1.1 (fun y7=>(qN (qp (qd0 d N ((bif (!p1.2.2.2.2.1) then (qp (qeq d N L (p1.1,(p1.2.1,(p1.2.2.1,(x.2.2.2.2.1,()))))) ((),(([]:List α),()))).2.1 else p1.1),(p1.2.1,(p1.2.2.1,(x.2.2.2.2.1,()))))) ((0,(0,())),(([]:List α),()))).1.2.1 (fun y8=>(bif (bif (eqI y8 2) then (qv (qaw d N (ys4,(y5,(y6,(x.2.2.2.2.1,())))))) else true) then (qN (bif (eqI y8 2) then (qt .i64 (qt .i64 y6 1) (qt .i64 y7 y5)) else y7) (fun y9=>(qN (bif (eqI y8 2) then 1 else y8) (fun y10=>(qN ((p1.2.2.2.2.1&&p1.2.2.2.2.2.1)&&(eqI y10 1)) (fun y11=>(bif y11 then (bif (qv (qa9 d N ((bif (eqI y8 2) then (qp (qaw d N (ys4,(y5,(y6,(x.2.2.2.2.1,()))))) ((),(([]:List α),()))).2.1 else ys4),(y5,(y6,(x.2.2.2.2.1,())))))) then (bif (qp (qa9 d N ((bif (eqI y8 2) then (qp (qaw d N (ys4,(y5,(y6,(x.2.2.2.2.1,()))))) ((),(([]:List α),()))).2.1 else ys4),(y5,(y6,(x.2.2.2.2.1,()))))) ((false,()),(([]:List α),()))).1.1 then (some ((),((qp (qa9 d N ((bif (eqI y8 2) then (qp (qaw d N (ys4,(y5,(y6,(x.2.2.2.2.1,()))))) ((),(([]:List α),()))).2.1 else ys4),(y5,(y6,(x.2.2.2.2.1,()))))) ((false,()),(([]:List α),()))).2.1,()))) else (bif (((!(ltI 0 y5))||(inB (qt .i64 y5 1) (qs (qp (qa9 d N ((bif (eqI y8 2) then (qp (qaw d N (ys4,(y5,(y6,(x.2.2.2.2.1,()))))) ((),(([]:List α),()))).2.1 else ys4),(y5,(y6,(x.2.2.2.2.1,()))))) ((false,()),(([]:List α),()))).2.1)))&&(((!(ltI 0 y5))||(inB y9 (qs (qp (qa9 d N ((bif (eqI y8 2) then (qp (qaw d N (ys4,(y5,(y6,(x.2.2.2.2.1,()))))) ((),(([]:List α),()))).2.1 else ys4),(y5,(y6,(x.2.2.2.2.1,()))))) ((false,()),(([]:List α),()))).2.1)))&&((!(ltI 0 y5))||(qv (x.2.2.2.2.1 ((qe (qp (qa9 d N ((bif (eqI y8 2) then (qp (qaw d N (ys4,(y5,(y6,(x.2.2.2.2.1,()))))) ((),(([]:List α),()))).2.1 else ys4),(y5,(y6,(x.2.2.2.2.1,()))))) ((false,()),(([]:List α),()))).2.1 (qt .i64 y5 1) d),((qe (qp (qa9 d N ((bif (eqI y8 2) then (qp (qaw d N (ys4,(y5,(y6,(x.2.2.2.2.1,()))))) ((),(([]:List α),()))).2.1 else ys4),(y5,(y6,(x.2.2.2.2.1,()))))) ((false,()),(([]:List α),()))).2.1 y9 d),()))))))) then (qN ((ltI 0 y5)&&(!(ltI (qp (x.2.2.2.2.1 ((qe (qp (qa9 d N ((bif (eqI y8 2) then (qp (qaw d N (ys4,(y5,(y6,(x.2.2.2.2.1,()))))) ((),(([]:List α),()))).2.1 else ys4),(y5,(y6,(x.2.2.2.2.1,()))))) ((false,()),(([]:List α),()))).2.1 (qt .i64 y5 1) d),((qe (qp (qa9 d N ((bif (eqI y8 2) then (qp (qaw d N (ys4,(y5,(y6,(x.2.2.2.2.1,()))))) ((),(([]:List α),()))).2.1 else ys4),(y5,(y6,(x.2.2.2.2.1,()))))) ((false,()),(([]:List α),()))).2.1 y9 d),()))) (0,())).1 0))) (fun y12=>(bif y12 then (bif (qv (qe8 d N ((qp (qa9 d N ((bif (eqI y8 2) then (qp (qaw d N (ys4,(y5,(y6,(x.2.2.2.2.1,()))))) ((),(([]:List α),()))).2.1 else ys4),(y5,(y6,(x.2.2.2.2.1,()))))) ((false,()),(([]:List α),()))).2.1,(y5,(y6,(y9,(x.2.2.2.2.1,()))))))) then (qN (qp (qe8 d N ((qp (qa9 d N ((bif (eqI y8 2) then (qp (qaw d N (ys4,(y5,(y6,(x.2.2.2.2.1,()))))) ((),(([]:List α),()))).2.1 else ys4),(y5,(y6,(x.2.2.2.2.1,()))))) ((false,()),(([]:List α),()))).2.1,(y5,(y6,(y9,(x.2.2.2.2.1,())))))) ((0,()),(([]:List α),()))).2.1 (fun ys13=>(qN y6 (fun y14=>(qN (qp (qe8 d N ((qp (qa9 d N ((bif (eqI y8 2) then (qp (qaw d N (ys4,(y5,(y6,(x.2.2.2.2.1,()))))) ((),(([]:List α),()))).2.1 else ys4),(y5,(y6,(x.2.2.2.2.1,()))))) ((false,()),(([]:List α),()))).2.1,(y5,(y6,(y9,(x.2.2.2.2.1,())))))) ((0,()),(([]:List α),()))).1.1 (fun y15=>(ih0 (ys13,(y15,(y14,(y3,(p1.2.2.2.2.1,(p1.2.2.2.2.2.1,()))))))))))))) else none) else (bif (qv (qdQ d N ((qp (qa9 d N ((bif (eqI y8 2) then (qp (qaw d N (ys4,(y5,(y6,(x.2.2.2.2.1,()))))) ((),(([]:List α),()))).2.1 else ys4),(y5,(y6,(x.2.2.2.2.1,()))))) ((false,()),(([]:List α),()))).2.1,(y5,(y6,(y9,(x.2.2.2.2.1,()))))))) then (qN (qp (qdQ d N ((qp (qa9 d N ((bif (eqI y8 2) then (qp (qaw d N (ys4,(y5,(y6,(x.2.2.2.2.1,()))))) ((),(([]:List α),()))).2.1 else ys4),(y5,(y6,(x.2.2.2.2.1,()))))) ((false,()),(([]:List α),()))).2.1,(y5,(y6,(y9,(x.2.2.2.2.1,())))))) ((0,(false,())),(([]:List α),()))).2.1 (fun ys13=>(qN y5 (fun y14=>(qN y6 (fun y15=>(qN (qp (qdQ d N ((qp (qa9 d N ((bif (eqI y8 2) then (qp (qaw d N (ys4,(y5,(y6,(x.2.2.2.2.1,()))))) ((),(([]:List α),()))).2.1 else ys4),(y5,(y6,(x.2.2.2.2.1,()))))) ((false,()),(([]:List α),()))).2.1,(y5,(y6,(y9,(x.2.2.2.2.1,())))))) ((0,(false,())),(([]:List α),()))).1.1 (fun y16=>(qN (qp (qdQ d N ((qp (qa9 d N ((bif (eqI y8 2) then (qp (qaw d N (ys4,(y5,(y6,(x.2.2.2.2.1,()))))) ((),(([]:List α),()))).2.1 else ys4),(y5,(y6,(x.2.2.2.2.1,()))))) ((false,()),(([]:List α),()))).2.1,(y5,(y6,(y9,(x.2.2.2.2.1,())))))) ((0,(false,())),(([]:List α),()))).1.2.1 (fun y17=>(qN (qt .i64 y16 y14) (fun y18=>(qN (qt .i64 y15 y16) (fun y19=>(bif (neI 8 0) then (qN (qkP .i64 y2 8) (fun y20=>(bif (bif (ltI y18 y19) then (qv (Fs (ys13,(y14,(y16,(y3,(x.2.2.2.2.1,()))))))) else (qv (Fs (ys13,((qB .i64 y16 1),(y15,(y3,(x.2.2.2.2.1,())))))))) then (ih0 ((bif (ltI y18 y19) then (qp (Fs (ys13,(y14,(y16,(y3,(x.2.2.2.2.1,())))))) ((),(([]:List α),()))).2.1 else (qp (Fs (ys13,((qB .i64 y16 1),(y15,(y3,(x.2.2.2.2.1,())))))) ((),(([]:List α),()))).2.1),((bif (ltI y18 y19) then (qB .i64 y16 1) else y14),((bif (ltI y18 y19) then y15 else y16),(y3,((bif (ltI y18 y19) then (leI y20 y18) else (leI y20 y19)),(y17,()))))))) else none))) else none))))))))))))))) else none)))) else none)) else none) else (bif (((!(ltI 0 y5))||(inB (qt .i64 y5 1) (qs (bif (eqI y8 2) then (qp (qaw d N (ys4,(y5,(y6,(x.2.2.2.2.1,()))))) ((),(([]:List α),()))).2.1 else ys4))))&&(((!(ltI 0 y5))||(inB y9 (qs (bif (eqI y8 2) then (qp (qaw d N (ys4,(y5,(y6,(x.2.2.2.2.1,()))))) ((),(([]:List α),()))).2.1 else ys4))))&&((!(ltI 0 y5))||(qv (x.2.2.2.2.1 ((qe (bif (eqI y8 2) then (qp (qaw d N (ys4,(y5,(y6,(x.2.2.2.2.1,()))))) ((),(([]:List α),()))).2.1 else ys4) (qt .i64 y5 1) d),((qe (bif (eqI y8 2) then (qp (qaw d N (ys4,(y5,(y6,(x.2.2.2.2.1,()))))) ((),(([]:List α),()))).2.1 else ys4) y9 d),()))))))) then (qN ((ltI 0 y5)&&(!(ltI (qp (x.2.2.2.2.1 ((qe (bif (eqI y8 2) then (qp (qaw d N (ys4,(y5,(y6,(x.2.2.2.2.1,()))))) ((),(([]:List α),()))).2.1 else ys4) (qt .i64 y5 1) d),((qe (bif (eqI y8 2) then (qp (qaw d N (ys4,(y5,(y6,(x.2.2.2.2.1,()))))) ((),(([]:List α),()))).2.1 else ys4) y9 d),()))) (0,())).1 0))) (fun y12=>(bif y12 then (bif (qv (qe8 d N ((bif (eqI y8 2) then (qp (qaw d N (ys4,(y5,(y6,(x.2.2.2.2.1,()))))) ((),(([]:List α),()))).2.1 else ys4),(y5,(y6,(y9,(x.2.2.2.2.1,()))))))) then (qN (qp (qe8 d N ((bif (eqI y8 2) then (qp (qaw d N (ys4,(y5,(y6,(x.2.2.2.2.1,()))))) ((),(([]:List α),()))).2.1 else ys4),(y5,(y6,(y9,(x.2.2.2.2.1,())))))) ((0,()),(([]:List α),()))).2.1 (fun ys13=>(qN y6 (fun y14=>(qN (qp (qe8 d N ((bif (eqI y8 2) then (qp (qaw d N (ys4,(y5,(y6,(x.2.2.2.2.1,()))))) ((),(([]:List α),()))).2.1 else ys4),(y5,(y6,(y9,(x.2.2.2.2.1,())))))) ((0,()),(([]:List α),()))).1.1 (fun y15=>(ih0 (ys13,(y15,(y14,(y3,(p1.2.2.2.2.1,(p1.2.2.2.2.2.1,()))))))))))))) else none) else (bif (qv (qdQ d N ((bif (eqI y8 2) then (qp (qaw d N (ys4,(y5,(y6,(x.2.2.2.2.1,()))))) ((),(([]:List α),()))).2.1 else ys4),(y5,(y6,(y9,(x.2.2.2.2.1,()))))))) then (qN (qp (qdQ d N ((bif (eqI y8 2) then (qp (qaw d N (ys4,(y5,(y6,(x.2.2.2.2.1,()))))) ((),(([]:List α),()))).2.1 else ys4),(y5,(y6,(y9,(x.2.2.2.2.1,())))))) ((0,(false,())),(([]:List α),()))).2.1 (fun ys13=>(qN y5 (fun y14=>(qN y6 (fun y15=>(qN (qp (qdQ d N ((bif (eqI y8 2) then (qp (qaw d N (ys4,(y5,(y6,(x.2.2.2.2.1,()))))) ((),(([]:List α),()))).2.1 else ys4),(y5,(y6,(y9,(x.2.2.2.2.1,())))))) ((0,(false,())),(([]:List α),()))).1.1 (fun y16=>(qN (qp (qdQ d N ((bif (eqI y8 2) then (qp (qaw d N (ys4,(y5,(y6,(x.2.2.2.2.1,()))))) ((),(([]:List α),()))).2.1 else ys4),(y5,(y6,(y9,(x.2.2.2.2.1,())))))) ((0,(false,())),(([]:List α),()))).1.2.1 (fun y17=>(qN (qt .i64 y16 y14) (fun y18=>(qN (qt .i64 y15 y16) (fun y19=>(bif (neI 8 0) then (qN (qkP .i64 y2 8) (fun y20=>(bif (bif (ltI y18 y19) then (qv (Fs (ys13,(y14,(y16,(y3,(x.2.2.2.2.1,()))))))) else (qv (Fs (ys13,((qB .i64 y16 1),(y15,(y3,(x.2.2.2.2.1,())))))))) then (ih0 ((bif (ltI y18 y19) then (qp (Fs (ys13,(y14,(y16,(y3,(x.2.2.2.2.1,())))))) ((),(([]:List α),()))).2.1 else (qp (Fs (ys13,((qB .i64 y16 1),(y15,(y3,(x.2.2.2.2.1,())))))) ((),(([]:List α),()))).2.1),((bif (ltI y18 y19) then (qB .i64 y16 1) else y14),((bif (ltI y18 y19) then y15 else y16),(y3,((bif (ltI y18 y19) then (leI y20 y18) else (leI y20 y19)),(y17,()))))))) else none))) else none))))))))))))))) else none)))) else none)))))))) else none))))))))))) else none))) else none))))))) (x.1,(x.2.1,(x.2.2.1,(x.2.2.2.1,(true,(true,())))))))
def pdqG {α:Type} (d:α) (N:Nat) (L:(Int×Unit)→Option ((Int×Unit)×Unit)) (M:Nat):((List α)×(Int×(Int×(Int×(((α×(α×Unit))→(Option (Int×Unit)))×Unit)))))→(Option (Unit×((List α)×Unit))):=
 Nat.rec (motive:=fun _=>((List α)×(Int×(Int×(Int×(((α×(α×Unit))→(Option (Int×Unit)))×Unit)))))→(Option (Unit×((List α)×Unit)))) (fun _=>none) (fun _ Fs=>pdqS d N L Fs) M
def qoH {α:Type} (d:α) (N:Nat) (L:(Int×Unit)→Option ((Int×Unit)×Unit)) (x:((List α)×(((α×(α×Unit))→(Option (Int×Unit)))×Unit))):(Option (Unit×((List α)×Unit))):=
 (qN (qs x.1) (fun y0=>(bif ((qv (L ((qbd .u64 y0),())))&&(qv (pdqG d N L N (x.1,(0,(y0,((qp (L ((qbd .u64 y0),())) ((0,()),())).1.1,(x.2.1,())))))))) then (some ((),((qp (pdqG d N L N (x.1,(0,(y0,((qp (L ((qbd .u64 y0),())) ((0,()),())).1.1,(x.2.1,())))))) ((),(([]:List α),()))).2.1,()))) else none)))
theorem qP {S R:Type} {st:(S→Option R)→S→Option R} (μ:S→Nat) (I:S→Prop) (Q:Option R→Prop)
  (hs:∀ih p,I p→(∀q,I q→μ q<μ p→Q (ih q))→Q (st ih p)):∀(N:Nat) (p:S),I p→μ p<N→Q (qac N st p)
 |0,p,_,h=>by omega
 |N+1,p,hI,h=>by
  rw [qaH]
  exact hs _ p hI fun q hq hm=>qP μ I Q hs N q hq (by omega)
structure Cmp {α:Type} (P:α→Prop) (φ:(α×(α×Unit))→Option (Int×Unit)) (le:α→α→Prop):Prop where
 ans:∀a b,P a→P b→∃c,φ (a,(b,()))=some (c,())∧(c<0↔¬le b a)
 tot:∀a b,P a→P b→le a b∨le b a
 trans:∀a b c,P a→P b→P c→le a b→le b c→le a c
section
variable {α:Type} {P:α→Prop} {n:Nat} (d:α) {φ:(α×(α×Unit))→Option (Int×Unit)} {le:α→α→Prop} {N:Nat}
theorem Cmp.refl (h:Cmp P φ le) {a:α} (ha:P a):le a a:=(h.tot a a ha ha).elim id id
structure Seg (d:α) (n:Nat) (a b:Int) (xs ys:List α):Prop where
 perm:ys.Perm xs
 out:∀k:Int,0≤k→k<(n:Int)→(k<a∨b≤k)→qe ys k d=qe xs k d
 inn:∀k:Int,a≤k→k<b→∃m,a≤m∧m<b∧qe ys k d=qe xs m d
theorem Seg.refl (a b:Int) (xs:List α):Seg d n a b xs xs:=⟨.refl _,fun _ _ _ _=>rfl,fun k h1 h2=>⟨k,h1,h2,rfl⟩⟩
theorem Seg.trans {a b:Int} {xs ys zs:List α} (h1:Seg d n a b xs ys) (h2:Seg d n a b ys zs):Seg d n a b xs zs:=
 ⟨h2.perm.trans h1.perm,fun k q1 q2 q3=>(h2.out k q1 q2 q3).trans (h1.out k q1 q2 q3),fun k q1 q2=>by
  obtain ⟨m,m1,m2,m3⟩:=h2.inn k q1 q2
  obtain ⟨l,l1,l2,l3⟩:=h1.inn m m1 m2
  exact ⟨l,l1,l2,m3.trans l3⟩⟩
theorem Seg.mono {a b a' b':Int} {xs ys:List α} (h:Seg d n a b xs ys) (h0:0≤a') (hn:b'≤(n:Int)) (ha:a'≤a) (hb:b≤b'):Seg d n a' b' xs ys:=
 ⟨h.perm,fun k q1 q2 q3=>h.out k q1 q2 (by omega),fun k q1 q2=>by
  by_cases hk:a≤k∧k<b
  ·obtain ⟨m,m1,m2,m3⟩:=h.inn k hk.1 hk.2
   exact ⟨m,by omega,by omega,m3⟩
  ·exact ⟨k,q1,q2,h.out k (by omega) (by omega) (by omega)⟩⟩
theorem Seg.ck {a b:Int} {xs ys:List α} (h:Seg d n a b xs ys) (hx:Ck P n xs):Ck P n ys:=
 ⟨by rw [h.perm.length_eq]; exact hx.len,fun x q=>hx.all x (h.perm.mem_iff.1 q)⟩
theorem qkF {xs:List α} (hl:xs.length=n) {i k:Int} (h0:0≤i) (h1:i<(n:Int)) (h2:0≤k) (v:α):qe (qaG xs i v) k d=if k=i then v else qe xs k d:=by
 rw [qb2,qb2,qaN]
 by_cases h:k=i
 ·subst h
  rw [if_pos rfl,List.getD_eq_getElem?_getD,List.getElem?_set_self (by omega)]
  rfl
 ·rw [if_neg h,List.getD_eq_getElem?_getD,List.getD_eq_getElem?_getD,List.getElem?_set_ne (by omega)]
def swp (xs:List α) (i j:Int):List α:=qaG (qaG xs i (qe xs j d)) j (qe xs i d)
theorem qcJ {xs:List α} (hl:xs.length=n) {i j:Int} (i0:0≤i) (i1:i<(n:Int)) (j0:0≤j) (j1:j<(n:Int)) (k:Int) (h2:0≤k):qe (swp d xs i j) k d=if k=j then qe xs i d else if k=i then qe xs j d else qe xs k d:=by
 unfold swp
 rw [qkF d (n:=n) (by rw [qaN,List.length_set]; exact hl) j0 j1 h2,qkF d hl i0 i1 h2]
theorem qbT {xs:List α} (hl:xs.length=n) {a b i j:Int} (a0:0≤a) (bn:b≤(n:Int)) (i0:a≤i) (i1:i<b) (j0:a≤j) (j1:j<b):Seg d n a b xs (swp d xs i j):=by
 have g:=qcJ d hl (i:=i) (j:=j) (by omega) (by omega) (by omega) (by omega)
 refine ⟨?_,fun k q1 q2 q3=> ?_,fun k q1 q2=> ?_⟩
 ·unfold swp
  have hi:i.toNat<xs.length:=by omega
  have hj:j.toNat<xs.length:=by omega
  have e1:qe xs i d=xs[i.toNat]:=by rw [qb2,List.getD_eq_getElem?_getD,List.getElem?_eq_getElem hi]; rfl
  have e2:qe xs j d=xs[j.toNat]:=by rw [qb2,List.getD_eq_getElem?_getD,List.getElem?_eq_getElem hj]; rfl
  rw [e1,e2,qaN,qaN]
  exact List.set_set_perm hi hj
 ·rw [g k q1,if_neg (by omega),if_neg (by omega)]
 ·rw [g k (by omega)]
  by_cases h1:k=j
  ·exact ⟨i,i0,i1,by rw [if_pos h1]⟩
  ·by_cases h2:k=i
   ·exact ⟨j,j0,j1,by rw [if_neg h1,if_pos h2]⟩
   ·exact ⟨k,q1,q2,by rw [if_neg h1,if_neg h2]⟩
theorem swp_inB (xs:List α) (i j k:Int) (v w:α):inB k (qs (qaG (qaG xs i v) j w))=inB k (qs xs):=by
 rw [qef,qef,qn,qn,qaN,qaN,List.length_set,List.length_set]
theorem qbI (xs:List α) (i k:Int) (v:α):inB k (qs (qaG xs i v))=inB k (qs xs):=by
 rw [qef,qef,qn,qn,qaN,List.length_set]
def Srt (d:α) (le:α→α→Prop) (a b:Int) (xs:List α):Prop:=∀i j,a≤i→i≤j→j<b→le (qe xs i d) (qe xs j d)
def qg1 (P:α→Prop) (d:α) (n:Nat) (le:α→α→Prop) (a b:Int) (xs:List α) (r:Option (Unit×(List α×Unit))):Prop:=∃out,r=some ((),(out,()))∧Seg d n a b xs out∧Srt d le a b out
theorem qg6 (hφ:Cmp P φ le) (hn:n≤1099511627776) (hN:n+1<N) {xs:List α} (h:Ck P n xs) {a b:Int} (ha:0≤a) (ha2:a≤(n:Int)) (hb:b≤(n:Int)):qg1 P d n le a b xs (qdO d N (xs,(a,(b,(φ,()))))):=by
 simp only [qdO]
 have ea:qB .i64 a 1=a+1:=qO (by omega) (by omega)
 rw [ea]
 by_cases hab:¬a<b
 ·obtain ⟨M,rfl⟩:∃M,N=M+1:=⟨N - 1,by omega⟩
  rw [qaH]
  simp only [ltF (show ¬a+1<b by omega),cond_false]
  exact ⟨xs,rfl,.refl d a b xs,fun i j h1 h2 h3=>by omega⟩
 refine qP (S:=List α×(Int×Unit)) (fun p=>(b - p.2.1).toNat) (fun p=>Seg d n a b xs p.1∧a+1≤p.2.1∧p.2.1≤(n:Int)+1∧Srt d le a p.2.1 p.1) (qg1 P d n le a b xs) ?_ N _ ⟨.refl d a b xs,by simp only; omega,by simp only; omega,fun i j h1 h2 h3=>by
  simp only at h3
  have:i=j:=by omega
  subst this
  exact hφ.refl (h.get d (by omega) (by omega))⟩ (by simp only; omega)
 rintro ih ⟨ys,i,⟨⟩⟩ ⟨hs,hi,hi2,hsrt⟩ hih
 simp only at hs hi hi2 hsrt hih⊢
 by_cases hc:i<b
 ·simp only [ltT hc,cond_true]
  refine qP (S:=List α×(Int×Unit)) (fun p=>(p.2.1 - a).toNat) (fun p=>Seg d n a b xs p.1∧a≤p.2.1∧p.2.1≤i∧∀x y,a≤x→x<y→y≤i→y≠p.2.1→le (qe p.1 x d) (qe p.1 y d)) (qg1 P d n le a b xs) ?_ N _ ⟨hs,by simp only; omega,by simp only; omega,fun x y h1 h2 h3 h4=>hsrt x y h1 (by omega) (by simp only at h4⊢; omega)⟩ (by simp only; omega)
  rintro jh ⟨zs,j,⟨⟩⟩ ⟨hz,hj1,hj2,hord⟩ hjh
  simp only at hz hj1 hj2 hord hjh⊢
  have hzc:=hz.ck d h
  have ei:qB .i64 i 1=i+1:=qO (by omega) (by omega)
  have fin:(a<j→le (qe zs (j - 1) d) (qe zs j d))→Srt d le a (i+1) zs:=fun hle x y h1 h2 h3=>by
   by_cases hxy:x=y
   ·subst hxy; exact hφ.refl (hzc.get d (by omega) (by omega))
   by_cases hyj:y=j
   ·subst hyj
    by_cases hx:x=y - 1
    ·rw [hx]; exact hle (by omega)
    ·exact hφ.trans _ _ _ (hzc.get d (by omega) (by omega)) (hzc.get d (i:=y - 1) (by omega) (by omega)) (hzc.get d (by omega) (by omega)) (hord x (y - 1) h1 (by omega) (by omega) (by omega)) (hle (by omega))
   ·exact hord x y h1 (by omega) (by omega) hyj
  by_cases hja:a<j
  ·have s1:qt .i64 j 1=j - 1:=qQ (by omega) (by omega)
   have pj:=hzc.get d (i:=j) (by omega) (by omega)
   have pk:=hzc.get d (i:=j - 1) (by omega) (by omega)
   obtain ⟨c,e1,e3⟩:=hφ.ans _ _ pj pk
   have b1:=hzc.inB (i:=j) (by omega) (by omega)
   have b2:=hzc.inB (i:=j - 1) (by omega) (by omega)
   simp only [ltT hja,s1,b1,b2,e1,qd,qg,Bool.not_true,Bool.false_or,Bool.and_self,cond_true,Bool.true_and,qbI]
   by_cases hc0:c<0
   ·simp only [ltT hc0,cond_true]
    have hnle:=e3.1 hc0
    have hle:le (qe zs j d) (qe zs (j - 1) d):=(hφ.tot _ _ pj pk).elim id (fun q=>absurd q hnle)
    have hsg:=qbT d hzc.len (a:=a) (b:=b) (i:=j) (j:=j - 1) ha hb (by omega) (by omega) (by omega) (by omega)
    have g:=qcJ d hzc.len (i:=j) (j:=j - 1) (by omega) (by omega) (by omega) (by omega)
    refine hjh (swp d zs j (j - 1),(j - 1,())) ⟨hz.trans d hsg,by simp only; omega,by simp only; omega,fun x y h1 h2 h3 h4=> ?_⟩ (by simp only; omega)
    simp only at h4⊢
    rw [g x (by omega),g y (by omega)]
    rw [if_neg h4]
    by_cases hy:y=j
    ·rw [if_pos hy]
     by_cases hx:x=j - 1
     ·rw [if_pos hx]; exact hle
     ·rw [if_neg hx,if_neg (by omega)]; exact hord x (j - 1) h1 (by omega) (by omega) (by omega)
    ·rw [if_neg hy]
     by_cases hx:x=j - 1
     ·rw [if_pos hx]; exact hord j y (by omega) (by omega) h3 hy
     ·rw [if_neg hx]
      by_cases hx2:x=j
      ·rw [if_pos hx2]; exact hord (j - 1) y (by omega) (by omega) h3 hy
      ·rw [if_neg hx2]; exact hord x y h1 h2 h3 hy
   ·simp only [ltF hc0,cond_false,ei]
    have hle:le (qe zs (j - 1) d) (qe zs j d):=Classical.byContradiction fun q=>hc0 (e3.2 q)
    exact hih _ ⟨hz,by simp only; omega,by simp only; omega,fin fun _=>hle⟩ (by simp only; omega)
  ·simp only [ltF hja,Bool.not_false,Bool.true_or,Bool.and_self,cond_true,Bool.false_and,cond_false,ei]
   exact hih _ ⟨hz,by simp only; omega,by simp only; omega,fin fun q=>absurd q hja⟩ (by simp only; omega)
 ·simp only [ltF hc,cond_false]
  exact ⟨ys,rfl,hs,fun x y h1 h2 h3=>hsrt x y h1 h2 (by omega)⟩
def qpw (d:α) (le:α→α→Prop) (f hi:Int) (ys:List α) (k:Int):Prop:=(2 * k+1<hi→le (qe ys (f+(2 * k+1)) d) (qe ys (f+k) d))∧(2 * k+2<hi→le (qe ys (f+(2 * k+2)) d) (qe ys (f+k) d))
theorem qp2 (hφ:Cmp P φ le) {ys:List α} (h:Ck P n ys) {f hi:Int} (f0:0≤f) (fn:f+hi≤(n:Int)) (hp:∀k,0≤k→k<hi→qpw d le f hi ys k):∀(m:Nat),(m:Int)<hi→le (qe ys (f+m) d) (qe ys (f+0) d):=by
 intro m
 induction m using Nat.strongRecOn with
 |ind m ih=>
  intro hm
  by_cases h0:m=0
  ·subst h0; exact hφ.refl (h.get d (by omega) (by omega))
  ·have hpp:=hp (((m - 1) / 2:Nat):Int) (by omega) (by omega)
   have ihp:=ih ((m - 1) / 2) (by omega) (by omega)
   refine hφ.trans _ _ _ (h.get d (by omega) (by omega)) (h.get d (i:=f+(((m - 1) / 2:Nat):Int)) (by omega) (by omega)) (h.get d (by omega) (by omega)) ?_ ihp
   rcases Nat.mod_two_eq_zero_or_one (m - 1) with hq|hq
   ·have:=hpp.1 (by omega)
    rwa [show f+(2 * (((m - 1) / 2:Nat):Int)+1)=f+(m:Int) by omega] at this
   ·have:=hpp.2 (by omega)
    rwa [show f+(2 * (((m - 1) / 2:Nat):Int)+2)=f+(m:Int) by omega] at this
structure Sft (d:α) (le:α→α→Prop) (f lo hi:Int) (ys:List α) (r:Int):Prop where
 rest:∀k,lo≤k→k<hi→k≠r→qpw d le f hi ys k
 up:∀p,lo≤p→(2 * p+1=r∨2 * p+2=r)→(2 * r+1<hi→le (qe ys (f+(2 * r+1)) d) (qe ys (f+p) d))∧(2 * r+2<hi→le (qe ys (f+(2 * r+2)) d) (qe ys (f+p) d))
theorem Sft.done {f lo hi:Int} {ys:List α} {r:Int} (h:Sft d le f lo hi ys r) (hr:qpw d le f hi ys r):∀k,lo≤k→k<hi→qpw d le f hi ys k:=fun k h1 h2=>by
 by_cases hk:k=r
 ·rw [hk]; exact hr
 ·exact h.rest k h1 h2 hk
theorem Sft.step (hφ:Cmp P φ le) {ys:List α} (hc:Ck P n ys) {f lo hi:Int} (f0:0≤f) (fn:f+hi≤(n:Int)) (l0:0≤lo) {r c:Int} (h:Sft d le f lo hi ys r) (hr:lo≤r) (hcr:c=2 * r+1∨c=2 * r+2) (hch:c<hi)
  (hle:le (qe ys (f+r) d) (qe ys (f+c) d)) (hmax:∀o,(o=2 * r+1∨o=2 * r+2)→o<hi→le (qe ys (f+o) d) (qe ys (f+c) d)):Sft d le f lo hi (swp d ys (f+r) (f+c)) c:=by
 have g:=qcJ d hc.len (i:=f+r) (j:=f+c) (by omega) (by omega) (by omega) (by omega)
 have gc:qe (swp d ys (f+r) (f+c)) (f+c) d=qe ys (f+r) d:=by rw [g _ (by omega),if_pos rfl]
 have gr:qe (swp d ys (f+r) (f+c)) (f+r) d=qe ys (f+c) d:=by rw [g _ (by omega),if_neg (by omega),if_pos rfl]
 have go:∀k,0≤k→k≠r→k≠c→qe (swp d ys (f+r) (f+c)) (f+k) d=qe ys (f+k) d:=fun k h0 h1 h2=>by rw [g _ (by omega),if_neg (by omega),if_neg (by omega)]
 have key:∀k,lo≤k→k<hi→k≠c→∀o,(o=2 * k+1∨o=2 * k+2)→o<hi→le (qe (swp d ys (f+r) (f+c)) (f+o) d) (qe (swp d ys (f+r) (f+c)) (f+k) d):=fun k k1 k2 k3 o ho oh=>by
  by_cases hk:k=r
  ·subst hk
   rw [gr]
   by_cases hoc:o=c
   ·rw [hoc,gc]; exact hle
   ·rw [go o (by omega) (by omega) hoc]; exact hmax o ho oh
  ·have hold:=h.rest k k1 k2 hk
   by_cases hor:o=r
   ·rw [hor,gr,go k (by omega) hk k3]
    have hu:=h.up k k1 (by omega)
    rcases hcr with q|q
    ·rw [q]; exact hu.1 (by omega)
    ·rw [q]; exact hu.2 (by omega)
   ·rw [go o (by omega) hor (by omega),go k (by omega) hk k3]
    rcases ho with q|q
    ·rw [q]; exact hold.1 (by omega)
    ·rw [q]; exact hold.2 (by omega)
 refine ⟨fun k k1 k2 k3=>⟨fun q=>key k k1 k2 k3 _ (.inl rfl) q,fun q=>key k k1 k2 k3 _ (.inr rfl) q⟩,fun p p1 p2=> ?_⟩
 have hp:p=r:=by omega
 subst hp
 have hold:=h.rest c (by omega) hch (by omega)
 rw [gr]
 exact ⟨fun q=>by rw [go _ (by omega) (by omega) (by omega)]; exact hold.1 q,fun q=>by rw [go _ (by omega) (by omega) (by omega)]; exact hold.2 q⟩
theorem qk2 (hφ:Cmp P φ le) (hn:n≤1099511627776) (hN:n+1<N) {xs:List α} (h:Ck P n xs) {f lo hi:Int} (f0:0≤f) (l0:0≤lo) (lh:lo≤hi) (fn:f+hi≤(n:Int)) (hp:∀k,lo<k→k<hi→qpw d le f hi xs k):
  ∃out,qhq d N (xs,(lo,(hi,(f,(φ,())))))=some ((),(out,()))∧Seg d n (f+lo) (f+hi) xs out∧∀k,lo≤k→k<hi→qpw d le f hi out k:=by
 simp only [qhq,qD]
 refine qP (S:=List α×(Int×Unit)) (fun p=>(hi - p.2.1).toNat) (fun p=>Seg d n (f+lo) (f+hi) xs p.1∧lo≤p.2.1∧p.2.1≤hi∧Sft d le f lo hi p.1 p.2.1) (fun r=>∃out,r=some ((),(out,()))∧Seg d n (f+lo) (f+hi) xs out∧∀k,lo≤k→k<hi→qpw d le f hi out k) ?_ N _ ⟨.refl d _ _ xs,by simp only; omega,by simp only; omega,fun k k1 k2 k3=>hp k (by simp only at k3; omega) k2,fun p p1 p2=>by simp only at p2; omega⟩ (by simp only; omega)
 rintro ih ⟨ys,r,⟨⟩⟩ ⟨hs,hr,hrh,hsf⟩ hih
 simp only at hs hr hrh hsf hih⊢
 have hc:=hs.ck d h
 have e1:qh8 .i64 2 r=2 * r:=by rw [qb1,qbj (by omega) (by omega)]
 have e2:qB .i64 (2 * r) 1=2 * r+1:=qO (by omega) (by omega)
 simp only [e1,e2]
 by_cases q:hi≤2 * r+1
 ·simp only [leT q,cond_true]
  exact ⟨ys,rfl,hs,hsf.done d ⟨fun w=>by omega,fun w=>by omega⟩⟩
 have e3:qB .i64 (2 * r+1) 1=2 * r+2:=by rw [qO (by omega) (by omega)]; omega
 have e4:qB .i64 f (2 * r+1)=f+(2 * r+1):=qO (by omega) (by omega)
 have e5:qB .i64 (f+(2 * r+1)) 1=f+(2 * r+2):=by rw [qO (by omega) (by omega)]; omega
 have e6:qB .i64 f r=f+r:=qO (by omega) (by omega)
 have b1:=hc.inB (i:=f+(2 * r+1)) (by omega) (by omega)
 have b0:=hc.inB (i:=f+r) (by omega) (by omega)
 have p1:=hc.get d (i:=f+(2 * r+1)) (by omega) (by omega)
 have p0:=hc.get d (i:=f+r) (by omega) (by omega)
 simp only [leF q,cond_false,e3,e4,e5,e6]
 obtain ⟨c,hc1,hc2,hcx,w1,w2⟩:∃c,(c=2 * r+1∨c=2 * r+2)∧c<hi∧(∀o,(o=2 * r+1∨o=2 * r+2)→o<hi→le (qe ys (f+o) d) (qe ys (f+c) d))∧
   ((!ltI (2 * r+2) hi||inB (f+(2 * r+1)) (qs ys))&&((!ltI (2 * r+2) hi||inB (f+(2 * r+2)) (qs ys))&&(!ltI (2 * r+2) hi||qv (φ (qe ys (f+(2 * r+1)) d,(qe ys (f+(2 * r+2)) d,()))))))=true∧
   (bif (ltI (2 * r+2) hi&&ltI (qp (φ (qe ys (f+(2 * r+1)) d,(qe ys (f+(2 * r+2)) d,()))) (0,())).1 0) then 2 * r+2 else 2 * r+1)=c:=by
  by_cases q2:2 * r+2<hi
  ·have b2:=hc.inB (i:=f+(2 * r+2)) (by omega) (by omega)
   have p2:=hc.get d (i:=f+(2 * r+2)) (by omega) (by omega)
   obtain ⟨c,a1,a2⟩:=hφ.ans _ _ p1 p2
   by_cases q3:c<0
   ·have hle:=(hφ.tot _ _ p1 p2).elim id (fun w=>absurd w (a2.1 q3))
    exact ⟨2 * r+2,.inr rfl,q2,fun o ho _=>by
     rcases ho with w|w
     ·rw [w]; exact hle
     ·rw [w]; exact hφ.refl p2,by simp only [ltT q2,b1,b2,a1,qd,Bool.not_true,Bool.false_or,Bool.and_self,qg,ltT q3,cond_true,and_self]⟩
   ·have hle:le (qe ys (f+(2 * r+2)) d) (qe ys (f+(2 * r+1)) d):=Classical.byContradiction fun w=>q3 (a2.2 w)
    exact ⟨2 * r+1,.inl rfl,by omega,fun o ho _=>by
     rcases ho with w|w
     ·rw [w]; exact hφ.refl p1
     ·rw [w]; exact hle,by simp only [ltT q2,b1,b2,a1,qd,Bool.not_true,Bool.false_or,Bool.and_self,qg,ltF q3,Bool.and_false,cond_false,and_self]⟩
  ·exact ⟨2 * r+1,.inl rfl,by omega,fun o ho w=>by
    rcases ho with w2|w2
    ·rw [w2]; exact hφ.refl p1
    ·omega,by simp only [ltF q2,Bool.not_false,Bool.true_or,Bool.and_self,Bool.false_and,cond_false,and_self]⟩
 have e7:qB .i64 f c=f+c:=qO (by omega) (by omega)
 have bc:=hc.inB (i:=f+c) (by omega) (by omega)
 have pc:=hc.get d (i:=f+c) (by omega) (by omega)
 obtain ⟨v,a1,a2⟩:=hφ.ans _ _ p0 pc
 simp only [w1,w2,cond_true,e7,b0,bc,a1,qd,qg,Bool.and_self,qbI]
 by_cases q3:v<0
 ·have hle:=(hφ.tot _ _ p0 pc).elim id (fun w=>absurd w (a2.1 q3))
  simp only [ltT q3,Bool.not_true,cond_false]
  exact hih (swp d ys (f+r) (f+c),(c,())) ⟨hs.trans d (qbT d hc.len (by omega) fn (by omega) (by omega) (by omega) (by omega)),by simp only; omega,by simp only; omega,hsf.step d hφ hc f0 fn l0 hr hc1 hc2 hle hcx⟩ (by simp only; omega)
 ·have hle:le (qe ys (f+c) d) (qe ys (f+r) d):=Classical.byContradiction fun w=>q3 (a2.2 w)
  simp only [ltF q3,Bool.not_false,cond_true]
  refine ⟨ys,rfl,hs,hsf.done d ⟨fun w=> ?_,fun w=> ?_⟩⟩
  ·exact hφ.trans _ _ _ p1 pc p0 (hcx _ (.inl rfl) w) hle
  ·exact hφ.trans _ _ _ (hc.get d (i:=f+(2 * r+2)) (by omega) (by omega)) pc p0 (hcx _ (.inr rfl) w) hle
theorem qpK (hφ:Cmp P φ le) (hn:n≤1099511627776) (hN:n+1<N) {xs:List α} (h:Ck P n xs) {a b:Int} (ha:0≤a) (hab:a<b) (hb:b≤(n:Int)):qg1 P d n le a b xs (qlR d N (xs,(a,(b,(φ,()))))):=by
 have e1:qt .i64 b a=b - a:=qQ (by omega) (by omega)
 have e2:qt .i64 (b - a) 1=b - a - 1:=qQ (by omega) (by omega)
 have e3:qkP .i64 (b - a - 1) 2=(b - a - 1) / 2:=by
  rw [qfU,Int.tdiv_eq_ediv_of_nonneg (by omega),qbj (by omega) (by omega)]
 simp only [qlR,qD,e1,e2,e3,neT (show ¬(2:Int)=0 by omega),cond_true]
 generalize hhi:b - a=hi at *
 refine qP (S:=List α×(Int×Unit)) (fun p=>(p.2.1+1).toNat) (fun p=>Seg d n a b xs p.1∧ -1≤p.2.1∧p.2.1<hi∧∀k,p.2.1<k→k<hi→qpw d le a hi p.1 k) (qg1 P d n le a b xs) ?_ N _ ⟨.refl d _ _ xs,by simp only; omega,by simp only; omega,fun k k1 k2=>⟨fun w=>by simp only at k1; omega,fun w=>by simp only at k1; omega⟩⟩ (by simp only; omega)
 rintro ih ⟨ys,i,⟨⟩⟩ ⟨hs,hi0,hi1,hhp⟩ hih
 simp only at hs hi0 hi1 hhp hih⊢
 have hc:=hs.ck d h
 by_cases q:0≤i
 ·obtain ⟨out,r1,r2,r3⟩:=qk2 d hφ hn hN hc ha q (by omega:i≤hi) (by omega) (fun k k1 k2=>hhp k k1 k2)
  have e4:qt .i64 i 1=i - 1:=qQ (by omega) (by omega)
  simp only [leT q,cond_true,r1,qd,qg,e4]
  exact hih _ ⟨hs.trans d (r2.mono d ha hb (by omega) (by omega)),by simp only; omega,by simp only; omega,fun k k1 k2=>r3 k (by simp only at k1; omega) k2⟩ (by simp only; omega)
 simp only [leF q,cond_false]
 refine qP (S:=List α×(Int×Unit)) (fun p=>(p.2.1+1).toNat) (fun p=>Seg d n a b xs p.1∧ -1≤p.2.1∧p.2.1<hi∧(∀k,0≤k→k<p.2.1+1→qpw d le a (p.2.1+1) p.1 k)∧∀x y,0≤x→x<y→y<hi→p.2.1<y→le (qe p.1 (a+x) d) (qe p.1 (a+y) d)) (qg1 P d n le a b xs) ?_ N _ ⟨hs,by simp only; omega,by simp only; omega,fun k k1 k2=>by
  have hk:=hhp k (by omega) (by simp only at k2; omega)
  have e:hi - 1+1=hi:=by omega
  simp only [e]
  exact hk,fun x y h1 h2 h3 h4=>by simp only at h4; omega⟩ (by simp only; omega)
 rintro jh ⟨zs,j,⟨⟩⟩ ⟨hz,hj0,hj1,hheap,htail⟩ hjh
 simp only at hz hj0 hj1 hheap htail hjh⊢
 have hzc:=hz.ck d h
 by_cases q2:0≤j
 ·have e4:qt .i64 j 1=j - 1:=qQ (by omega) (by omega)
  have e5:qB .i64 a j=a+j:=qO (by omega) (by omega)
  have b1:=hzc.inB (i:=a+j) (by omega) (by omega)
  have b0:=hzc.inB (i:=a) (by omega) (by omega)
  have hsw:=qbT d hzc.len (a:=a) (b:=a+j+1) (i:=a) (j:=a+j) ha (by omega) (by omega) (by omega) (by omega) (by omega)
  have g:=qcJ d hzc.len (i:=a) (j:=a+j) (by omega) (by omega) (by omega) (by omega)
  have hwc:=hsw.ck d hzc
  have hmax:=qp2 d hφ hzc ha (hi:=j+1) (by omega) hheap
  have hmax':∀x,0≤x→x≤j→le (qe zs (a+x) d) (qe zs a d):=fun x x0 x1=>by
   obtain ⟨m,rfl⟩:∃m:Nat,x=(m:Int):=⟨x.toNat,by omega⟩
   have:=hmax m (by omega)
   rwa [show a+0=a by omega] at this
  obtain ⟨out,r1,r2,r3⟩:=qk2 d hφ hn hN hwc ha (Int.le_refl 0) (by omega:(0:Int)≤j) (by omega) (fun k k1 k2=>by
   have hk:=hheap k (by omega) (by omega)
   refine ⟨fun w=> ?_,fun w=> ?_⟩
   ·rw [g _ (by omega),g _ (by omega),if_neg (by omega),if_neg (by omega),if_neg (by omega),if_neg (by omega)]; exact hk.1 (by omega)
   ·rw [g _ (by omega),g _ (by omega),if_neg (by omega),if_neg (by omega),if_neg (by omega),if_neg (by omega)]; exact hk.2 (by omega))
  simp only [leT q2,cond_true,e4,e5,b0,b1,qbI,Bool.and_self]
  have r1':qhq d N (qaG (qaG zs a (qe zs (a+j) d)) (a+j) (qe zs a d),(0,(j,(a,(φ,())))))=some ((),(out,())):=r1
  simp only [r1',qd,qg,cond_true]
  refine hjh _ ⟨hz.trans d ((hsw.mono d ha hb (by omega) (by omega)).trans d (r2.mono d ha hb (by omega) (by omega))),by simp only; omega,by simp only; omega,fun k k1 k2=> ?_,fun x y x0 xy yh yj=> ?_⟩ (by simp only; omega)
  ·have e:j - 1+1=j:=by omega
   simp only [e]
   exact r3 k k1 (by simp only at k2; omega)
  ·simp only at yj⊢
   have gy:qe out (a+y) d=qe (swp d zs a (a+j)) (a+y) d:=r2.out _ (by omega) (by omega) (.inr (by omega))
   obtain ⟨x',x'0,x'y,hx'⟩:∃x',0≤x'∧(x'<j∨(x'=x∧j≤x))∧qe out (a+x) d=qe (swp d zs a (a+j)) (a+x') d:=by
    by_cases hxj:x<j
    ·obtain ⟨m,m1,m2,m3⟩:=r2.inn (a+x) (by omega) (by omega)
     exact ⟨m - a,by omega,.inl (by omega),by rw [m3]; congr 1; omega⟩
    ·exact ⟨x,x0,.inr ⟨rfl,by omega⟩,r2.out _ (by omega) (by omega) (.inr (by omega))⟩
   rw [hx',gy,g _ (by omega),g _ (by omega)]
   by_cases hyj:y=j
   ·rw [if_pos (by omega:a+y=a+j)]
    rw [if_neg (by omega:¬a+x'=a+j)]
    by_cases hx0:x'=0
    ·rw [if_pos (by omega:a+x'=a)]; exact hmax' j q2 (Int.le_refl j)
    ·rw [if_neg (by omega:¬a+x'=a)]; exact hmax' x' x'0 (by omega)
   ·rw [if_neg (by omega:¬a+y=a+j),if_neg (by omega:¬a+y=a)]
    by_cases hxj:x'=j
    ·rw [if_pos (by omega:a+x'=a+j)]
     have:=htail 0 y (by omega) (by omega) yh (by omega)
     rwa [show a+0=a by omega] at this
    ·rw [if_neg (by omega:¬a+x'=a+j)]
     by_cases hx0:x'=0
     ·rw [if_pos (by omega:a+x'=a)]; exact htail j y q2 (by omega) yh (by omega)
     ·rw [if_neg (by omega:¬a+x'=a)]; exact htail x' y x'0 (by omega) yh (by omega)
 ·simp only [leF q2,cond_false]
  refine ⟨zs,rfl,hz,fun x y h1 h2 h3=> ?_⟩
  by_cases hxy:x=y
  ·rw [hxy]; exact hφ.refl (hzc.get d (by omega) (by omega))
  ·have:=htail (x - a) (y - a) (by omega) (by omega) (by omega) (by omega)
   rwa [show a+(x - a)=x by omega,show a+(y - a)=y by omega] at this
theorem qok (hn:n≤1099511627776) (hN:n+1<N) {xs:List α} (h:Ck P n xs) {a b:Int} (ha:0≤a) (hab:a<b) (hb:b≤(n:Int)):∃out,qaw d N (xs,(a,(b,(φ,()))))=some ((),(out,()))∧Seg d n a b xs out:=by
 have e1:qt .i64 b 1=b - 1:=qQ (by omega) (by omega)
 simp only [qaw,qD,e1]
 refine qP (S:=List α×(Int×(Int×Unit))) (fun p=>(p.2.2.1 - p.2.1).toNat) (fun p=>Seg d n a b xs p.1∧a≤p.2.1∧p.2.2.1<b) (fun r=>∃out,r=some ((),(out,()))∧Seg d n a b xs out) ?_ N _ ⟨.refl d _ _ xs,by simp only; omega,by simp only; omega⟩ (by simp only; omega)
 rintro ih ⟨ys,i,j,⟨⟩⟩ ⟨hs,hi,hj⟩ hih
 simp only at hs hi hj hih⊢
 have hc:=hs.ck d h
 by_cases q:i<j
 ·have e2:qB .i64 i 1=i+1:=qO (by omega) (by omega)
  have e3:qt .i64 j 1=j - 1:=qQ (by omega) (by omega)
  simp only [ltT q,cond_true,e2,e3,hc.inB (i:=i) (by omega) (by omega),hc.inB (i:=j) (by omega) (by omega),qbI,Bool.and_self]
  exact hih (swp d ys i j,(i+1,(j - 1,()))) ⟨hs.trans d (qbT d hc.len ha hb hi (by omega) (by omega) hj),by simp only; omega,by simp only; omega⟩ (by simp only; omega)
 ·simp only [ltF q,cond_false]
  exact ⟨ys,rfl,hs⟩
theorem qoc (hφ:Cmp P φ le) (hn:n≤1099511627776) (hN:n+1<N) {xs:List α} (h:Ck P n xs) {a b pv:Int} (ha:0≤a) (hpa:a≤pv) (hpb:pv<b) (hb:b≤(n:Int)):
  ∃out mid,qe8 d N (xs,(a,(b,(pv,(φ,())))))=some ((mid,()),(out,()))∧Seg d n a b xs out∧a<mid∧mid≤b∧∀k,a≤k→k<mid→le (qe out k d) (qe xs pv d):=by
 have e1:qt .i64 b 1=b - 1:=qQ (by omega) (by omega)
 have e2:qB .i64 a 1=a+1:=qO (by omega) (by omega)
 have pp:=h.get d (i:=pv) (by omega) (by omega)
 simp only [qe8,qD,e1,e2,h.inB (i:=a) (by omega) (by omega),h.inB (i:=pv) (by omega) (by omega),qbI,Bool.and_self,cond_true]
 have g:=qcJ d h.len (i:=a) (j:=pv) (by omega) (by omega) (by omega) (by omega)
 have ini:qaG (qaG xs a (qe xs pv d)) pv (qe xs a d)=swp d xs a pv:=rfl
 have ga:qe (swp d xs a pv) a d=qe xs pv d:=by
  rw [g a ha]
  by_cases q:a=pv
  ·rw [if_pos q,q]
  ·rw [if_neg q,if_pos rfl]
 rw [ini]
 obtain ⟨p,hp⟩:∃p,qe xs pv d=p:=⟨_,rfl⟩
 rw [hp] at pp ga
 rw [hp]
 refine qP (S:=List α×(Int×(Int×Unit))) (fun q=>(q.2.2.1+1 - q.2.1).toNat) (fun q=>Seg d n a b xs q.1∧a<q.2.1∧q.2.1≤b∧q.2.2.1<b∧qe q.1 a d=p∧∀k,a≤k→k<q.2.1→le (qe q.1 k d) p) (fun r=>∃out mid,r=some ((mid,()),(out,()))∧Seg d n a b xs out∧a<mid∧mid≤b∧∀k,a≤k→k<mid→le (qe out k d) p) ?_ N _ ⟨qbT d h.len ha hb (by omega) (by omega) hpa hpb,by simp only; omega,by simp only; omega,by simp only; omega,ga,fun k k1 k2=>by
  have:k=a:=by simp only at k2; omega
  rw [this,ga]; exact hφ.refl pp⟩ (by simp only; omega)
 rintro ih ⟨ys,i,j,⟨⟩⟩ ⟨hs,hi,hib,hj,hya,hlo⟩ hih
 simp only at hs hi hib hj hya hlo hih⊢
 have hc:=hs.ck d h
 have ba:=hc.inB (i:=a) (by omega) (by omega)
 refine qP (S:=List α×(Int×(Int×Unit))) (fun q=>(q.2.2.1+1 - q.2.1).toNat) (fun q=>q.1=ys∧i≤q.2.1∧q.2.1≤b∧q.2.2.1=j∧∀k,a≤k→k<q.2.1→le (qe ys k d) p) (fun r=>∃out mid,r=some ((mid,()),(out,()))∧Seg d n a b xs out∧a<mid∧mid≤b∧∀k,a≤k→k<mid→le (qe out k d) p) ?_ N _ ⟨rfl,by simp only; omega,hib,rfl,hlo⟩ (by simp only; omega)
 rintro jh ⟨ys',i2,j',⟨⟩⟩ ⟨hy',hi2,hi2b,hj',hlo2⟩ hjh
 simp only at hy' hi2 hi2b hj' hlo2 hjh⊢
 subst hy'
 subst hj'
 obtain ⟨t1,w1,w2,w3⟩:∃t1:Bool,(((!(leI i2 j'))||(inB a (qs ys')))&&(((!(leI i2 j'))||(inB i2 (qs ys')))&&((!(leI i2 j'))||(qv (φ ((qe ys' a d),((qe ys' i2 d),())))))))=true∧((leI i2 j')&&(!(ltI (qp (φ ((qe ys' a d),((qe ys' i2 d),()))) (0,())).1 0)))=t1∧(t1=true→i2≤j'∧le (qe ys' i2 d) p):=by
  by_cases q:i2≤j'
  ·have pi:=hc.get d (i:=i2) (by omega) (by omega)
   obtain ⟨c,a1,a2⟩:=hφ.ans _ _ (by rw [hya]; exact pp:P (qe ys' a d)) pi
   refine ⟨_,by simp only [leT q,ba,hc.inB (i:=i2) (by omega) (by omega),a1,qd,Bool.not_true,Bool.false_or,Bool.and_self],rfl,fun ht=>⟨q,?_⟩⟩
   rw [leT q,a1,qg,Bool.true_and] at ht
   rw [hya] at a2
   exact Classical.byContradiction fun w=>by
    rw [ltT (a2.2 w)] at ht; cases ht
  ·exact ⟨false,by simp only [leF q,Bool.not_false,Bool.true_or,Bool.and_self],by simp only [leF q,Bool.false_and],fun w=>by cases w⟩
 simp only [w1,w2,cond_true]
 cases t1 with
 |true=>
  obtain ⟨v1,v2⟩:=w3 rfl
  have e3:qB .i64 i2 1=i2+1:=qO (by omega) (by omega)
  simp only [cond_true,e3]
  exact hjh _ ⟨rfl,by simp only; omega,by simp only; omega,rfl,fun k k1 k2=>by
   by_cases hk:k=i2
   ·rw [hk]; exact v2
   ·exact hlo2 k k1 (by simp only at k2; omega)⟩ (by simp only; omega)
 |false=>
  simp only [cond_false]
  refine qP (S:=List α×(Int×Unit)) (fun q=>(q.2.1+1 - i2).toNat) (fun q=>q.1=ys'∧q.2.1≤j') (fun r=>∃out mid,r=some ((mid,()),(out,()))∧Seg d n a b xs out∧a<mid∧mid≤b∧∀k,a≤k→k<mid→le (qe out k d) p) ?_ N _ ⟨rfl,by simp only; omega⟩ (by simp only; omega)
  rintro kh ⟨ys2,j2,⟨⟩⟩ ⟨hy2,hj2⟩ hkh
  simp only at hy2 hj2 hkh⊢
  subst hy2
  obtain ⟨t2,u1,u2,u3,u4⟩:∃t2:Bool,(((!(leI i2 j2))||(inB a (qs ys2)))&&(((!(leI i2 j2))||(inB j2 (qs ys2)))&&((!(leI i2 j2))||(qv (φ ((qe ys2 a d),((qe ys2 j2 d),())))))))=true∧((leI i2 j2)&&(ltI (qp (φ ((qe ys2 a d),((qe ys2 j2 d),()))) (0,())).1 0))=t2∧(t2=true→i2≤j2)∧(t2=false→i2≤j2→le (qe ys2 j2 d) p):=by
   by_cases q:i2≤j2
   ·have pi:=hc.get d (i:=j2) (by omega) (by omega)
    obtain ⟨c,a1,a2⟩:=hφ.ans _ _ (by rw [hya]; exact pp:P (qe ys2 a d)) pi
    refine ⟨_,by simp only [leT q,ba,hc.inB (i:=j2) (by omega) (by omega),a1,qd,Bool.not_true,Bool.false_or,Bool.and_self],rfl,fun _=>q,fun ht _=> ?_⟩
    rw [leT q,a1,qg,Bool.true_and] at ht
    rw [hya] at a2
    exact Classical.byContradiction fun w=>by
     rw [ltT (a2.2 w)] at ht; cases ht
   ·exact ⟨false,by simp only [leF q,Bool.not_false,Bool.true_or,Bool.and_self],by simp only [leF q,Bool.false_and],(fun w=>by cases w),fun _ w=>absurd w q⟩
  simp only [u1,u2,cond_true]
  have e4:t2=true∨i2≤j2→qt .i64 j2 1=j2 - 1:=fun w=>by
   have:i2≤j2:=w.elim u3 id
   exact qQ (by omega) (by omega)
  cases t2 with
  |true=>
   have v1:=u3 rfl
   simp only [cond_true,e4 (.inl rfl)]
   exact hkh _ ⟨rfl,by simp only; omega⟩ (by simp only; omega)
  |false=>
   simp only [cond_false]
   by_cases q:j2<i2
   ·simp only [ltT q,cond_true]
    exact ⟨ys2,i2,rfl,hs,by omega,hi2b,hlo2⟩
   ·have v2:=u4 rfl (by omega)
    have e3:qB .i64 i2 1=i2+1:=qO (by omega) (by omega)
    simp only [ltF q,cond_false,hc.inB (i:=i2) (by omega) (by omega),hc.inB (i:=j2) (by omega) (by omega),Bool.and_self,cond_true,e3,e4 (.inr (by omega))]
    have g2:=qcJ d hc.len (i:=i2) (j:=j2) (by omega) (by omega) (by omega) (by omega)
    refine hih (swp d ys2 i2 j2,(i2+1,(j2 - 1,()))) ⟨hs.trans d (qbT d hc.len ha hb (by omega) (by omega) (by omega) (by omega)),by simp only; omega,by simp only; omega,by simp only; omega,?_,fun k k1 k2=> ?_⟩ (by simp only; omega)
    ·simp only
     rw [g2 a ha,if_neg (by omega),if_neg (by omega)]; exact hya
    ·simp only at k2⊢
     rw [g2 k (by omega)]
     by_cases hk:k=j2
     ·rw [if_pos hk]
      by_cases hij:i2=j2
      ·rw [hij]; exact v2
      ·omega
     ·rw [if_neg hk]
      by_cases hk2:k=i2
      ·rw [if_pos hk2]; exact v2
      ·rw [if_neg hk2]; exact hlo2 k k1 (by omega)
theorem qj3 (hφ:Cmp P φ le) {G b1 b2:Bool} {u v:α} (h1:G=true→b1=true) (h2:G=true→b2=true) (hP:G=true→P u∧P v):
  (((!G)||b1)&&(((!G)||b2)&&((!G)||qv (φ (u,(v,()))))))=true∧(G=true→(ltI (qp (φ (u,(v,()))) (0,())).1 0=true→¬le v u)∧(ltI (qp (φ (u,(v,()))) (0,())).1 0=false→le v u)):=by
 cases G with
 |false=>exact ⟨rfl,fun q=>by cases q⟩
 |true=>
  obtain ⟨pu,pv⟩:=hP rfl
  obtain ⟨c,a1,a2⟩:=hφ.ans u v pu pv
  rw [h1 rfl,h2 rfl,a1]
  refine ⟨by simp only [qd,Bool.not_true,Bool.false_or,Bool.and_self],fun _=>⟨fun q=> ?_,fun q=> ?_⟩⟩
  ·rw [qg] at q
   by_cases hc:c<0
   ·exact a2.1 hc
   ·rw [ltF hc] at q; cases q
  ·rw [qg] at q
   by_cases hc:c<0
   ·rw [ltT hc] at q; cases q
   ·exact Classical.byContradiction fun w=>hc (a2.2 w)
theorem Cmp.flip (hφ:Cmp P φ le) {u v:α} (pu:P u) (pv:P v) (h:¬le v u):le u v:=(hφ.tot u v pu pv).elim id fun q=>absurd q h
structure qox (d:α) (n:Nat) (le:α→α→Prop) (a b:Int) (xs:List α) (p:α) (ys:List α) (i j:Int):Prop where
 seg:Seg d n a b xs ys
 ai:a<i
 ij:i≤j+1
 jb:j<b
 at_:qe ys a d=p
 lo:∀k,a<k→k<i→le (qe ys k d) p
 hi:∀k,j<k→k<b→le p (qe ys k d)
def qlV (d:α) (n:Nat) (le:α→α→Prop) (a b:Int) (xs:List α) (r:Option ((Int×(Bool×Unit))×(List α×Unit))):Prop:=∃out mid fl,r=some ((mid,(fl,())),(out,()))∧Seg d n a b xs out∧a≤mid∧mid<b∧(∀k,a≤k→k<mid→le (qe out k d) (qe out mid d))∧∀k,mid<k→k<b→le (qe out mid d) (qe out k d)
theorem qox.fin {a b:Int} {xs ys:List α} {p:α} {i j:Int} (h:qox d n le a b xs p ys i j) (hc:Ck P n ys) (ha:0≤a) (hb:b≤(n:Int)) (hij:j<i) (fl:Bool):qlV d n le a b xs (some ((j,(fl,())),(swp d ys j a,()))):=by
 have h1:=h.ai; have h2:=h.ij; have h3:=h.jb
 have g:=qcJ d hc.len (i:=j) (j:=a) (by omega) (by omega) (by omega) (by omega)
 have gj:qe (swp d ys j a) j d=p:=by
  rw [g j (by omega)]
  by_cases q:j=a
  ·rw [if_pos q,q]; exact h.at_
  ·rw [if_neg q,if_pos rfl]; exact h.at_
 refine ⟨_,j,fl,rfl,h.seg.trans d (qbT d hc.len ha hb (by omega) (by omega) (by omega) (by omega)),by omega,by omega,fun k k1 k2=> ?_,fun k k1 k2=> ?_⟩
 ·rw [gj,g k (by omega)]
  by_cases q:k=a
  ·rw [if_pos q]; exact h.lo j (by omega) (by omega)
  ·rw [if_neg q,if_neg (by omega)]; exact h.lo k (by omega) (by omega)
 ·rw [gj,g k (by omega),if_neg (by omega),if_neg (by omega)]; exact h.hi k k1 k2
theorem qox.swap {a b:Int} {xs ys:List α} {p:α} {i j:Int} (h:qox d n le a b xs p ys i j) (hc:Ck P n ys) (ha:0≤a) (hb:b≤(n:Int)) (hij:i<j) (hj:le (qe ys j d) p) (hi:le p (qe ys i d)):qox d n le a b xs p (swp d ys i j) (i+1) (j - 1):=by
 have h1:=h.ai; have h2:=h.ij; have h3:=h.jb
 have g:=qcJ d hc.len (i:=i) (j:=j) (by omega) (by omega) (by omega) (by omega)
 refine ⟨h.seg.trans d (qbT d hc.len ha hb (by omega) (by omega) (by omega) (by omega)),by omega,by omega,by omega,?_,fun k k1 k2=> ?_,fun k k1 k2=> ?_⟩
 ·rw [g a ha,if_neg (by omega),if_neg (by omega)]; exact h.at_
 ·rw [g k (by omega),if_neg (by omega)]
  by_cases q:k=i
  ·rw [if_pos q]; exact hj
  ·rw [if_neg q]; exact h.lo k k1 (by omega)
 ·rw [g k (by omega)]
  by_cases q:k=j
  ·rw [if_pos q]; exact hi
  ·rw [if_neg q,if_neg (by omega)]; exact h.hi k (by omega) k2
theorem qot (hφ:Cmp P φ le) (hn:n≤1099511627776) (hN:n+1<N) {xs:List α} (h:Ck P n xs) {a b pv:Int} (ha:0≤a) (hpa:a≤pv) (hpb:pv<b) (hb:b≤(n:Int)):qlV d n le a b xs (qdQ d N (xs,(a,(b,(pv,(φ,())))))):=by
 have e1:qt .i64 b 1=b - 1:=qQ (by omega) (by omega)
 have e2:qB .i64 a 1=a+1:=qO (by omega) (by omega)
 have pp:=h.get d (i:=pv) (by omega) (by omega)
 simp only [qdQ,qD,e1,e2,h.inB (i:=a) (by omega) (by omega),h.inB (i:=pv) (by omega) (by omega),qbI,Bool.and_self,cond_true]
 have g:=qcJ d h.len (i:=a) (j:=pv) (by omega) (by omega) (by omega) (by omega)
 have ini:qaG (qaG xs a (qe xs pv d)) pv (qe xs a d)=swp d xs a pv:=rfl
 have ga:qe (swp d xs a pv) a d=qe xs pv d:=by
  rw [g a ha]
  by_cases q:a=pv
  ·rw [if_pos q,q]
  ·rw [if_neg q,if_pos rfl]
 rw [ini]
 obtain ⟨p,hp⟩:∃p,qe xs pv d=p:=⟨_,rfl⟩
 rw [hp] at pp ga
 have hs0:=qbT d h.len ha hb (i:=a) (j:=pv) (by omega) (by omega) hpa hpb
 have hc0:=hs0.ck d h
 refine qP (S:=List α×(Int×Unit)) (fun q=>(b - q.2.1).toNat) (fun q=>q.1=swp d xs a pv∧a<q.2.1∧q.2.1≤b∧∀k,a<k→k<q.2.1→le (qe (swp d xs a pv) k d) p) (qlV d n le a b xs) ?_ N _ ⟨rfl,by simp only; omega,by simp only; omega,fun k k1 k2=>by simp only at k2; omega⟩ (by simp only; omega)
 rintro ih ⟨ys,i,⟨⟩⟩ ⟨hy,hi,hib,hlo⟩ hih
 simp only at hy hi hib hlo hih⊢
 subst hy
 generalize swp d xs a pv=ys at *
 have ba:=hc0.inB (i:=a) (by omega) (by omega)
 obtain ⟨w1,w2⟩:=qj3 hφ (G:=leI i (b - 1)) (b1:=inB i (qs ys)) (b2:=inB a (qs ys)) (u:=qe ys i d) (v:=qe ys a d) (fun q=>by
   have:i≤b - 1:=by rw [qaT] at q; exact of_decide_eq_true q
   exact hc0.inB (by omega) (by omega)) (fun _=>ba) (fun q=>by
   have:i≤b - 1:=by rw [qaT] at q; exact of_decide_eq_true q
   exact ⟨hc0.get d (by omega) (by omega),by rw [ga]; exact pp⟩)
 simp only [w1,cond_true]
 by_cases q1:(leI i (b - 1)&&ltI (qp (φ (qe ys i d,(qe ys a d,()))) (0,())).1 0)=true
 ·simp only [q1,cond_true]
  simp only [Bool.and_eq_true] at q1
  have:i≤b - 1:=by have:=q1.1; rw [qaT] at this; exact of_decide_eq_true this
  have e3:qB .i64 i 1=i+1:=qO (by omega) (by omega)
  have hle:=(w2 q1.1).1 q1.2
  rw [ga] at hle
  rw [e3]
  exact hih _ ⟨rfl,by simp only; omega,by simp only; omega,fun k k1 k2=>by
   by_cases hk:k=i
   ·rw [hk]; exact hφ.flip (hc0.get d (by omega) (by omega)) pp hle
   ·exact hlo k k1 (by simp only at k2; omega)⟩ (by simp only; omega)
 have q1f:(leI i (b - 1)&&ltI (qp (φ (qe ys i d,(qe ys a d,()))) (0,())).1 0)=false:=by simpa using q1
 have hi1:i≤b - 1→le p (qe ys i d):=fun w=>by
  rw [leT w,Bool.true_and] at q1f
  have:=(w2 (leT w)).2 q1f
  rwa [ga] at this
 simp only [q1f,cond_false]
 refine qP (S:=List α×(Int×Unit)) (fun q=>(q.2.1+1 - i).toNat) (fun q=>q.1=ys∧i≤q.2.1+1∧q.2.1<b∧∀k,q.2.1<k→k<b→le p (qe ys k d)) (qlV d n le a b xs) ?_ N _ ⟨rfl,by simp only; omega,by simp only; omega,fun k k1 k2=>by simp only at k1; omega⟩ (by simp only; omega)
 rintro jh ⟨ys',j,⟨⟩⟩ ⟨hy',hj1,hj2,hhi⟩ hjh
 simp only at hy' hj1 hj2 hhi hjh⊢
 subst hy'
 obtain ⟨u1,u2⟩:=qj3 hφ (G:=leI i j) (b1:=inB j (qs ys')) (b2:=inB a (qs ys')) (u:=qe ys' j d) (v:=qe ys' a d) (fun q=>by
   have:i≤j:=by rw [qaT] at q; exact of_decide_eq_true q
   exact hc0.inB (by omega) (by omega)) (fun _=>ba) (fun q=>by
   have:i≤j:=by rw [qaT] at q; exact of_decide_eq_true q
   exact ⟨hc0.get d (by omega) (by omega),by rw [ga]; exact pp⟩)
 simp only [u1,cond_true]
 by_cases q2:(leI i j&& !ltI (qp (φ (qe ys' j d,(qe ys' a d,()))) (0,())).1 0)=true
 ·simp only [q2,cond_true]
  simp only [Bool.and_eq_true,Bool.not_eq_true'] at q2
  have:i≤j:=by have:=q2.1; rw [qaT] at this; exact of_decide_eq_true this
  have e3:qt .i64 j 1=j - 1:=qQ (by omega) (by omega)
  have hle:=(u2 q2.1).2 q2.2
  rw [ga] at hle
  rw [e3]
  exact hjh _ ⟨rfl,by simp only; omega,by simp only; omega,fun k k1 k2=>by
   by_cases hk:k=j
   ·rw [hk]; exact hle
   ·exact hhi k (by simp only at k1; omega) k2⟩ (by simp only; omega)
 have q2f:(leI i j&& !ltI (qp (φ (qe ys' j d,(qe ys' a d,()))) (0,())).1 0)=false:=by simpa using q2
 simp only [q2f,cond_false]
 have hinv:qox d n le a b xs p ys' i j:=⟨hs0,hi,hj1,hj2,ga,hlo,hhi⟩
 by_cases q3:j<i
 ·simp only [ltT q3,cond_true,ba,hc0.inB (i:=j) (by omega) (by omega),Bool.and_self]
  exact hinv.fin d hc0 ha hb q3 true
 simp only [ltF q3,cond_false,hc0.inB (i:=i) (by omega) (by omega),hc0.inB (i:=j) (by omega) (by omega),Bool.and_self,cond_true]
 have hij:i≤j:=by omega
 have ltj:ltI (qp (φ (qe ys' j d,(qe ys' a d,()))) (0,())).1 0=true:=by
  rw [leT hij,Bool.true_and] at q2f
  simpa using q2f
 have nlj:=(u2 (leT hij)).1 ltj
 rw [ga] at nlj
 have hjp:=hφ.flip (hc0.get d (i:=j) (by omega) (by omega)) pp nlj
 have hpi:=hi1 (by omega)
 have hne:i≠j:=fun w=>nlj (by rw [←w]; exact hpi)
 have e3:qB .i64 i 1=i+1:=qO (by omega) (by omega)
 have e4:qt .i64 j 1=j - 1:=qQ (by omega) (by omega)
 rw [e3,e4]
 have hinv2:=hinv.swap d hc0 ha hb (by omega) hjp hpi
 refine qP (S:=List α×(Int×(Int×Unit))) (fun q=>(q.2.2.1+1 - q.2.1).toNat) (fun q=>qox d n le a b xs p q.1 q.2.1 q.2.2.1) (qlV d n le a b xs) ?_ N (swp d ys' i j,(i+1,(j - 1,()))) hinv2 (by simp only; omega)
 clear hinv2 hinv hne hpi hjp nlj ltj hij q3 q2f q2 u1 u2 hhi hj1 hj2 hjh hi1 q1f q1 w1 w2 hlo hi hib hih e3 e4 jh ih
 rintro ih ⟨zs,i,j,⟨⟩⟩ hz hih
 simp only at hz hih⊢
 have hzc:=hz.seg.ck d h
 have za:=hz.at_
 have z1:=hz.ai; have z2:=hz.ij; have z3:=hz.jb
 have ba:=hzc.inB (i:=a) (by omega) (by omega)
 refine qP (S:=List α×(Int×(Int×Unit))) (fun q=>(q.2.2.1+1 - q.2.1).toNat) (fun q=>q.1=zs∧q.2.2.1=j∧i≤q.2.1∧qox d n le a b xs p zs q.2.1 j) (qlV d n le a b xs) ?_ N _ ⟨rfl,rfl,Int.le_refl _,hz⟩ (by simp only; omega)
 rintro jh ⟨zs',i2,j',⟨⟩⟩ ⟨hy',hj',hi2,hz2⟩ hjh
 simp only at hy' hj' hi2 hz2 hjh⊢
 subst hy'
 subst hj'
 have y1:=hz2.ai; have y2:=hz2.ij
 obtain ⟨w1,w2⟩:=qj3 hφ (G:=leI i2 j') (b1:=inB i2 (qs zs')) (b2:=inB a (qs zs')) (u:=qe zs' i2 d) (v:=qe zs' a d) (fun q=>by
   have:i2≤j':=by rw [qaT] at q; exact of_decide_eq_true q
   exact hzc.inB (by omega) (by omega)) (fun _=>ba) (fun q=>by
   have:i2≤j':=by rw [qaT] at q; exact of_decide_eq_true q
   exact ⟨hzc.get d (by omega) (by omega),by rw [za]; exact pp⟩)
 simp only [w1,cond_true]
 by_cases q1:(leI i2 j'&&ltI (qp (φ (qe zs' i2 d,(qe zs' a d,()))) (0,())).1 0)=true
 ·simp only [q1,cond_true]
  simp only [Bool.and_eq_true] at q1
  have:i2≤j':=by have:=q1.1; rw [qaT] at this; exact of_decide_eq_true this
  have e3:qB .i64 i2 1=i2+1:=qO (by omega) (by omega)
  have hle:=(w2 q1.1).1 q1.2
  rw [za] at hle
  rw [e3]
  have hnew:qox d n le a b xs p zs' (i2+1) j':=⟨hz2.seg,by omega,by omega,hz2.jb,za,fun k k1 k2=>by
   by_cases hk:k=i2
   ·rw [hk]; exact hφ.flip (hzc.get d (by omega) (by omega)) pp hle
   ·exact hz2.lo k k1 (by omega),hz2.hi⟩
  exact hjh _ ⟨rfl,rfl,by simp only; omega,hnew⟩ (by simp only; omega)
 have q1f:(leI i2 j'&&ltI (qp (φ (qe zs' i2 d,(qe zs' a d,()))) (0,())).1 0)=false:=by simpa using q1
 have hi1:i2≤j'→le p (qe zs' i2 d):=fun w=>by
  rw [leT w,Bool.true_and] at q1f
  have:=(w2 (leT w)).2 q1f
  rwa [za] at this
 simp only [q1f,cond_false]
 refine qP (S:=List α×(Int×Unit)) (fun q=>(q.2.1+1 - i2).toNat) (fun q=>q.1=zs'∧q.2.1≤j'∧qox d n le a b xs p zs' i2 q.2.1) (qlV d n le a b xs) ?_ N _ ⟨rfl,by simp only; omega,hz2⟩ (by simp only; omega)
 rintro kh ⟨zs2,j2,⟨⟩⟩ ⟨hy2,hj2,hz3⟩ hkh
 simp only at hy2 hj2 hz3 hkh⊢
 subst hy2
 have x2:=hz3.ij; have x3:=hz3.jb
 obtain ⟨u1,u2⟩:=qj3 hφ (G:=leI i2 j2) (b1:=inB j2 (qs zs2)) (b2:=inB a (qs zs2)) (u:=qe zs2 j2 d) (v:=qe zs2 a d) (fun q=>by
   have:i2≤j2:=by rw [qaT] at q; exact of_decide_eq_true q
   exact hzc.inB (by omega) (by omega)) (fun _=>ba) (fun q=>by
   have:i2≤j2:=by rw [qaT] at q; exact of_decide_eq_true q
   exact ⟨hzc.get d (by omega) (by omega),by rw [za]; exact pp⟩)
 simp only [u1,cond_true]
 by_cases q2:(leI i2 j2&& !ltI (qp (φ (qe zs2 j2 d,(qe zs2 a d,()))) (0,())).1 0)=true
 ·simp only [q2,cond_true]
  simp only [Bool.and_eq_true,Bool.not_eq_true'] at q2
  have:i2≤j2:=by have:=q2.1; rw [qaT] at this; exact of_decide_eq_true this
  have e3:qt .i64 j2 1=j2 - 1:=qQ (by omega) (by omega)
  have hle:=(u2 q2.1).2 q2.2
  rw [za] at hle
  rw [e3]
  have hnew:qox d n le a b xs p zs2 i2 (j2 - 1):=⟨hz3.seg,hz3.ai,by omega,by omega,za,hz3.lo,fun k k1 k2=>by
   by_cases hk:k=j2
   ·rw [hk]; exact hle
   ·exact hz3.hi k (by omega) k2⟩
  exact hkh _ ⟨rfl,by simp only; omega,hnew⟩ (by simp only; omega)
 have q2f:(leI i2 j2&& !ltI (qp (φ (qe zs2 j2 d,(qe zs2 a d,()))) (0,())).1 0)=false:=by simpa using q2
 simp only [q2f,cond_false]
 by_cases q3:j2<i2
 ·simp only [ltT q3,cond_true,ba,hzc.inB (i:=j2) (by omega) (by omega),Bool.and_self]
  exact hz3.fin d hzc ha hb q3 false
 simp only [ltF q3,cond_false,hzc.inB (i:=i2) (by omega) (by omega),hzc.inB (i:=j2) (by omega) (by omega),Bool.and_self,cond_true]
 have hij:i2≤j2:=by omega
 have ltj:ltI (qp (φ (qe zs2 j2 d,(qe zs2 a d,()))) (0,())).1 0=true:=by
  rw [leT hij,Bool.true_and] at q2f
  simpa using q2f
 have nlj:=(u2 (leT hij)).1 ltj
 rw [za] at nlj
 have hjp:=hφ.flip (hzc.get d (i:=j2) (by omega) (by omega)) pp nlj
 have hpi:=hi1 (by omega)
 have hne:i2≠j2:=fun w=>nlj (by rw [←w]; exact hpi)
 have e3:qB .i64 i2 1=i2+1:=qO (by omega) (by omega)
 have e4:qt .i64 j2 1=j2 - 1:=qQ (by omega) (by omega)
 rw [e3,e4]
 exact hih (swp d zs2 i2 j2,(i2+1,(j2 - 1,()))) (hz3.swap d hzc ha hb (by omega) hjp hpi) (by simp only; omega)
theorem qjQ (hφ:Cmp P φ le) {ys:List α} (h:Ck P n ys) {i j s:Int} (i0:0≤i) (i1:i<(n:Int)) (j0:0≤j) (j1:j<(n:Int)):∃p q s',qff d N (ys,(i,(j,(s,(φ,())))))=some ((p,(q,())),(ys,(s',())))∧((p=i∧q=j)∨(p=j∧q=i)):=by
 obtain ⟨c,a1,a2⟩:=hφ.ans _ _ (h.get d j0 j1) (h.get d i0 i1)
 simp only [qff,h.inB j0 j1,h.inB i0 i1,a1,qd,qg,Bool.and_self,cond_true]
 cases ltI c 0 with
 |true=>exact ⟨_,_,_,rfl,.inr ⟨rfl,rfl⟩⟩
 |false=>exact ⟨_,_,_,rfl,.inl ⟨rfl,rfl⟩⟩
theorem qh9 (hφ:Cmp P φ le) {ys:List α} (h:Ck P n ys) {i j k s:Int} (i0:0≤i) (i1:i<(n:Int)) (j0:0≤j) (j1:j<(n:Int)) (k0:0≤k) (k1:k<(n:Int)):∃m s',qeo d N (ys,(i,(j,(k,(s,(φ,()))))))=some ((m,()),(ys,(s',())))∧(m=i∨m=j∨m=k):=by
 obtain ⟨p1,q1,s1,e1,c1⟩:=qjQ d (N:=N) hφ h (s:=s) i0 i1 j0 j1
 obtain ⟨p2,q2,s2,e2,c2⟩:=qjQ d (N:=N) hφ h (i:=q1) (j:=k) (s:=s1) (by omega) (by omega) k0 k1
 obtain ⟨p3,q3,s3,e3,c3⟩:=qjQ d (N:=N) hφ h (i:=p1) (j:=p2) (s:=s2) (by omega) (by omega) (by omega) (by omega)
 simp only [qeo,qD,e1,e2,e3,qd,qg,cond_true]
 exact ⟨q3,s3,rfl,by omega⟩
theorem qis (hφ:Cmp P φ le) (hn:n≤1099511627776) {ys:List α} (h:Ck P n ys) {i s:Int} (i0:1≤i) (i1:i+1<(n:Int)):∃m s',qi d N (ys,(i,(s,(φ,()))))=some ((m,()),(ys,(s',())))∧i - 1≤m∧m≤i+1:=by
 have e1:qt .i64 i 1=i - 1:=qQ (by omega) (by omega)
 have e2:qB .i64 i 1=i+1:=qO (by omega) (by omega)
 obtain ⟨m,s',e3,c⟩:=qh9 d (N:=N) hφ h (i:=i - 1) (j:=i) (k:=i+1) (s:=s) (by omega) (by omega) (by omega) (by omega) (by omega) (by omega)
 simp only [qi,e1,e2,e3,qd,qg,cond_true]
 exact ⟨m,s',rfl,by omega,by omega⟩
theorem qn3 (hφ:Cmp P φ le) (hn:n≤1099511627776) {ys:List α} (h:Ck P n ys) {a b:Int} (ha:0≤a) (hab:a+8≤b) (hb:b≤(n:Int)):∃m t,qd0 d N (ys,(a,(b,(φ,()))))=some ((m,(t,())),(ys,()))∧a≤m∧m<b:=by
 have e1:qt .i64 b a=b - a:=qQ (by omega) (by omega)
 have e2:qkP .i64 (b - a) 4=(b - a) / 4:=by rw [qfU,Int.tdiv_eq_ediv_of_nonneg (by omega),qbj (by omega) (by omega)]
 have e3:qh8 .i64 ((b - a) / 4) 1=(b - a) / 4:=by rw [qb1,qbj (by omega) (by omega)]; omega
 have e4:qh8 .i64 ((b - a) / 4) 2=(b - a) / 4 * 2:=by rw [qb1,qbj (by omega) (by omega)]
 have e5:qh8 .i64 ((b - a) / 4) 3=(b - a) / 4 * 3:=by rw [qb1,qbj (by omega) (by omega)]
 have e6:qB .i64 a ((b - a) / 4)=a+(b - a) / 4:=qO (by omega) (by omega)
 have e7:qB .i64 a ((b - a) / 4 * 2)=a+(b - a) / 4 * 2:=qO (by omega) (by omega)
 have e8:qB .i64 a ((b - a) / 4 * 3)=a+(b - a) / 4 * 3:=qO (by omega) (by omega)
 simp only [qd0,qD,e1,e2,e3,e4,e5,e6,e7,e8,neT (show ¬(4:Int)=0 by omega),leT (show (8:Int)≤b - a by omega),cond_true]
 have fin:∀(m s:Int),a≤m→m<b→∃m' t,(bif eqI s 0 then some ((m,((1:Int),())),(ys,())) else (bif eqI s 12 then some ((m,((2:Int),())),(ys,())) else some ((m,((0:Int),())),(ys,()))))=some ((m',(t,())),(ys,()))∧a≤m'∧m'<b:=fun m s h1 h2=>by
  cases eqI s 0 with
  |true=>exact ⟨_,_,rfl,h1,h2⟩
  |false=>
   cases eqI s 12 with
   |true=>exact ⟨_,_,rfl,h1,h2⟩
   |false=>exact ⟨_,_,rfl,h1,h2⟩
 generalize hq:(b - a) / 4=q at *
 by_cases h50:50≤b - a
 ·obtain ⟨m1,s1,f1,g1,g1'⟩:=qis d (N:=N) hφ hn h (i:=a+q) (s:=0) (by omega) (by omega)
  obtain ⟨m2,s2,f2,g2,g2'⟩:=qis d (N:=N) hφ hn h (i:=a+q * 2) (s:=s1) (by omega) (by omega)
  obtain ⟨m3,s3,f3,g3,g3'⟩:=qis d (N:=N) hφ hn h (i:=a+q * 3) (s:=s2) (by omega) (by omega)
  obtain ⟨m4,s4,f4,g4⟩:=qh9 d (N:=N) hφ h (i:=m1) (j:=m2) (k:=m3) (s:=s3) (by omega) (by omega) (by omega) (by omega) (by omega) (by omega)
  simp only [leT h50,cond_true,f1,f2,f3,f4,qd,qg,Bool.and_self]
  exact fin m4 s4 (by omega) (by omega)
 ·obtain ⟨m4,s4,f4,g4⟩:=qh9 d (N:=N) hφ h (i:=a+q) (j:=a+q * 2) (k:=a+q * 3) (s:=0) (by omega) (by omega) (by omega) (by omega) (by omega) (by omega)
  simp only [leF h50,cond_true,cond_false,f4,qd,qg,Bool.and_self]
  exact fin m4 s4 (by omega) (by omega)
def qnj (L:(Int×Unit)→Option ((Int×Unit)×Unit)):Prop:=∀k:Nat,k≤1099511627776→∃e:Nat,L ((k:Int),())=some (((e:Int),()),())∧e≤41∧(1≤k→2^e≤2 * k)
theorem qq1 {x m:Int} (h0:0≤m) (h1:m<18446744073709551616):0≤qpp .u64 x m∧qpp .u64 x m≤m:=by
 have hm:(BitVec.ofInt 64 m).toNat=m.toNat:=by rw [BitVec.toNat_ofInt,show ((2^64:Nat):Int)=18446744073709551616 by decide,Int.emod_eq_of_lt h0 h1]
 have hle:(BitVec.ofInt 64 x&&& BitVec.ofInt 64 m).toNat≤m.toNat:=by rw [BitVec.toNat_and,hm]; exact Nat.and_le_right
 rw [qh0]
 show 0≤IntKind.wrap .u64 (((BitVec.ofInt 64 x&&& BitVec.ofInt 64 m).toNat:Nat):Int)∧IntKind.wrap .u64 (((BitVec.ofInt 64 x&&& BitVec.ofInt 64 m).toNat:Nat):Int)≤m
 rw [qdP (by omega) (by omega)]
 omega
theorem qpe {L:(Int×Unit)→Option ((Int×Unit)×Unit)} (hL:qnj L) (hn:n≤1099511627776) (hN:n+10<N) {xs:List α} (h:Ck P n xs) {a b:Int} (ha:0≤a) (hab:a+8≤b) (hb:b≤(n:Int)):∃out,qeq d N L (xs,(a,(b,(φ,()))))=some ((),(out,()))∧Seg d n a b xs out:=by
 have e1:qt .i64 b a=b - a:=qQ (by omega) (by omega)
 have e2:qkP .i64 (b - a) 4=(b - a) / 4:=by rw [qfU,Int.tdiv_eq_ediv_of_nonneg (by omega),qbj (by omega) (by omega)]
 have e4:qh8 .i64 ((b - a) / 4) 2=(b - a) / 4 * 2:=by rw [qb1,qbj (by omega) (by omega)]
 have e7:qB .i64 a ((b - a) / 4 * 2)=a+(b - a) / 4 * 2:=qO (by omega) (by omega)
 have e8:qt .i64 (a+(b - a) / 4 * 2) 1=a+(b - a) / 4 * 2 - 1:=qQ (by omega) (by omega)
 have e9:qB .i64 (a+(b - a) / 4 * 2) 1=a+(b - a) / 4 * 2+1:=qO (by omega) (by omega)
 have eA:qbd .u64 (b - a)=b - a:=by rw [qdh,qdP (by omega) (by omega)]
 obtain ⟨e,l1,l2,l3⟩:=hL (b - a).toNat (by omega)
 have lk:((b - a).toNat:Int)=b - a:=by omega
 rw [lk] at l1
 have l4:=l3 (by omega)
 have hpow:(1:Nat)≤2^e:=Nat.one_le_two_pow
 have eB:qg2 .u64 1 (e:Int)=((2^e:Nat):Int):=by
  rw [qhX]
  have hm:min (e:Int).toNat IntKind.u64.bits=e:=by
   show min (e:Int).toNat 64=e
   omega
  rw [hm,Int.one_mul,show ((2:Int)^e)=((2^e:Nat):Int) by rw [Int.natCast_pow]; rfl,qdP (by omega) (by omega)]
 have eC:qt .u64 ((2^e:Nat):Int) 1=((2^e:Nat):Int) - 1:=by rw [qd2,qdP (by omega) (by omega)]
 have hpw:qmV L (b - a,())=some ((((2^e:Nat):Int),()),()):=by
  simp only [qmV,eA,l1,qd,qg,leT (Int.natCast_nonneg e),Bool.and_self,cond_true,eB]
 simp only [qeq,qD,e1,e2,e4,e7,e8,e9,eA,neT (show ¬(4:Int)=0 by omega),leT (show (8:Int)≤b - a by omega),cond_true,hpw,qd,qg,eC]
 generalize hq:(b - a) / 4=q at *
 generalize hpp:(2^e:Nat)=pw at *
 refine qP (S:=List α×(Int×(Int×Unit))) (fun p=>(a+q * 2+2 - p.2.2.1).toNat) (fun p=>Seg d n a b xs p.1∧a+q * 2 - 1≤p.2.2.1) (fun r=>∃out,r=some ((),(out,()))∧Seg d n a b xs out) ?_ N _ ⟨.refl d _ _ xs,by simp only; omega⟩ (by simp only; omega)
 rintro ih ⟨ys,r,idx,⟨⟩⟩ ⟨hs,hi⟩ hih
 simp only at hs hi hih⊢
 have hc:=hs.ck d h
 by_cases hx:idx≤a+q * 2+1
 ·have hnx:∃v,qkL (r,())=some ((v,()),(v,())):=by
   simp only [qkL,leT (show (0:Int)≤13 by omega),leT (show (0:Int)≤7 by omega),leT (show (0:Int)≤17 by omega),cond_true]
   exact ⟨_,rfl⟩
  obtain ⟨v,hv⟩:=hnx
  obtain ⟨b1,b2⟩:=qq1 (x:=v) (m:=(pw:Int) - 1) (by omega) (by omega)
  simp only [leT hx,cond_true,hv,qd,qg]
  generalize qpp .u64 v ((pw:Int) - 1)=w at *
  have ew:qbd .i64 w=w:=ql5 (by omega) (by omega)
  have es:qt .i64 w (b - a)=w - (b - a):=qQ (by omega) (by omega)
  rw [ew,es]
  obtain ⟨o,ho,o0,o1⟩:∃o,(bif leI (b - a) w then w - (b - a) else w)=o∧0≤o∧o<b - a:=by
   by_cases hw:b - a≤w
   ·exact ⟨_,by rw [leT hw,cond_true],by omega,by omega⟩
   ·exact ⟨_,by rw [leF hw,cond_false],by omega,by omega⟩
  have ea:qB .i64 a o=a+o:=qO (by omega) (by omega)
  have ei:qB .i64 idx 1=idx+1:=qO (by omega) (by omega)
  simp only [ho,ea,ei,qbI,hc.inB (i:=idx) (by omega) (by omega),hc.inB (i:=a+o) (by omega) (by omega),Bool.and_self,cond_true]
  exact hih (swp d ys idx (a+o),(v,(idx+1,()))) ⟨hs.trans d (qbT d hc.len ha hb (by omega) (by omega) (by omega) (by omega)),by simp only; omega⟩ (by simp only; omega)
 ·simp only [leF hx,cond_false]
  exact ⟨ys,rfl,hs⟩
def Pre (d:α) (le:α→α→Prop) (a b:Int) (xs:List α):Prop:=0<a→∀k,a≤k→k<b→le (qe xs (a - 1) d) (qe xs k d)
theorem Seg.pre {a b:Int} {xs ys:List α} (h:Seg d n a b xs ys) (hb:b≤(n:Int)) (hp:Pre d le a b xs):Pre d le a b ys:=fun a0 k k1 k2=>by
 obtain ⟨m,m1,m2,m3⟩:=h.inn k k1 k2
 rw [h.out (a - 1) (by omega) (by omega) (by omega),m3]
 exact hp a0 m m1 m2
theorem qgk (hφ:Cmp P φ le) {u v:α} (pu:P u) (pv:P v):∃c,φ (u,(v,()))=some (c,())∧((c<0)∧¬le v u∧le u v∨¬(c<0)∧le v u):=by
 obtain ⟨c,a1,a2⟩:=hφ.ans u v pu pv
 by_cases hc:c<0
 ·exact ⟨c,a1,.inl ⟨hc,a2.1 hc,hφ.flip pu pv (a2.1 hc)⟩⟩
 ·exact ⟨c,a1,.inr ⟨hc,Classical.byContradiction fun w=>hc (a2.2 w)⟩⟩
def shR {R:Type} (d:α) (N:Nat) (b:Int) (φ:(α×(α×Unit))→Option (Int×Unit)) (K:List α→Option R) (xs:List α) (j:Int):Option R:=
 qac (S:=List α×(Int×Unit)) (R:=R) N (fun ih7=>(fun p8=>(bif (ltI p8.2.1 b) then (bif ((inB p8.2.1 (qs p8.1))&&((inB (qt .i64 p8.2.1 1) (qs p8.1))&&(qv (φ ((qe p8.1 p8.2.1 d),((qe p8.1 (qt .i64 p8.2.1 1) d),())))))) then (bif (!(ltI (qp (φ ((qe p8.1 p8.2.1 d),((qe p8.1 (qt .i64 p8.2.1 1) d),()))) (0,())).1 0)) then K p8.1 else (bif ((inB (qt .i64 p8.2.1 1) (qs p8.1))&&((inB p8.2.1 (qs p8.1))&&((inB p8.2.1 (qs p8.1))&&(inB (qt .i64 p8.2.1 1) (qs (qaG p8.1 p8.2.1 (qe p8.1 (qt .i64 p8.2.1 1) d))))))) then (ih7 ((qaG (qaG p8.1 p8.2.1 (qe p8.1 (qt .i64 p8.2.1 1) d)) (qt .i64 p8.2.1 1) (qe p8.1 p8.2.1 d)),((qB .i64 p8.2.1 1),()))) else none)) else none) else K p8.1))) (xs,(j,()))
def shL {R:Type} (d:α) (N:Nat) (φ:(α×(α×Unit))→Option (Int×Unit)) (K:List α→Option R) (xs:List α) (j:Int):Option R:=
 qac (S:=List α×(Int×Unit)) (R:=R) N (fun ih5=>(fun p6=>(bif (leI 1 p6.2.1) then (bif ((inB p6.2.1 (qs p6.1))&&((inB (qt .i64 p6.2.1 1) (qs p6.1))&&(qv (φ ((qe p6.1 p6.2.1 d),((qe p6.1 (qt .i64 p6.2.1 1) d),())))))) then (bif (!(ltI (qp (φ ((qe p6.1 p6.2.1 d),((qe p6.1 (qt .i64 p6.2.1 1) d),()))) (0,())).1 0)) then K p6.1 else (bif ((inB (qt .i64 p6.2.1 1) (qs p6.1))&&((inB p6.2.1 (qs p6.1))&&((inB p6.2.1 (qs p6.1))&&(inB (qt .i64 p6.2.1 1) (qs (qaG p6.1 p6.2.1 (qe p6.1 (qt .i64 p6.2.1 1) d))))))) then (ih5 ((qaG (qaG p6.1 p6.2.1 (qe p6.1 (qt .i64 p6.2.1 1) d)) (qt .i64 p6.2.1 1) (qe p6.1 p6.2.1 d)),((qt .i64 p6.2.1 1),()))) else none)) else none) else K p6.1))) (xs,(j,()))
def pinR {R:Type} (d:α) (N:Nat) (b:Int) (φ:(α×(α×Unit))→Option (Int×Unit)) (i:Int) (K:List α→Option R) (ys:List α):Option R:=
 bif leI 2 (qt .i64 b i) then shR d N b φ K ys (qB .i64 i 1) else K ys
def pinT (d:α) (N:Nat) (a b i:Int) (φ:(α×(α×Unit))→Option (Int×Unit)) (K:List α→Option ((Bool×Unit)×(List α×Unit))) (ys:List α):Option ((Bool×Unit)×(List α×Unit)):=
 bif eqI i b then some ((true,()),(ys,())) else bif ltI (qt .i64 b a) 50 then some ((false,()),(ys,())) else
  bif ((inB (qt .i64 i 1) (qs ys))&&((inB i (qs ys))&&((inB i (qs ys))&&(inB (qt .i64 i 1) (qs (qaG ys i (qe ys (qt .i64 i 1) d))))))) then
   (bif leI 2 (qt .i64 i a) then shL d N φ (pinR d N b φ i K) (qaG (qaG ys i (qe ys (qt .i64 i 1) d)) (qt .i64 i 1) (qe ys i d)) (qt .i64 i 1)
    else pinR d N b φ i K (qaG (qaG ys i (qe ys (qt .i64 i 1) d)) (qt .i64 i 1) (qe ys i d))) else none
theorem qnV (x:List α×(Int×(Int×(((α×(α×Unit))→(Option (Int×Unit)))×Unit)))):qa9 d N x=
  qN (qB .i64 x.2.1 1) (fun y0=>qac (S:=(List α×(Int×(Int×Unit)))) (R:=((Bool×Unit)×(List α×Unit))) N (fun ih1=>(fun p2=>(bif (ltI p2.2.2.1 5) then
   (qac (S:=(List α×(Int×Unit))) (R:=((Bool×Unit)×(List α×Unit))) N (fun ih3=>(fun p4=>(bif (((!(ltI p4.2.1 x.2.2.1))||(inB p4.2.1 (qs p4.1)))&&(((!(ltI p4.2.1 x.2.2.1))||(inB (qt .i64 p4.2.1 1) (qs p4.1)))&&((!(ltI p4.2.1 x.2.2.1))||(qv (x.2.2.2.1 ((qe p4.1 p4.2.1 d),((qe p4.1 (qt .i64 p4.2.1 1) d),()))))))) then
    (bif ((ltI p4.2.1 x.2.2.1)&&(!(ltI (qp (x.2.2.2.1 ((qe p4.1 p4.2.1 d),((qe p4.1 (qt .i64 p4.2.1 1) d),()))) (0,())).1 0))) then (ih3 (p4.1,((qB .i64 p4.2.1 1),())))
     else pinT d N x.2.1 x.2.2.1 p4.2.1 x.2.2.2.1 (fun ys=>ih1 (ys,(p4.2.1,((qB .i64 p2.2.2.1 1),())))) p4.1) else none))) (p2.1,(p2.2.1,()))) else (some ((false,()),(p2.1,())))))) (x.1,(y0,(0,())))):=rfl
theorem shR_ok {R:Type} (hφ:Cmp P φ le) (hn:n≤1099511627776) (hN:n+1<N) {K:List α→Option R} (Q:Option R→Prop) {xs:List α} (h:Ck P n xs) {i b:Int} (i0:0≤i) (hb:b≤(n:Int)) (hK:∀ys,Seg d n i b xs ys→Q (K ys)):Q (shR d N b φ K xs (i+1)):=by
 refine qP (S:=List α×(Int×Unit)) (fun p=>(b - p.2.1).toNat) (fun p=>Seg d n i b xs p.1∧i+1≤p.2.1) Q ?_ N _ ⟨.refl d _ _ xs,by simp only; omega⟩ (by simp only; omega)
 rintro ih ⟨ys,j,⟨⟩⟩ ⟨hs,hj⟩ hih
 simp only at hs hj hih⊢
 have hc:=hs.ck d h
 by_cases q:j<b
 ·have e1:qt .i64 j 1=j - 1:=qQ (by omega) (by omega)
  have e2:qB .i64 j 1=j+1:=qO (by omega) (by omega)
  obtain ⟨c,a1,a2⟩:=qgk hφ (hc.get d (i:=j) (by omega) (by omega)) (hc.get d (i:=j - 1) (by omega) (by omega))
  simp only [ltT q,cond_true,e1,e2,hc.inB (i:=j) (by omega) (by omega),hc.inB (i:=j - 1) (by omega) (by omega),a1,qd,qg,Bool.and_self,qbI]
  rcases a2 with ⟨a3,-,-⟩|⟨a3,-⟩
  ·simp only [ltT a3,Bool.not_true,cond_false]
   exact hih (swp d ys j (j - 1),(j+1,())) ⟨hs.trans d (qbT d hc.len i0 hb (by omega) (by omega) (by omega) (by omega)),by simp only; omega⟩ (by simp only; omega)
  ·simp only [ltF a3,Bool.not_false,cond_true]
   exact hK ys hs
 ·simp only [ltF q,cond_false]
  exact hK ys hs
theorem qqV {R:Type} (hφ:Cmp P φ le) (hn:n≤1099511627776) (hN:n+1<N) {K:List α→Option R} (Q:Option R→Prop) {xs:List α} (h:Ck P n xs) {i b:Int} (i0:0≤i) (ib:i<b) (hb:b≤(n:Int)) (hK:∀ys,Seg d n i b xs ys→Q (K ys)):Q (pinR d N b φ i K xs):=by
 have e1:qt .i64 b i=b - i:=qQ (by omega) (by omega)
 have e2:qB .i64 i 1=i+1:=qO (by omega) (by omega)
 simp only [pinR,e1,e2]
 by_cases q:2≤b - i
 ·rw [leT q,cond_true]; exact shR_ok d hφ hn hN Q h i0 hb hK
 ·rw [leF q,cond_false]; exact hK xs (.refl d _ _ xs)
theorem shL_ok {R:Type} (hφ:Cmp P φ le) (hn:n≤1099511627776) (hN:n+1<N) {K:List α→Option R} (Q:Option R→Prop) {xs:List α} (h:Ck P n xs) {a i b:Int} (a0:0≤a) (ia:a+2≤i) (ib:i<b) (hb:b≤(n:Int)) (hp:Pre d le a b xs) (hs0:Srt d le a (i - 1) xs) (hK:∀ys,Seg d n a b xs ys→Srt d le a i ys→Q (K ys)):Q (shL d N φ K xs (i - 1)):=by
 refine qP (S:=List α×(Int×Unit)) (fun p=>(p.2.1).toNat) (fun p=>Seg d n a b xs p.1∧a≤p.2.1∧p.2.1≤i - 1∧∀x y,a≤x→x<y→y≤i - 1→y≠p.2.1→le (qe p.1 x d) (qe p.1 y d)) Q ?_ N _ ⟨.refl d _ _ xs,by simp only; omega,by simp only; omega,fun x y h1 h2 h3 h4=>hs0 x y h1 (by omega) (by simp only at h4⊢; omega)⟩ (by simp only; omega)
 rintro ih ⟨zs,j,⟨⟩⟩ ⟨hz,hj1,hj2,hord⟩ hih
 simp only at hz hj1 hj2 hord hih⊢
 have hzc:=hz.ck d h
 have hpz:=hz.pre d hb hp
 have fin:(a<j→le (qe zs (j - 1) d) (qe zs j d))→Srt d le a i zs:=fun hle x y h1 h2 h3=>by
  by_cases hxy:x=y
  ·subst hxy; exact hφ.refl (hzc.get d (by omega) (by omega))
  by_cases hyj:y=j
  ·subst hyj
   by_cases hx:x=y - 1
   ·rw [hx]; exact hle (by omega)
   ·exact hφ.trans _ _ _ (hzc.get d (by omega) (by omega)) (hzc.get d (i:=y - 1) (by omega) (by omega)) (hzc.get d (by omega) (by omega)) (hord x (y - 1) h1 (by omega) (by omega) (by omega)) (hle (by omega))
  ·exact hord x y h1 (by omega) (by omega) hyj
 by_cases hj0:1≤j
 ·have e1:qt .i64 j 1=j - 1:=qQ (by omega) (by omega)
  have pj:=hzc.get d (i:=j) (by omega) (by omega)
  have pk:=hzc.get d (i:=j - 1) (by omega) (by omega)
  obtain ⟨c,a1,a2⟩:=qgk hφ pj pk
  simp only [leT hj0,cond_true,e1,hzc.inB (i:=j) (by omega) (by omega),hzc.inB (i:=j - 1) (by omega) (by omega),a1,qd,qg,Bool.and_self,qbI]
  rcases a2 with ⟨a3,a4,hle⟩|⟨a3,a4⟩
  ·simp only [ltT a3,Bool.not_true,cond_false]
   have hja:a<j:=by
    by_cases w:a<j
    ·exact w
    ·have:j=a:=by omega
     subst this
     exact absurd (hpz (by omega) j (by omega) (by omega)) a4
   have g:=qcJ d hzc.len (i:=j) (j:=j - 1) (by omega) (by omega) (by omega) (by omega)
   refine hih (swp d zs j (j - 1),(j - 1,())) ⟨hz.trans d (qbT d hzc.len a0 hb (by omega) (by omega) (by omega) (by omega)),by simp only; omega,by simp only; omega,fun x y h1 h2 h3 h4=> ?_⟩ (by simp only; omega)
   simp only at h4⊢
   rw [g x (by omega),g y (by omega)]
   rw [if_neg h4]
   by_cases hy:y=j
   ·rw [if_pos hy]
    by_cases hx:x=j - 1
    ·rw [if_pos hx]; exact hle
    ·rw [if_neg hx,if_neg (by omega)]; exact hord x (j - 1) h1 (by omega) (by omega) (by omega)
   ·rw [if_neg hy]
    by_cases hx:x=j - 1
    ·rw [if_pos hx]; exact hord j y (by omega) (by omega) h3 hy
    ·rw [if_neg hx]
     by_cases hx2:x=j
     ·rw [if_pos hx2]; exact hord (j - 1) y (by omega) (by omega) h3 hy
     ·rw [if_neg hx2]; exact hord x y h1 h2 h3 hy
  ·simp only [ltF a3,Bool.not_false,cond_true]
   exact hK zs hz (fin fun _=>a4)
 ·simp only [leF hj0,cond_false]
  exact hK zs hz (fin fun w=>by omega)
def qg8 (d:α) (n:Nat) (le:α→α→Prop) (a b:Int) (xs:List α) (r:Option ((Bool×Unit)×(List α×Unit))):Prop:=∃fl out,r=some ((fl,()),(out,()))∧Seg d n a b xs out∧(fl=true→Srt d le a b out)
theorem qnP (hφ:Cmp P φ le) (hn:n≤1099511627776) (hN:n+10<N) {xs:List α} (h:Ck P n xs) {a b:Int} (ha:0≤a) (hab:a<b) (hb:b≤(n:Int)) (hp:Pre d le a b xs):qg8 d n le a b xs (qa9 d N (xs,(a,(b,(φ,()))))):=by
 have e1:qB .i64 a 1=a+1:=qO (by omega) (by omega)
 rw [qnV]
 simp only [qD,e1]
 refine qP (S:=List α×(Int×(Int×Unit))) (fun p=>(5 - p.2.2.1).toNat) (fun p=>Seg d n a b xs p.1∧a+1≤p.2.1∧p.2.1≤b∧0≤p.2.2.1∧Srt d le a p.2.1 p.1) (qg8 d n le a b xs) ?_ N _ ⟨.refl d _ _ xs,by simp only; omega,by simp only; omega,by simp only; omega,fun i j h1 h2 h3=>by
  simp only at h3
  have:i=j:=by omega
  subst this
  exact hφ.refl (h.get d (by omega) (by omega))⟩ (by simp only; omega)
 rintro ih ⟨ys,i,c,⟨⟩⟩ ⟨hs,hi,hib,hc0,hsrt⟩ hih
 simp only at hs hi hib hc0 hsrt hih⊢
 by_cases hc5:c<5
 ·have ec:qB .i64 c 1=c+1:=qO (by omega) (by omega)
  simp only [ltT hc5,cond_true,ec]
  have hcy:=hs.ck d h
  refine qP (S:=List α×(Int×Unit)) (fun p=>(b - p.2.1).toNat) (fun p=>p.1=ys∧i≤p.2.1∧p.2.1≤b∧Srt d le a p.2.1 ys) (qg8 d n le a b xs) ?_ N _ ⟨rfl,by simp only; omega,by simp only; omega,hsrt⟩ (by simp only; omega)
  rintro jh ⟨ys',j,⟨⟩⟩ ⟨hy,hj1,hj2,hso⟩ hjh
  simp only at hy hj1 hj2 hso hjh⊢
  subst hy
  have s1:qt .i64 j 1=j - 1:=qQ (by omega) (by omega)
  by_cases hjb:j<b
  ·have pj:=hcy.get d (i:=j) (by omega) (by omega)
   have pk:=hcy.get d (i:=j - 1) (by omega) (by omega)
   obtain ⟨v,a1,a2⟩:=qgk hφ pj pk
   simp only [ltT hjb,s1,hcy.inB (i:=j) (by omega) (by omega),hcy.inB (i:=j - 1) (by omega) (by omega),a1,qd,qg,Bool.not_true,Bool.false_or,Bool.true_and,Bool.and_self,cond_true]
   rcases a2 with ⟨a3,a4,hle⟩|⟨a3,a4⟩
   ·simp only [ltT a3,Bool.not_true,cond_false]
    have e5:qt .i64 b a=b - a:=qQ (by omega) (by omega)
    have e6:qt .i64 j a=j - a:=qQ (by omega) (by omega)
    simp only [pinT,s1,e5,e6,eqF (show ¬j=b by omega),cond_false,hcy.inB (i:=j) (by omega) (by omega),hcy.inB (i:=j - 1) (by omega) (by omega),qbI,Bool.and_self,cond_true]
    by_cases h50:b - a<50
    ·rw [ltT h50,cond_true]
     exact ⟨false,ys',rfl,hs,fun w=>by cases w⟩
    rw [ltF h50,cond_false]
    have hsw:Seg d n a b ys' (swp d ys' j (j - 1)):=qbT d hcy.len ha hb (by omega) (by omega) (by omega) (by omega)
    have hcs:=hsw.ck d hcy
    have g:=qcJ d hcy.len (i:=j) (j:=j - 1) (by omega) (by omega) (by omega) (by omega)
    have post:∀zs,Seg d n a b xs zs→Srt d le a j zs→qg8 d n le a b xs (pinR d N b φ j (fun ys=>ih (ys,(j,(c+1,())))) zs):=fun zs z1 z2=>by
     refine qqV d hφ hn (by omega) (qg8 d n le a b xs) (z1.ck d h) (by omega) hjb hb fun ws w1=> ?_
     refine hih (ws,(j,(c+1,()))) ⟨z1.trans d (w1.mono d ha hb (by omega) (by omega)),by simp only; omega,by simp only; omega,by simp only; omega,fun x y h1 h2 h3=> ?_⟩ (by simp only; omega)
     simp only at h3⊢
     rw [w1.out x (by omega) (by omega) (by omega),w1.out y (by omega) (by omega) (by omega)]
     exact z2 x y h1 h2 h3
    by_cases hj2a:2≤j - a
    ·rw [leT hj2a,cond_true]
     refine shL_ok d hφ hn (by omega) (qg8 d n le a b xs) (a:=a) (i:=j) (b:=b) hcs ha (by omega) hjb hb (hsw.pre d hb (hs.pre d hb hp)) (fun x y h1 h2 h3=> ?_) fun zs z1 z2=>post zs ((hs.trans d hsw).trans d z1) z2
     have e1:qe (swp d ys' j (j - 1)) x d=qe ys' x d:=by rw [g x (by omega),if_neg (by omega),if_neg (by omega)]
     have e2:qe (swp d ys' j (j - 1)) y d=qe ys' y d:=by rw [g y (by omega),if_neg (by omega),if_neg (by omega)]
     show le (qe (swp d ys' j (j - 1)) x d) (qe (swp d ys' j (j - 1)) y d)
     rw [e1,e2]
     exact hso x y h1 h2 (by omega)
    ·rw [leF hj2a,cond_false]
     refine post (swp d ys' j (j - 1)) (hs.trans d hsw) fun x y h1 h2 h3=> ?_
     have:x=y:=by omega
     subst this
     exact hφ.refl (hcs.get d (by omega) (by omega))
   ·have e2:qB .i64 j 1=j+1:=qO (by omega) (by omega)
    simp only [ltF a3,Bool.not_false,cond_true,e2]
    refine hjh _ ⟨rfl,by simp only; omega,by simp only; omega,fun x y h1 h2 h3=> ?_⟩ (by simp only; omega)
    simp only at h3
    by_cases hy:y=j
    ·subst hy
     by_cases hx:x=y
     ·subst hx; exact hφ.refl pj
     ·exact hφ.trans _ _ _ (hcy.get d (i:=x) (by omega) (by omega)) pk pj (hso x (y - 1) h1 (by omega) (by omega)) a4
    ·exact hso x y h1 h2 (by omega)
  ·have:j=b:=by omega
   simp only [ltF hjb,Bool.not_false,Bool.true_or,Bool.and_self,cond_true,Bool.false_and,cond_false,pinT,eqT this]
   subst this
   exact ⟨true,ys',rfl,hs,fun _=>hso⟩
 ·simp only [ltF hc5,cond_false]
  exact ⟨false,ys,rfl,hs,fun w=>by cases w⟩
def pdqT (d:α) (N:Nat) (Fs:((List α)×(Int×(Int×(Int×(((α×(α×Unit))→(Option (Int×Unit)))×Unit)))))→(Option (Unit×((List α)×Unit)))) (φ:(α×(α×Unit))→Option (Int×Unit))
  (y2 y3 y5 y6 y9:Int) (bal par:Bool) (ih0:(List α×(Int×(Int×(Int×(Bool×(Bool×Unit))))))→Option (Unit×(List α×Unit))) (zs:List α):Option (Unit×(List α×Unit)):=
 (bif (((!(ltI 0 y5))||(inB (qt .i64 y5 1) (qs zs)))&&(((!(ltI 0 y5))||(inB y9 (qs zs)))&&((!(ltI 0 y5))||(qv (φ ((qe zs (qt .i64 y5 1) d),((qe zs y9 d),()))))))) then (qN ((ltI 0 y5)&&(!(ltI (qp (φ ((qe zs (qt .i64 y5 1) d),((qe zs y9 d),()))) (0,())).1 0))) (fun y12=>(bif y12 then (bif (qv (qe8 d N (zs,(y5,(y6,(y9,(φ,()))))))) then (qN (qp (qe8 d N (zs,(y5,(y6,(y9,(φ,())))))) ((0,()),(([]:List α),()))).2.1 (fun ys13=>(qN y6 (fun y14=>(qN (qp (qe8 d N (zs,(y5,(y6,(y9,(φ,())))))) ((0,()),(([]:List α),()))).1.1 (fun y15=>(ih0 (ys13,(y15,(y14,(y3,(bal,(par,()))))))))))))) else none) else (bif (qv (qdQ d N (zs,(y5,(y6,(y9,(φ,()))))))) then (qN (qp (qdQ d N (zs,(y5,(y6,(y9,(φ,())))))) ((0,(false,())),(([]:List α),()))).2.1 (fun ys13=>(qN y5 (fun y14=>(qN y6 (fun y15=>(qN (qp (qdQ d N (zs,(y5,(y6,(y9,(φ,())))))) ((0,(false,())),(([]:List α),()))).1.1 (fun y16=>(qN (qp (qdQ d N (zs,(y5,(y6,(y9,(φ,())))))) ((0,(false,())),(([]:List α),()))).1.2.1 (fun y17=>(qN (qt .i64 y16 y14) (fun y18=>(qN (qt .i64 y15 y16) (fun y19=>(bif (neI 8 0) then (qN (qkP .i64 y2 8) (fun y20=>(bif (bif (ltI y18 y19) then (qv (Fs (ys13,(y14,(y16,(y3,(φ,()))))))) else (qv (Fs (ys13,((qB .i64 y16 1),(y15,(y3,(φ,())))))))) then (ih0 ((bif (ltI y18 y19) then (qp (Fs (ys13,(y14,(y16,(y3,(φ,())))))) ((),(([]:List α),()))).2.1 else (qp (Fs (ys13,((qB .i64 y16 1),(y15,(y3,(φ,())))))) ((),(([]:List α),()))).2.1),((bif (ltI y18 y19) then (qB .i64 y16 1) else y14),((bif (ltI y18 y19) then y15 else y16),(y3,((bif (ltI y18 y19) then (leI y20 y18) else (leI y20 y19)),(y17,()))))))) else none))) else none))))))))))))))) else none)))) else none)
def pdqU (d:α) (N:Nat) (Fs:((List α)×(Int×(Int×(Int×(((α×(α×Unit))→(Option (Int×Unit)))×Unit)))))→(Option (Unit×((List α)×Unit)))) (φ:(α×(α×Unit))→Option (Int×Unit))
  (y2 y3 y5 y6 y7 y8:Int) (bal par:Bool) (ih0:(List α×(Int×(Int×(Int×(Bool×(Bool×Unit))))))→Option (Unit×(List α×Unit))) (ys4:List α):Option (Unit×(List α×Unit)):=
 (bif (bif (eqI y8 2) then (qv (qaw d N (ys4,(y5,(y6,(φ,())))))) else true) then (qN (bif (eqI y8 2) then (qt .i64 (qt .i64 y6 1) (qt .i64 y7 y5)) else y7) (fun y9=>(qN (bif (eqI y8 2) then 1 else y8) (fun y10=>(qN ((bal&&par)&&(eqI y10 1)) (fun y11=>(bif y11 then (bif (qv (qa9 d N ((bif (eqI y8 2) then (qp (qaw d N (ys4,(y5,(y6,(φ,()))))) ((),(([]:List α),()))).2.1 else ys4),(y5,(y6,(φ,())))))) then (bif (qp (qa9 d N ((bif (eqI y8 2) then (qp (qaw d N (ys4,(y5,(y6,(φ,()))))) ((),(([]:List α),()))).2.1 else ys4),(y5,(y6,(φ,()))))) ((false,()),(([]:List α),()))).1.1 then (some ((),((qp (qa9 d N ((bif (eqI y8 2) then (qp (qaw d N (ys4,(y5,(y6,(φ,()))))) ((),(([]:List α),()))).2.1 else ys4),(y5,(y6,(φ,()))))) ((false,()),(([]:List α),()))).2.1,())))
  else pdqT d N Fs φ y2 y3 y5 y6 y9 bal par ih0 (qp (qa9 d N ((bif (eqI y8 2) then (qp (qaw d N (ys4,(y5,(y6,(φ,()))))) ((),(([]:List α),()))).2.1 else ys4),(y5,(y6,(φ,()))))) ((false,()),(([]:List α),()))).2.1) else none)
  else pdqT d N Fs φ y2 y3 y5 y6 y9 bal par ih0 (bif (eqI y8 2) then (qp (qaw d N (ys4,(y5,(y6,(φ,()))))) ((),(([]:List α),()))).2.1 else ys4)))))))) else none)
theorem qqO (L:(Int×Unit)→Option ((Int×Unit)×Unit)) (Fs:((List α)×(Int×(Int×(Int×(((α×(α×Unit))→(Option (Int×Unit)))×Unit)))))→(Option (Unit×((List α)×Unit)))) (x:((List α)×(Int×(Int×(Int×(((α×(α×Unit))→(Option (Int×Unit)))×Unit)))))):pdqS d N L Fs x=
 (qac (S:=((List α)×(Int×(Int×(Int×(Bool×(Bool×Unit))))))) (R:=(Unit×((List α)×Unit))) N (fun ih0=>(fun p1=>(qN (qt .i64 p1.2.2.1 p1.2.1) (fun y2=>(bif (leI y2 12) then (bif (qv (qdO d N (p1.1,(p1.2.1,(p1.2.2.1,(x.2.2.2.2.1,())))))) then (some ((),((qp (qdO d N (p1.1,(p1.2.1,(p1.2.2.1,(x.2.2.2.2.1,()))))) ((),(([]:List α),()))).2.1,()))) else none) else (bif (eqI p1.2.2.2.1 0) then (bif (qv (qlR d N (p1.1,(p1.2.1,(p1.2.2.1,(x.2.2.2.2.1,())))))) then (some ((),((qp (qlR d N (p1.1,(p1.2.1,(p1.2.2.1,(x.2.2.2.2.1,()))))) ((),(([]:List α),()))).2.1,()))) else none) else (bif (bif (!p1.2.2.2.2.1) then (qv (qeq d N L (p1.1,(p1.2.1,(p1.2.2.1,(x.2.2.2.2.1,())))))) else true) then (qN (bif (!p1.2.2.2.2.1) then (qt .i64 p1.2.2.2.1 1) else p1.2.2.2.1) (fun y3=>(bif (qv (qd0 d N ((bif (!p1.2.2.2.2.1) then (qp (qeq d N L (p1.1,(p1.2.1,(p1.2.2.1,(x.2.2.2.2.1,()))))) ((),(([]:List α),()))).2.1 else p1.1),(p1.2.1,(p1.2.2.1,(x.2.2.2.2.1,())))))) then (qN (qp (qd0 d N ((bif (!p1.2.2.2.2.1) then (qp (qeq d N L (p1.1,(p1.2.1,(p1.2.2.1,(x.2.2.2.2.1,()))))) ((),(([]:List α),()))).2.1 else p1.1),(p1.2.1,(p1.2.2.1,(x.2.2.2.2.1,()))))) ((0,(0,())),(([]:List α),()))).2.1 (fun ys4=>(qN p1.2.1 (fun y5=>(qN p1.2.2.1 (fun y6=>(qN (qp (qd0 d N ((bif (!p1.2.2.2.2.1) then (qp (qeq d N L (p1.1,(p1.2.1,(p1.2.2.1,(x.2.2.2.2.1,()))))) ((),(([]:List α),()))).2.1 else p1.1),(p1.2.1,(p1.2.2.1,(x.2.2.2.2.1,()))))) ((0,(0,())),(([]:List α),()))).1.1 (fun y7=>(qN (qp (qd0 d N ((bif (!p1.2.2.2.2.1) then (qp (qeq d N L (p1.1,(p1.2.1,(p1.2.2.1,(x.2.2.2.2.1,()))))) ((),(([]:List α),()))).2.1 else p1.1),(p1.2.1,(p1.2.2.1,(x.2.2.2.2.1,()))))) ((0,(0,())),(([]:List α),()))).1.2.1 (fun y8=>pdqU d N Fs x.2.2.2.2.1 y2 y3 y5 y6 y7 y8 p1.2.2.2.2.1 p1.2.2.2.2.2.1 ih0 ys4))))))))))
  else none))) else none))))))) (x.1,(x.2.1,(x.2.2.1,(x.2.2.2.1,(true,(true,()))))))):=rfl
structure qnM (d:α) (n:Nat) (le:α→α→Prop) (a0 b0:Int) (xs ys:List α) (a b:Int):Prop where
 seg:Seg d n a0 b0 xs ys
 la:a0≤a
 ab:a≤b
 rb:b≤b0
 pre:Pre d le a b ys
 lo:∀i j,a0≤i→i<a→i≤j→j<b0→le (qe ys i d) (qe ys j d)
 hi:∀i j,a0≤i→i≤j→b≤j→j<b0→le (qe ys i d) (qe ys j d)
theorem qnM.move {a0 b0 a b:Int} {xs ys zs:List α} (h:qnM d n le a0 b0 xs ys a b) (h0:0≤a0) (hn:b0≤(n:Int)) (hs:Seg d n a b ys zs):qnM d n le a0 b0 xs zs a b:=by
 have h1:=h.la; have h2:=h.rb; have h3:=h.ab
 refine ⟨h.seg.trans d (hs.mono d h0 hn h1 h2),h1,h3,h2,hs.pre d (by omega) h.pre,fun i j q1 q2 q3 q4=> ?_,fun i j q1 q2 q3 q4=> ?_⟩
 ·rw [hs.out i (by omega) (by omega) (by omega)]
  by_cases w:a≤j∧j<b
  ·obtain ⟨m,m1,m2,m3⟩:=hs.inn j w.1 w.2
   rw [m3]; exact h.lo i m q1 q2 (by omega) (by omega)
  ·rw [hs.out j (by omega) (by omega) (by omega)]; exact h.lo i j q1 q2 q3 q4
 ·rw [hs.out j (by omega) (by omega) (by omega)]
  by_cases w:a≤i∧i<b
  ·obtain ⟨m,m1,m2,m3⟩:=hs.inn i w.1 w.2
   rw [m3]; exact h.hi m j (by omega) (by omega) q3 q4
  ·rw [hs.out i (by omega) (by omega) (by omega)]; exact h.hi i j q1 q2 q3 q4
theorem qnM.fin {a0 b0 a b:Int} {xs ys:List α} (h:qnM d n le a0 b0 xs ys a b) (hs:Srt d le a b ys):Srt d le a0 b0 ys:=fun i j q1 q2 q3=>by
 by_cases w1:i<a
 ·exact h.lo i j q1 w1 q2 q3
 ·by_cases w2:b≤j
  ·exact h.hi i j q1 q2 w2 q3
  ·exact hs i j (by omega) q2 (by omega)
theorem qnM.ends {a0 b0 a b:Int} {xs ys zs:List α} (h:qnM d n le a0 b0 xs ys a b) (h0:0≤a0) (hn:b0≤(n:Int)) (hs:Seg d n a b ys zs) (hz:Srt d le a b zs):qg1 P d n le a0 b0 xs (some ((),(zs,()))):=
 ⟨zs,rfl,(h.move d h0 hn hs).seg,(h.move d h0 hn hs).fin d hz⟩
def FsOk (P:α→Prop) (d:α) (n:Nat) (le:α→α→Prop) (φ:(α×(α×Unit))→Option (Int×Unit)) (M:Int) (Fs:((List α)×(Int×(Int×(Int×(((α×(α×Unit))→(Option (Int×Unit)))×Unit)))))→(Option (Unit×((List α)×Unit)))):Prop:=
 ∀(xs:List α) (a b l:Int),Ck P n xs→0≤a→a≤b→b≤(n:Int)→b - a<M→Pre d le a b xs→qg1 P d n le a b xs (Fs (xs,(a,(b,(l,(φ,()))))))
theorem qnX (hφ:Cmp P φ le) (hn:n≤1099511627776) (hN:n+10<N) {M:Int} {Fs} (hF:FsOk P d n le φ M Fs) {xs:List α} (h:Ck P n xs) {a0 b0:Int} (h0:0≤a0) (hb0:b0≤(n:Int)) {a b l l2 pv:Int} {bal par:Bool} {ih0:(List α×(Int×(Int×(Int×(Bool×(Bool×Unit))))))→Option (Unit×(List α×Unit))} {zs:List α}
  (hz:qnM d n le a0 b0 xs zs a b) (hM:b - a≤M) (hpa:a≤pv) (hpb:pv<b)
  (hih:∀ys a' b' l' bal' par',qnM d n le a0 b0 xs ys a' b'→b' - a'<b - a→qg1 P d n le a0 b0 xs (ih0 (ys,(a',(b',(l',(bal',(par',()))))))) ):
  qg1 P d n le a0 b0 xs (pdqT d N Fs φ l2 l a b pv bal par ih0 zs):=by
 have h1:=hz.la; have h2:=hz.rb; have h3:=hz.ab
 have hzc:=hz.seg.ck d h
 have pp:=hzc.get d (i:=pv) (by omega) (by omega)
 obtain ⟨t,w1,w2,w3⟩:∃t,((!ltI 0 a||inB (qt .i64 a 1) (qs zs))&&((!ltI 0 a||inB pv (qs zs))&&(!ltI 0 a||qv (φ (qe zs (qt .i64 a 1) d,(qe zs pv d,()))))))=true∧(ltI 0 a&& !ltI (qp (φ (qe zs (qt .i64 a 1) d,(qe zs pv d,()))) (0,())).1 0)=t∧(t=true→0<a∧le (qe zs pv d) (qe zs (a - 1) d)):=by
  by_cases q:0<a
  ·have e1:qt .i64 a 1=a - 1:=qQ (by omega) (by omega)
   obtain ⟨c,a1,a2⟩:=qgk hφ (hzc.get d (i:=a - 1) (by omega) (by omega)) pp
   rw [e1,a1,hzc.inB (i:=a - 1) (by omega) (by omega),hzc.inB (i:=pv) (by omega) (by omega),ltT q,qd,qg]
   rcases a2 with ⟨a3,a4,-⟩|⟨a3,a4⟩
   ·rw [ltT a3]; exact ⟨false,rfl,rfl,fun w=>by cases w⟩
   ·rw [ltF a3]; exact ⟨true,rfl,rfl,fun _=>⟨q,a4⟩⟩
  ·rw [ltF q]; exact ⟨false,by simp only [Bool.not_false,Bool.true_or,Bool.and_self],by simp only [Bool.false_and],fun w=>by cases w⟩
 simp only [pdqT,qD,w1,w2,cond_true]
 cases t with
 |true=>
  obtain ⟨q,hle⟩:=w3 rfl
  obtain ⟨out,mid,o1,o2,o3,o4,o5⟩:=qoc d (N:=N) hφ hn (by omega) hzc (a:=a) (b:=b) (pv:=pv) (by omega) hpa hpb (by omega)
  simp only [cond_true,o1,qd,qg]
  have hm:=hz.move d h0 hb0 o2
  have hoc:=hm.seg.ck d h
  have eo:qe out (a - 1) d=qe zs (a - 1) d:=o2.out (a - 1) (by omega) (by omega) (by omega)
  have pa:=hzc.get d (i:=a - 1) (by omega) (by omega)
  have low:∀i j,a≤i→i<mid→i≤j→j<b0→le (qe out i d) (qe out j d):=fun i j q1 q2 q3 q4=>by
   by_cases w:b≤j
   ·exact hm.hi i j (by omega) q3 w q4
   ·have pi:=hoc.get d (i:=i) (by omega) (by omega)
    have pj:=hoc.get d (i:=j) (by omega) (by omega)
    refine hφ.trans _ _ _ pi pp pj (o5 i q1 q2) (hφ.trans _ _ _ pp pa pj hle ?_)
    rw [←eo]
    exact hm.pre q j (by omega) (by omega)
  refine hih out mid b l bal par ⟨hm.seg,by omega,o4,h2,fun _ k k1 k2=>low (mid - 1) k (by omega) (by omega) (by omega) (by omega),fun i j q1 q2 q3 q4=> ?_,hm.hi⟩ (by omega)
  by_cases w:i<a
  ·exact hm.lo i j q1 w q3 q4
  ·exact low i j (by omega) q2 q3 q4
 |false=>
  have e8:neI 8 0=true:=neT (by omega)
  obtain ⟨out,mid,fl,o1,o2,o3,o4,o5,o6⟩:=qot d (N:=N) hφ hn (by omega) hzc (a:=a) (b:=b) (pv:=pv) (by omega) hpa hpb (by omega)
  have s1:qt .i64 mid a=mid - a:=qQ (by omega) (by omega)
  have s2:qt .i64 b mid=b - mid:=qQ (by omega) (by omega)
  have s3:qB .i64 mid 1=mid+1:=qO (by omega) (by omega)
  simp only [cond_false,cond_true,o1,qd,qg,s1,s2,s3,e8]
  have hm:=hz.move d h0 hb0 o2
  have hoc:=hm.seg.ck d h
  have pm:=hoc.get d (i:=mid) (by omega) (by omega)
  by_cases q:mid - a<b - mid
  ·obtain ⟨r,r1,r2,r3⟩:=hF out a mid l hoc (by omega) o3 (by omega) (by omega) (fun w k k1 k2=>hm.pre w k k1 (by omega))
   simp only [ltT q,cond_true,r1,qd,qg]
   have hm2:=hm.move d h0 hb0 (r2.mono d (by omega) (by omega) (Int.le_refl a) (show mid≤b by omega))
   have hrc:=hm2.seg.ck d h
   have rm:∀k,mid≤k→k<(n:Int)→qe r k d=qe out k d:=fun k k1 k2=>r2.out k (by omega) k2 (by omega)
   have gm:∀k,mid≤k→k<b→le (qe out mid d) (qe r k d):=fun k k1 k2=>by
    rw [rm k k1 (by omega)]
    by_cases w:k=mid
    ·rw [w]; exact hφ.refl pm
    ·exact o6 k (by omega) k2
   have low:∀i j,a≤i→i≤mid→i≤j→j<b0→le (qe r i d) (qe r j d):=fun i j q1 q2 q3 q4=>by
    have pi:=hrc.get d (i:=i) (by omega) (by omega)
    have pj:=hrc.get d (i:=j) (by omega) (by omega)
    by_cases w:b≤j
    ·exact hm2.hi i j (by omega) q3 w q4
    ·by_cases wi:i=mid
     ·have:=gm j (by omega) (by omega)
      rw [wi,rm mid (by omega) (by omega)]; exact this
     ·by_cases wj:j<mid
      ·exact r3 i j q1 q3 wj
      ·obtain ⟨m,m1,m2,m3⟩:=r2.inn i q1 (by omega)
       rw [m3] at pi⊢
       exact hφ.trans _ _ _ pi pm pj (o5 m m1 m2) (gm j (by omega) (by omega))
   refine hih r (mid+1) b l _ _ ⟨hm2.seg,by omega,by omega,h2,fun _ k k1 k2=>by rw [show mid+1 - 1=mid by omega]; exact low mid k (by omega) (by omega) (by omega) (by omega),fun i j q1 q2 q3 q4=> ?_,hm2.hi⟩ (by omega)
   by_cases w:i<a
   ·exact hm2.lo i j q1 w q3 q4
   ·exact low i j (by omega) (by omega) q3 q4
  ·obtain ⟨r,r1,r2,r3⟩:=hF out (mid+1) b l hoc (by omega) (by omega) (by omega) (by omega) (fun w k k1 k2=>by rw [show mid+1 - 1=mid by omega]; exact o6 k (by omega) k2)
   simp only [ltF q,cond_false,r1,qd,qg,cond_true]
   have hm2:=hm.move d h0 hb0 (r2.mono d (by omega) (by omega) (show a≤mid+1 by omega) (Int.le_refl b))
   have hrc:=hm2.seg.ck d h
   have rm:∀k,0≤k→k≤mid→qe r k d=qe out k d:=fun k k1 k2=>r2.out k (by omega) (by omega) (by omega)
   have gm:∀k,a≤k→k≤mid→le (qe r k d) (qe out mid d):=fun k k1 k2=>by
    rw [rm k (by omega) (by omega)]
    by_cases w:k=mid
    ·rw [w]; exact hφ.refl pm
    ·exact o5 k (by omega) (by omega)
   have high:∀i j,a≤i→i≤j→mid≤j→j<b→le (qe r i d) (qe r j d):=fun i j q1 q2 q3 q4=>by
    have pi:=hrc.get d (i:=i) (by omega) (by omega)
    have pj:=hrc.get d (i:=j) (by omega) (by omega)
    by_cases wj:j=mid
    ·have:=gm i q1 (by omega)
     rw [wj,rm mid (by omega) (by omega)]; exact this
    ·by_cases wi:mid<i
     ·exact r3 i j (by omega) q2 q4
     ·obtain ⟨m,m1,m2,m3⟩:=r2.inn j (by omega) q4
      rw [m3] at pj⊢
      exact hφ.trans _ _ _ pi pm pj (gm i q1 (by omega)) (o6 m (by omega) m2)
   refine hih r a mid l _ _ ⟨hm2.seg,h1,o3,by omega,fun w k k1 k2=>hm2.pre w k k1 (by omega),hm2.lo,fun i j q1 q2 q3 q4=> ?_⟩ (by omega)
   by_cases w:b≤j
   ·exact hm2.hi i j q1 q2 w q4
   ·by_cases wi:i<a
    ·exact hm2.lo i j q1 wi q2 q4
    ·exact high i j (by omega) q2 q3 (by omega)
theorem qqY (hφ:Cmp P φ le) (hn:n≤1099511627776) (hN:n+10<N) {M:Int} {Fs} (hF:FsOk P d n le φ M Fs) {xs:List α} (h:Ck P n xs) {a0 b0:Int} (h0:0≤a0) (hb0:b0≤(n:Int)) {a b l l2 pv ht:Int} {bal par:Bool} {ih0:(List α×(Int×(Int×(Int×(Bool×(Bool×Unit))))))→Option (Unit×(List α×Unit))} {zs:List α}
  (hz:qnM d n le a0 b0 xs zs a b) (hM:b - a≤M) (hpa:a≤pv) (hpb:pv<b)
  (hih:∀ys a' b' l' bal' par',qnM d n le a0 b0 xs ys a' b'→b' - a'<b - a→qg1 P d n le a0 b0 xs (ih0 (ys,(a',(b',(l',(bal',(par',()))))))) ):
  qg1 P d n le a0 b0 xs (pdqU d N Fs φ l2 l a b pv ht bal par ih0 zs):=by
 have h1:=hz.la; have h2:=hz.rb; have h3:=hz.ab
 have hzc:=hz.seg.ck d h
 have e1:qt .i64 b 1=b - 1:=qQ (by omega) (by omega)
 have e2:qt .i64 pv a=pv - a:=qQ (by omega) (by omega)
 have e3:qt .i64 (b - 1) (pv - a)=b - 1 - (pv - a):=qQ (by omega) (by omega)
 have key:∀(ws:List α) (p:Int) (t:Bool),Seg d n a b zs ws→a≤p→p<b→qg1 P d n le a0 b0 xs
   (bif t then (bif (qv (qa9 d N (ws,(a,(b,(φ,())))))) then (bif (qp (qa9 d N (ws,(a,(b,(φ,()))))) ((false,()),(([]:List α),()))).1.1 then (some ((),((qp (qa9 d N (ws,(a,(b,(φ,()))))) ((false,()),(([]:List α),()))).2.1,())))
    else pdqT d N Fs φ l2 l a b p bal par ih0 (qp (qa9 d N (ws,(a,(b,(φ,()))))) ((false,()),(([]:List α),()))).2.1) else none)
   else pdqT d N Fs φ l2 l a b p bal par ih0 ws):=fun ws p t hs p1 p2=>by
  have hm:=hz.move d h0 hb0 hs
  have hwc:=hm.seg.ck d h
  cases t with
  |false=>exact qnX d hφ hn hN hF h h0 hb0 hm hM p1 p2 hih
  |true=>
   obtain ⟨fl,out,o1,o2,o3⟩:=qnP d (N:=N) hφ hn hN hwc (a:=a) (b:=b) (by omega) (by omega) (by omega) hm.pre
   simp only [cond_true,o1,qd,qg]
   cases fl with
   |true=>exact hm.ends d h0 hb0 o2 (o3 rfl)
   |false=>exact qnX d hφ hn hN hF h h0 hb0 (hm.move d h0 hb0 o2) hM p1 p2 hih
 simp only [pdqU,qD,e1,e2,e3]
 by_cases q:ht=2
 ·obtain ⟨out,o1,o2⟩:=qok d (N:=N) (φ:=φ) hn (by omega) hzc (a:=a) (b:=b) (by omega) (by omega) (by omega)
  simp only [eqT q,cond_true,o1,qd,qg]
  exact key out (b - 1 - (pv - a)) _ o2 (by omega) (by omega)
 ·simp only [eqF q,cond_true,cond_false]
  exact key zs pv _ (.refl d _ _ zs) hpa hpb
theorem qqW (hφ:Cmp P φ le) {L:(Int×Unit)→Option ((Int×Unit)×Unit)} (hL:qnj L) (hn:n≤1099511627776) (hN:n+10<N) {M:Int} {Fs} (hF:FsOk P d n le φ M Fs):FsOk P d n le φ (M+1) (pdqS d N L Fs):=by
 intro xs a0 b0 l0 h h0 hab hb0 hM hp
 rw [qqO]
 refine qP (S:=List α×(Int×(Int×(Int×(Bool×(Bool×Unit)))))) (fun p=>(p.2.2.1 - p.2.1).toNat) (fun p=>qnM d n le a0 b0 xs p.1 p.2.1 p.2.2.1) (qg1 P d n le a0 b0 xs) ?_ N _ ⟨.refl d _ _ xs,Int.le_refl _,hab,Int.le_refl _,hp,fun i j q1 q2 q3 q4=>by simp only at q2; omega,fun i j q1 q2 q3 q4=>by simp only at q3; omega⟩ (by simp only; omega)
 rintro ih ⟨ys,a,b,l,bal,par,⟨⟩⟩ hz hih
 simp only at hz hih⊢
 have h1:=hz.la; have h2:=hz.rb; have h3:=hz.ab
 have hc:=hz.seg.ck d h
 have e1:qt .i64 b a=b - a:=qQ (by omega) (by omega)
 simp only [qD,e1]
 by_cases q12:b - a≤12
 ·obtain ⟨out,o1,o2,o3⟩:=qg6 d (N:=N) hφ hn (by omega) hc (a:=a) (b:=b) (by omega) (by omega) (by omega)
  simp only [leT q12,cond_true,o1,qd,qg]
  exact hz.ends d h0 hb0 o2 o3
 simp only [leF q12,cond_false]
 by_cases ql:l=0
 ·obtain ⟨out,o1,o2,o3⟩:=qpK d (N:=N) hφ hn (by omega) hc (a:=a) (b:=b) (by omega) (by omega) (by omega)
  simp only [eqT ql,cond_true,o1,qd,qg]
  exact hz.ends d h0 hb0 o2 o3
 simp only [eqF ql,cond_false]
 have key:∀(ws:List α) (l1:Int),Seg d n a b ys ws→qg1 P d n le a0 b0 xs (bif (qv (qd0 d N (ws,(a,(b,(φ,())))))) then pdqU d N Fs φ (b - a) l1 a b (qp (qd0 d N (ws,(a,(b,(φ,()))))) ((0,(0,())),(([]:List α),()))).1.1 (qp (qd0 d N (ws,(a,(b,(φ,()))))) ((0,(0,())),(([]:List α),()))).1.2.1 bal par ih (qp (qd0 d N (ws,(a,(b,(φ,()))))) ((0,(0,())),(([]:List α),()))).2.1 else none):=fun ws l1 hs=>by
  have hm:=hz.move d h0 hb0 hs
  obtain ⟨m,t,o1,o2,o3⟩:=qn3 d (N:=N) hφ hn (hm.seg.ck d h) (a:=a) (b:=b) (by omega) (by omega) (by omega)
  simp only [o1,qd,qg,cond_true]
  exact qqY d hφ hn hN hF h h0 hb0 hm (by omega) o2 o3 fun zs a' b' l' bal' par' k1 k2=>hih (zs,(a',(b',(l',(bal',(par',())))))) k1 (by have:=k1.ab; simp only; omega)
 cases bal with
 |true=>
  simp only [Bool.not_true,cond_false,cond_true]
  exact key ys l (.refl d _ _ ys)
 |false=>
  obtain ⟨out,o1,o2⟩:=qpe d (N:=N) (φ:=φ) hL hn hN hc (a:=a) (b:=b) (by omega) (by omega) (by omega)
  simp only [Bool.not_false,cond_true,o1,qd,qg]
  exact key out _ o2
theorem qoL (hφ:Cmp P φ le) {L:(Int×Unit)→Option ((Int×Unit)×Unit)} (hL:qnj L) (hn:n≤1099511627776) (hN:n+10<N):∀M:Nat,FsOk P d n le φ (M:Int) (pdqG d N L M)
 |0=>fun xs a b l h h0 hab hb hM hp=>by omega
 |M+1=>by
  have:=qqW d hφ hL hn hN (qoL hφ hL hn hN M)
  exact this
theorem qoE (hφ:Cmp P φ le) {L:(Int×Unit)→Option ((Int×Unit)×Unit)} (hL:qnj L) (hn:n≤1099511627776) (hN:n+10<N) {xs:List α} (h:Ck P n xs):qg1 P d n le 0 (n:Int) xs (qoH d N L (xs,(φ,()))):=by
 have el:qs xs=(n:Int):=by rw [qn,h.len]
 have eA:qbd .u64 (n:Int)=(n:Int):=by rw [qdh,qdP (by omega) (by omega)]
 obtain ⟨e,l1,-,-⟩:=hL n hn
 obtain ⟨out,o1,o2,o3⟩:=qoL d hφ hL hn hN N xs 0 (n:Int) (e:Int) h (Int.le_refl 0) (by omega) (Int.le_refl _) (by omega) (fun w=>by omega)
 simp only [qoH,qD,el,eA,l1,o1,qd,qg,Bool.and_self,cond_true]
 exact ⟨out,rfl,o2,o3⟩
end
end
end Go.Vi
set_option linter.unusedSimpArgs false
set_option maxRecDepth 100000
namespace Go.Vi
noncomputable section
def qdm:List UInt8:=[0,1,2,2,3,3,3,3,4,4,4,4,4,4,4,4,5,5,5,5,5,5,5,5,5,5,5,5,5,5,5,5,6,6,6,6,6,6,6,6,6,6,6,6,6,6,6,6,6,6,6,6,6,6,6,6,6,6,6,6,6,6,6,6,7,7,7,7,7,7,7,7,7,7,7,7,7,7,7,7,7,7,7,7,7,7,7,7,7,7,7,7,7,7,7,7,7,7,7,7,7,7,7,7,7,7,7,7,7,7,7,7,7,7,7,7,7,7,7,7,7,7,7,7,7,7,7,7,8,8,8,8,8,8,8,8,8,8,8,8,8,8,8,8,8,8,8,8,8,8,8,8,8,8,8,8,8,8,8,8,8,8,8,8,8,8,8,8,8,8,8,8,8,8,8,8,8,8,8,8,8,8,8,8,8,8,8,8,8,8,8,8,8,8,8,8,8,8,8,8,8,8,8,8,8,8,8,8,8,8,8,8,8,8,8,8,8,8,8,8,8,8,8,8,8,8,8,8,8,8,8,8,8,8,8,8,8,8,8,8,8,8,8,8,8,8,8,8,8,8,8,8,8,8,8,8]
def qo5 (x:(Int×Unit)):Option ((Int×Unit)×Unit):=
 (bif (bif (leI 4294967296 x.1) then (leI 0 32) else true) then (qN (bif (leI 4294967296 x.1) then (qgt .u64 x.1 32) else x.1) (fun y0=>(qN (bif (leI 4294967296 x.1) then 32 else 0) (fun y1=>(bif (bif (leI 65536 y0) then (leI 0 16) else true) then (qN (bif (leI 65536 y0) then (qgt .u64 y0 16) else y0) (fun y2=>(qN (bif (leI 65536 y0) then (qB .i64 y1 16) else y1) (fun y3=>(bif (bif (leI 256 y2) then (leI 0 8) else true) then (qN (bif (leI 256 y2) then (qgt .u64 y2 8) else y2) (fun y4=>(qN (bif (leI 256 y2) then (qB .i64 y3 8) else y3) (fun y5=>(bif (inB (qbd .u8 y4) (qs qdm)) then (some (((qB .i64 y5 (qbd .i64 (qjg (qe qdm (qbd .u8 y4) 0)))),()),())) else none))))) else none))))) else none))))) else none)
theorem qkM:∀m:Fin 256,qdm[m.val]? =some (qdm.getD m.val 0)∧(qdm.getD m.val 0).toNat≤8∧(1≤m.val→2^ (qdm.getD m.val 0).toNat≤2 * m.val)∧(m.val=0→(qdm.getD m.val 0).toNat=0):=by decide+kernel
theorem shr_n (x:Int) (n:Nat) (hn:n≤64) (h0:0≤x):qgt .u64 x (n:Int)=x / (2:Int)^n:=by
 rw [qgJ]
 have e:min ((n:Int)).toNat IntKind.u64.bits=n:=by simp [IntKind.bits]; omega
 rw [e,Int.fdiv_eq_ediv_of_nonneg _ (by exact Int.le_of_lt (Int.pow_pos (by omega)))]
theorem qmG {y0 s0 k c:Nat} {n:Nat} (hn:n≤64) (hc:c=2^n) (h:y0 * 2^s0≤k) (hp:1≤k→1≤y0) (hs:s0≤56) (hns:n≤32):∃y1 s1:Nat,(bif (leI (c:Int) (y0:Int)) then (qgt .u64 (y0:Int) (n:Int)) else (y0:Int))=(y1:Int)∧(bif (leI (c:Int) (y0:Int)) then (qB .i64 (s0:Int) (n:Int)) else (s0:Int))=(s1:Int)∧y1 * 2^s1≤k∧(1≤k→1≤y1)∧s1≤s0+n∧(y1=y0 / c∧c≤y0∨y1=y0∧y0<c):=by
 by_cases q:c≤y0
 ·have e1:leI (c:Int) (y0:Int)=true:=leT (by omega)
  rw [e1,cond_true,cond_true,shr_n _ n hn (by omega),qO (by omega) (by omega)]
  refine ⟨y0 / c,s0+n,?_,by omega,?_,fun _=> ?_,Nat.le_refl _,.inl ⟨rfl,q⟩⟩
  ·rw [hc]; norm_cast
  ·rw [Nat.pow_add,Nat.mul_comm (2^s0),←Nat.mul_assoc,←hc]
   exact Nat.le_trans (Nat.mul_le_mul_right _ (Nat.div_mul_le_self _ _)) h
  ·have:0<c:=by rw [hc]; exact Nat.pow_pos (by omega)
   exact Nat.div_pos q this
 ·have e1:leI (c:Int) (y0:Int)=false:=leF (by omega)
  rw [e1,cond_false,cond_false]
  exact ⟨y0,s0,rfl,rfl,h,hp,by omega,.inr ⟨rfl,by omega⟩⟩
theorem qnh:qs qdm=256:=by rw [qn]; decide+kernel
theorem qnl {m:Nat} (h:m<256):qe qdm (m:Int) 0=qdm.getD m 0:=by
 have:=(qkM ⟨m,h⟩).1
 have hl:m<qdm.length:=(List.getElem?_eq_some_iff.1 this).1
 rw [qa2 _ hl]
 rw [List.getElem?_eq_getElem hl] at this
 injection this
theorem qn0:qnj qo5:=fun k hk=>by
 have l0:∀n:Nat,leI 0 (n:Int)=true:=fun n=>leT (by omega)
 have l32:leI 0 32=true:=leT (by omega)
 have l16:leI 0 16=true:=leT (by omega)
 have l8:leI 0 8=true:=leT (by omega)
 have bt:∀b:Bool,(bif b then true else true)=true:=fun b=>by cases b <;> rfl
 obtain ⟨y1,s1,a1,a2,a3,a4,a5,a6⟩:∃y1 s1:Nat,(bif (leI 4294967296 (k:Int)) then (qgt .u64 (k:Int) 32) else (k:Int))=(y1:Int)∧(bif (leI 4294967296 (k:Int)) then 32 else 0)=(s1:Int)∧y1 * 2^s1≤k∧(1≤k→1≤y1)∧s1≤32∧y1<4294967296:=by
  by_cases q:4294967296≤k
  ·have e1:leI 4294967296 (k:Int)=true:=leT (by omega)
   have e2:=shr_n (k:Int) 32 (by omega) (by omega)
   have e3:qgt .u64 (k:Int) 32=(k:Int) / (2:Int)^32:=e2
   rw [e1,cond_true,cond_true,e3]
   exact ⟨k / 4294967296,32,by omega,rfl,by omega,by omega,Nat.le_refl _,by omega⟩
  ·have e1:leI 4294967296 (k:Int)=false:=leF (by omega)
   rw [e1,cond_false,cond_false]
   exact ⟨k,0,rfl,rfl,by omega,id,by omega,by omega⟩
 obtain ⟨y2,s2,b1,b2,b3,b4,b5,b6⟩:=qmG (n:=16) (c:=65536) (by omega) (by decide) a3 a4 (by omega) (by omega)
 obtain ⟨y3,s3,c1,c2,c3,c4,c5,c6⟩:=qmG (n:=8) (c:=256) (by omega) (by decide) b3 b4 (by omega) (by omega)
 have h3:y3<256:=by omega
 have b1':(bif (leI 65536 (y1:Int)) then (qgt .u64 (y1:Int) 16) else (y1:Int))=(y2:Int):=b1
 have b2':(bif (leI 65536 (y1:Int)) then (qB .i64 (s1:Int) 16) else (s1:Int))=(s2:Int):=b2
 have c1':(bif (leI 256 (y2:Int)) then (qgt .u64 (y2:Int) 8) else (y2:Int))=(y3:Int):=c1
 have c2':(bif (leI 256 (y2:Int)) then (qB .i64 (s2:Int) 8) else (s2:Int))=(s3:Int):=c2
 have w8:qbd .u8 (y3:Int)=(y3:Int):=by rw [qdh,qoW]; omega
 obtain ⟨_,t1,t2,t3⟩:=qkM ⟨y3,h3⟩
 simp only at t1 t2 t3
 have ib:inB (y3:Int) 256=true:=by rw [qef]; simp; omega
 have e5:qB .i64 (s3:Int) (qbd .i64 (qjg (qe qdm (y3:Int) 0)))=((s3+(qdm.getD y3 0).toNat:Nat):Int):=by
  rw [qnl h3,qeF,ql5 (by omega) (by omega),qO (by omega) (by omega)]
  omega
 refine ⟨s3+(qdm.getD y3 0).toNat,?_,?_⟩
 ·simp only [qo5,qD,l32,l16,l8,bt,cond_true,a1,a2,b1',b2',c1',c2',w8,qnh,ib,e5]
 ·have hp:1≤k→2^ (s3+(qdm.getD y3 0).toNat)≤2 * k:=fun hk1=>by
   have h4:=t2 (c4 hk1)
   rw [Nat.pow_add]
   calc 2^s3 * 2^ (qdm.getD y3 0).toNat≤2^s3 * (2 * y3):=Nat.mul_le_mul_left _ h4
    _=2 * (y3 * 2^s3):=by rw [Nat.mul_left_comm,Nat.mul_comm (2^s3)]
    _≤2 * k:=Nat.mul_le_mul_left _ c3
  refine ⟨?_,hp⟩
  by_cases hk1:1≤k
  ·have h5:=hp hk1
   have h6:2^ (s3+(qdm.getD y3 0).toNat)≤2^41:=by
    have:(2:Nat)^41=2199023255552:=by decide
    omega
   exact (Nat.pow_le_pow_iff_right (by omega)).1 h6
  ·have hk0:k=0:=by omega
   subst hk0
   have z1:leI 4294967296 (((0:Nat)):Int)=false:=leF (by omega)
   rw [z1] at a1 a2
   simp only [cond_false] at a1 a2
   have y10:y1=0:=by omega
   have s10:s1=0:=by omega
   have y20:y2=0:=by omega
   have z2:leI 65536 (y1:Int)=false:=leF (by omega)
   have z3:leI 256 (y2:Int)=false:=leF (by omega)
   rw [z2] at b2'
   rw [z3] at c2'
   simp only [cond_false] at b2' c2'
   have y30:y3=0:=by omega
   have:=t3 y30
   omega
end
end Go.Vi
namespace Go.Vi
open Go.RowKit
theorem qbE.ofBelow {w w':World} (h:Below w.heap.size w w'):qbE (fun _=>False) w w':=⟨h.os,h.tape,h.output,h.size,fun k hk _=>h.block k hk⟩
theorem qpl {w:World} {F:Nat→Prop} :(ts:List Ty)→ {y:denL ts} → {vs:List Value} →qb3 w F ts y vs→qak w F (qbR (valRs ts) (qn9 ts y)) vs []
 |ts,_,_,h=>qfO ts h
theorem qkf {P:Program} {T:qhR} {f:Nat} {fn:Func} (hf:P.funcs[f]? =some fn) (hb:fn.body.isSome=true) (hname:(fn.name == "runtime.NumGoroutine")=false) (ts us:List Ty) (φ:denL ts→Option (denL us))
  (h:∀(w:World) (F:Nat→Prop) (x:denL ts) (y:denL us) (as:List Value),qcj T w F→qb3 w F ts x as→φ x=some y→
   Calls P f as.toArray w fun e w'=>∃vs,e= .returned (qdI vs)∧qb3 w' (fun b=>F b∨w.heap.size≤b) us y vs∧qbE (fun _=>False) w w'):
  qh.okT P T f ⟨valPs ts,valRs us,fun x=>qh7 (fun y=>(qn9 us y,PMs.ioDflt (valPs ts))) (φ (qpC ts x))⟩:=by
 obtain ⟨c,hc⟩:=Option.isSome_iff_exists.1 hb
 refine ⟨fun as w=>qea hf hc hname as w,fun w F x y as g i hT hp hpre hn hy=> ?_⟩
 simp only [qcx,Option.map_eq_some_iff] at hy
 obtain ⟨z,hz,rfl⟩:=hy
 obtain ⟨k1,rfl,rfl⟩:=qgv ts hp
 refine (h w F _ z as hT k1 hz).mono ?_
 rintro e w' ⟨vs,rfl,hv,hk⟩
 refine ⟨_,rfl,vs,[],rfl,List.nodup_nil,fun b hb=>(by cases hb),qfO us (hv.mono us fun b hb=> ?_),qfp ts,hk.mono fun _ h=>h.elim⟩
 exact ⟨hb.elim .inl fun h=> .inr (.inr h),by simp,by simp⟩
theorem qly (k:IntKind):(l:List Int)→(css:List (List Value))→css.length=l.length→(∀(i:Nat) (x:Int) (c:List Value),l[i]? =some x→css[i]? =some c→c=[.int k x])→css.flatten=l.map (fun z=> .int k z)
 |[],[],_,_=>rfl
 |[],_::_,h,_=>by simp at h
 |_::_,[],h,_=>by simp at h
 |x::l,c::css,h,hx=>by
  have h0:=hx 0 x c rfl rfl
  have ih:=qly k l css (by simpa using h) fun i x c h1 h2=>hx (i+1) x c (by simpa using h1) (by simpa using h2)
  rw [List.flatten_cons,ih,h0]
  rfl
theorem qpG {P:Program} {T:qhR} {w:World} {F:Nat→Prop} (hT:qcj T w F) {name:String} {g n:Nat} {k:IntKind} {tab zs:List Int} (hg:P.globalNamed name=some g) (ht:T g=some ⟨.arr n (.int k),tab⟩) (hz:tab=zs):Lib.TabIs P w name k zs:=by
 subst hz
 obtain ⟨_,_,cs,te,fz,h3,hl,css,hcl,rfl,hx⟩:=hT g _ ht
 have e:=qly k tab css (by rw [hcl]; exact hl.symm) fun i x c h1 h2=>(hx i x c h1 h2).1
 rw [Lib.TabIs,World.var?,hg]
 simp only [Option.bind_some,h3,e]
theorem qgz {T:qhR} {w:World} {F:Nat→Prop} (hT:qcj T w F) {g:Nat} (ht:T g=some ⟨.err,false⟩):∃te pe,w.cell? ⟨g,0,none⟩=some (.iface te pe):=by
 obtain ⟨_,_,cs,te,fz,h3,v,rfl,h4⟩:=hT g _ ht
 rcases h4 with ⟨h,_⟩|⟨_,t,x,rfl⟩
 ·cases h
 ·exact ⟨t,x,by simp [World.cell?,h3]⟩
theorem qdl (s:List UInt8):(⟨s.toArray⟩:ByteArray).data.toList=s:=by simp
theorem qmy (s:List UInt8):(⟨s.toArray⟩:ByteArray).size=s.length:=by
 show s.toArray.size=s.length
 simp
theorem ok_itoa {P:Program} {T:qhR} {f g:Nat} {fn:Func} {tab:List Int} (hf:P.funcs[f]? =some fn) (hb:fn.body.isSome=true) (hname:(fn.name == "runtime.NumGoroutine")=false)
  (hg:P.globalNamed "internal/strconv.uint64pow10" =some g) (ht:T g=some ⟨.arr 20 (.int .u64),tab⟩) (hz:tab=Lib.pow10Tab)
  (h:∀(n:Int),-9223372036854775808≤n→n≤9223372036854775807→∀(w:World),Lib.TabIs P w "internal/strconv.uint64pow10" .u64 Lib.pow10Tab→
   Calls P f #[.int .i64 n] w fun e w'=>e= .returned (.string ⟨(Lib.itoa n).toArray⟩)∧∃k os,w'=Sort.grow (w.drewN k) os):
  qh.okT P T f ⟨[.val (.int .i64)],[.val .str],fun x=>some ((Lib.itoa x.1,()),())⟩:=by
 have:=qkf (T:=T) hf hb hname [.int .i64] [.str] (fun x=>some (Lib.itoa x.1,())) (fun w F x y as hT hv hy=>by
  obtain ⟨v,r,rfl,h1,rfl⟩:=hv
  obtain ⟨rfl,hn⟩:=qV.int h1
  injection hy with hy
  subst hy
  have hn': -9223372036854775808≤x.1∧x.1≤9223372036854775807:=by simpa [IntKind.has,IntKind.min,IntKind.max,IntKind.signed,IntKind.bits] using hn
  refine (h x.1 hn'.1 hn'.2 w (qpG hT hg ht hz)).mono ?_
  rintro e w' ⟨rfl,k,os,rfl⟩
  refine ⟨[_],rfl,⟨_,[],rfl,qV.ofStr _ _ ?_,rfl⟩,qbE.ofBelow (Lib.below_grow _ _ (Nat.le_refl _) _ _)⟩
  have:=Lib.itoa_length_le x.1 hn'.1 hn'.2
  simp only [maxLen]
  omega)
 refine ⟨this.1,fun w F x y as g i a b c d e=>this.2 w F x y as g i a b c d ?_⟩
 injection e with e
 subst e
 simp only [qcx]
 rfl
def qnD (s:List UInt8):Option (Int×Bool):=if s.length≤1000 then (match Lib.atoiAll s with
 | .ok v=>some (v,true)
 | .syntax=>some (0,false)
 | .range=>some (Lib.atoiSat s,false)) else none
theorem qiW (s:List UInt8):IntKind.i64.has (Lib.atoiSat s):=by
 unfold Lib.atoiSat
 split <;> exact ⟨by decide,by decide⟩
theorem ok_atoi {P:Program} {T:qhR} {f g1 g2:Nat} {fn:Func} {tE tN:Nat} {nm:List UInt8} {tb:TypeId} (hf:P.funcs[f]? =some fn) (hb:fn.body.isSome=true) (hname:(fn.name == "runtime.NumGoroutine")=false)
  (h1:T g1=some ⟨.err,false⟩) (h2:T g2=some ⟨.err,false⟩)
  (hok:∀(s:ByteArray),s.size≤9223372036854775806→∀v,Lib.atoiAll s.data.toList= .ok v→∀(w:World),Calls P f #[.string s] w fun e w'=>e= .returned (.tuple #[.int .i64 v,.nilIface])∧(w'=w∨∃t,w'=Lib.bytesWorld w tb t))
  (hsy:∀(s:ByteArray),s.size≤281474976710656→Lib.atoiAll s.data.toList= .syntax→∀(ev:Value) (w:World),w.cell? ⟨g1,0,none⟩=some ev→(ev= .nilIface∨∃te pe,ev= .iface te pe)→
   Calls P f #[.string s] w fun e w'=>∃N,e= .returned (.tuple #[.int .i64 0,.iface tE (.pointer (some ⟨N,0,none⟩))])∧w.heap.size≤N∧w'.heap[N]? =some (.cells #[.string ⟨nm.toArray⟩,.string s,ev] tN (0,0))∧Below w.heap.size w w')
  (hra:∀(s:ByteArray),s.size≤281474976710656→Lib.atoiAll s.data.toList= .range→∀(ev:Value) (w:World),w.cell? ⟨g2,0,none⟩=some ev→(ev= .nilIface∨∃te pe,ev= .iface te pe)→
   Calls P f #[.string s] w fun e w'=>∃N,e= .returned (.tuple #[.int .i64 (Lib.atoiSat s.data.toList),.iface tE (.pointer (some ⟨N,0,none⟩))])∧w.heap.size≤N∧w'.heap[N]? =some (.cells #[.string ⟨nm.toArray⟩,.string s,ev] tN (0,0))∧Below w.heap.size w w'):
  qh.okT P T f ⟨[.val .str],[.val (.int .i64),.val .err],fun x=>qh7 (fun y=>((y.1,(y.2,())),())) (qnD x.1)⟩:=by
 have:=qkf (T:=T) hf hb hname [.str] [.int .i64,.err] (fun x=>qh7 (fun y=>(y.1,(y.2,()))) (qnD x.1)) (fun w F x y as hT hv hy=>by
  obtain ⟨v,r,rfl,k1,rfl⟩:=hv
  obtain ⟨rfl,hn⟩:=qV.str k1
  simp only [qcx,Option.map_eq_some_iff] at hy
  obtain ⟨z,hz,rfl⟩:=hy
  unfold qnD at hz
  split at hz
  case isFalse=>cases hz
  rename_i hl
  have hsz:(⟨x.1.toArray⟩:ByteArray).size≤1000:=by rw [qmy]; exact hl
  split at hz
  ·rename_i v hv
   injection hz with hz
   subst hz
   refine (hok _ (by omega) v (by rw [qdl]; exact hv) w).mono ?_
   rintro e w' ⟨rfl,hw⟩
   have hk:qbE (fun _=>False) w w':=by
    rcases hw with rfl|⟨t,rfl⟩
    ·exact qbE.refl _ _
    ·exact qbE.ofBelow (Lib.bytesWorld_below _ _ _)
   refine ⟨[_,_],rfl,⟨_,_,rfl,qV.ofInt _ _ ?_,_,_,rfl,qV.ofErr (.inl ⟨rfl,rfl⟩),rfl⟩,hk⟩
   have:=Lib.atoiAll_bounds hv
   simpa [IntKind.has,IntKind.min,IntKind.max,IntKind.signed,IntKind.bits] using this
  ·rename_i hv
   injection hz with hz
   subst hz
   obtain ⟨te,pe,hc⟩:=qgz hT h1
   refine (hsy _ (by omega) (by rw [qdl]; exact hv) _ w hc (.inr ⟨te,pe,rfl⟩)).mono ?_
   rintro e w' ⟨N,rfl,_,_,hw⟩
   exact ⟨[_,_],rfl,⟨_,_,rfl,qV.ofInt _ _ ⟨by decide,by decide⟩,_,_,rfl,qV.ofErr (.inr ⟨rfl,_,_,rfl⟩),rfl⟩,qbE.ofBelow hw⟩
  ·rename_i hv
   injection hz with hz
   subst hz
   obtain ⟨te,pe,hc⟩:=qgz hT h2
   refine (hra _ (by omega) (by rw [qdl]; exact hv) _ w hc (.inr ⟨te,pe,rfl⟩)).mono ?_
   rintro e w' ⟨N,rfl,_,_,hw⟩
   exact ⟨[_,_],rfl,⟨_,_,rfl,by rw [qdl]; exact qV.ofInt _ _ (qiW _),_,_,rfl,qV.ofErr (.inr ⟨rfl,_,_,rfl⟩),rfl⟩,qbE.ofBelow hw⟩)
 refine ⟨this.1,fun w F x y as g i a b c d e=>this.2 w F x y as g i a b c d ?_⟩
 simp only [qcx,Option.map_map] at e⊢
 exact e
theorem qqG {P:Program} {T:qhR} {f g1 g2:Nat} {fn:Func} {tE tN:Nat} {nm:List UInt8} {tb:TypeId} (hf:P.funcs[f]? =some fn) (hb:fn.body.isSome=true) (hname:(fn.name == "runtime.NumGoroutine")=false)
  (h1:T g1=some ⟨.err,false⟩) (h2:T g2=some ⟨.err,false⟩)
  (hok:∀(s:ByteArray),s.size≤9223372036854775806→∀v,Lib.parseIntB 64 s.data.toList= .ok v→∀(w:World),Calls P f #[.string s,.int .i64 10,.int .i64 64] w fun e w'=>e= .returned (.tuple #[.int .i64 v,.nilIface])∧(w'=w∨∃t,w'=Lib.bytesWorld w tb t))
  (hsy:∀(s:ByteArray),s.size≤281474976710656→Lib.parseIntB 64 s.data.toList= .syntax→∀(ev:Value) (w:World),w.cell? ⟨g1,0,none⟩=some ev→(ev= .nilIface∨∃te pe,ev= .iface te pe)→
   Calls P f #[.string s,.int .i64 10,.int .i64 64] w fun e w'=>∃N,e= .returned (.tuple #[.int .i64 0,.iface tE (.pointer (some ⟨N,0,none⟩))])∧w.heap.size≤N∧w'.heap[N]? =some (.cells #[.string ⟨nm.toArray⟩,.string s,ev] tN (0,0))∧Below w.heap.size w w')
  (hra:∀(s:ByteArray),s.size≤281474976710656→Lib.parseIntB 64 s.data.toList= .range→∀(ev:Value) (w:World),w.cell? ⟨g2,0,none⟩=some ev→(ev= .nilIface∨∃te pe,ev= .iface te pe)→
   Calls P f #[.string s,.int .i64 10,.int .i64 64] w fun e w'=>∃N,e= .returned (.tuple #[.int .i64 (Lib.intSat 64 s.data.toList),.iface tE (.pointer (some ⟨N,0,none⟩))])∧w.heap.size≤N∧w'.heap[N]? =some (.cells #[.string ⟨nm.toArray⟩,.string s,ev] tN (0,0))∧Below w.heap.size w w'):
  qh.okT P T f ⟨[.val .str,.val (.int .i64),.val (.int .i64)],[.val (.int .i64),.val .err],fun x=>if x.2.1=10∧x.2.2.1=64 then qh7 (fun y=>((y.1,(y.2,())),())) (qnD x.1) else none⟩:=by
 have:=qkf (T:=T) hf hb hname [.str,.int .i64,.int .i64] [.int .i64,.err] (fun x=>if x.2.1=10∧x.2.2.1=64 then qh7 (fun y=>(y.1,(y.2,()))) (qnD x.1) else none) (fun w F x y as hT hv hy=>by
  split at hy
  case isFalse=>cases hy
  rename_i hx
  obtain ⟨s,b,c,_⟩:=x
  obtain ⟨rfl,rfl⟩:=hx
  obtain ⟨v,r,rfl,k1,v2,r2,rfl,k2,v3,r3,rfl,k3,rfl⟩:=hv
  obtain ⟨rfl,hn⟩:=qV.str k1
  obtain ⟨rfl,_⟩:=qV.int k2
  obtain ⟨rfl,_⟩:=qV.int k3
  simp only [qcx,Option.map_eq_some_iff] at hy
  obtain ⟨z,hz,rfl⟩:=hy
  unfold qnD at hz
  split at hz
  case isFalse=>cases hz
  rename_i hl
  have hsz:(⟨s.toArray⟩:ByteArray).size≤1000:=by rw [qmy]; exact hl
  split at hz
  ·rename_i v hv
   injection hz with hz
   subst hz
   refine (hok ⟨s.toArray⟩ (by omega) v (by rw [qdl,Lib.parseIntB_64]; exact hv) w).mono ?_
   rintro e w' ⟨rfl,hw⟩
   have hk:qbE (fun _=>False) w w':=by
    rcases hw with rfl|⟨t,rfl⟩
    ·exact qbE.refl _ _
    ·exact qbE.ofBelow (Lib.bytesWorld_below _ _ _)
   refine ⟨[_,_],rfl,⟨_,_,rfl,qV.ofInt _ _ ?_,_,_,rfl,qV.ofErr (.inl ⟨rfl,rfl⟩),rfl⟩,hk⟩
   have:=Lib.atoiAll_bounds hv
   simpa [IntKind.has,IntKind.min,IntKind.max,IntKind.signed,IntKind.bits] using this
  ·rename_i hv
   injection hz with hz
   subst hz
   obtain ⟨te,pe,hc⟩:=qgz hT h1
   refine (hsy ⟨s.toArray⟩ (by omega) (by rw [qdl,Lib.parseIntB_64]; exact hv) _ w hc (.inr ⟨te,pe,rfl⟩)).mono ?_
   rintro e w' ⟨N,rfl,_,_,hw⟩
   exact ⟨[_,_],rfl,⟨_,_,rfl,qV.ofInt _ _ ⟨by decide,by decide⟩,_,_,rfl,qV.ofErr (.inr ⟨rfl,_,_,rfl⟩),rfl⟩,qbE.ofBelow hw⟩
  ·rename_i hv
   injection hz with hz
   subst hz
   obtain ⟨te,pe,hc⟩:=qgz hT h2
   refine (hra ⟨s.toArray⟩ (by omega) (by rw [qdl,Lib.parseIntB_64]; exact hv) _ w hc (.inr ⟨te,pe,rfl⟩)).mono ?_
   rintro e w' ⟨N,rfl,_,_,hw⟩
   exact ⟨[_,_],rfl,⟨_,_,rfl,by rw [qdl,Lib.intSat_64]; exact qV.ofInt _ _ (qiW _),_,_,rfl,qV.ofErr (.inr ⟨rfl,_,_,rfl⟩),rfl⟩,qbE.ofBelow hw⟩)
 refine ⟨this.1,fun w F x y as g i a b c d e=>this.2 w F x y as g i a b c d ?_⟩
 simp only at e⊢
 by_cases hx:x.2.1=10∧x.2.2.1=64
 ·rw [if_pos hx] at e
  show qh7 _ (if x.2.1=10∧x.2.2.1=64 then _ else none)=_
  rw [if_pos hx]
  simp only [qcx,Option.map_map] at e⊢
  exact e
 ·rw [if_neg hx] at e
  cases e
def qmE (w:World) (g:Nat) (r:(t:Ty)×t.den):Prop:=g<w.heap.size∧∃(cs:List Value) (te:Nat) (fz:Nat×Nat),w.heap[g]? =some (.cells cs.toArray te fz)∧Rep w (fun b=>b<w.heap.size) r.1 r.2 cs
theorem qk8 {P:Program} {w:World} {n:String} {g:Nat} {cs:Array Value} (hg:P.globalNamed n=some g) (h:w.var? P n=some cs):g<w.heap.size∧∃(te:Nat) (fz:Nat×Nat),w.heap[g]? =some (.cells cs te fz):=by
 rw [World.var?,hg] at h
 simp only [Option.bind_some] at h
 split at h
 ·rename_i c te fz e
  injection h with h
  subst h
  exact ⟨(Array.getElem?_eq_some_iff.1 e).1,te,fz,e⟩
 ·cases h
theorem qmE.err {P:Program} {w:World} {n:String} {g:Nat} {t:TypeId} {x:Value} (hg:P.globalNamed n=some g) (h:w.var? P n=some #[.iface t x]):qmE w g ⟨.err,false⟩:=by
 obtain ⟨h1,te,fz,h2⟩:=qk8 hg h
 exact ⟨h1,[.iface t x],te,fz,h2,_,rfl,.inr ⟨rfl,t,x,rfl⟩⟩
theorem qht {α β:Type} (f:α→β):(l:List α)→l.map f=(l.map fun z=>[f z]).flatten
 |[]=>rfl
 |x::l=>by simp only [List.map_cons,List.flatten_cons,←qht f l]; rfl
theorem qmE.ints {P:Program} {w:World} {name:String} {g n:Nat} {k:IntKind} {tab zs:List Int} (hg:P.globalNamed name=some g) (hn:zs.length=n) (hk:zs.all (fun z=>decide (k.min≤z∧z≤k.max))=true) (ht:tab=zs) (h:Lib.TabIs P w name k zs):qmE w g ⟨.arr n (.int k),tab⟩:=by
 subst ht
 obtain ⟨h1,te,fz,h2⟩:=qk8 hg h
 refine ⟨h1,tab.map (fun z=> .int k z),te,fz,h2,hn,tab.map (fun z=>[.int k z]),by rw [List.length_map,hn],qht _ _,fun i x c hx hc=> ?_⟩
 rw [List.getElem?_map,hx] at hc
 injection hc with hc
 subst hc
 have h3:k.min≤x∧x≤k.max:=of_decide_eq_true (List.all_eq_true.1 hk x (List.mem_of_getElem? hx))
 exact ⟨rfl,h3⟩
def qlz (v:Int×(Int×(List UInt8×Unit))):List UInt8:=124::(Lib.itoa v.1++44::(Lib.itoa v.2.1++44::(Lib.itoa (v.2.2.1.length:Int)++44::v.2.2.1)))
def qmr (xs:List (Int×(Int×(List UInt8×Unit)))):List UInt8:=Lib.itoa (xs.length:Int)++(xs.map qlz).flatten
def qoI (s t:List UInt8):Option ((Int×Unit)×Unit):=match t with
 |[c]=>some ((Lib.indexByte s c,()),())
 |_=>none
theorem qfI:(s:List UInt8)→(c:UInt8)→ -1≤Lib.indexByte s c∧Lib.indexByte s c<(s.length:Int)+1
 |[],_=>by simp [Lib.indexByte]
 |b::l,c=>by
  have:=qfI l c
  simp only [Lib.indexByte]
  split
  ·simp only [List.length_cons]; omega
  ·split
   ·simp only [List.length_cons]; omega
   ·simp only [List.length_cons]; omega
theorem ok_index1 {P:Program} {T:qhR} {f:Nat} {fn:Func} (hf:P.funcs[f]? =some fn) (hb:fn.body.isSome=true) (hname:(fn.name == "runtime.NumGoroutine")=false)
  (h:∀(s:ByteArray) (c:UInt8) (w:World),Calls P f #[.string s,.string ⟨#[c]⟩] w fun e w'=>e= .returned (.int .i64 (Lib.indexByte s.data.toList c))∧w'=w):
  qh.okT P T f ⟨[.val .str,.val .str],[.val (.int .i64)],fun x=>qoI x.1 x.2.1⟩:=by
 have:=qkf (T:=T) hf hb hname [.str,.str] [.int .i64] (fun x=>match x.2.1 with
  |[c]=>some (Lib.indexByte x.1 c,())
  |_=>none) (fun w F x y as hT hv hy=>by
  obtain ⟨v,r,rfl,h1,v2,r2,rfl,h2,rfl⟩:=hv
  obtain ⟨rfl,hn⟩:=qV.str h1
  obtain ⟨rfl,hn2⟩:=qV.str h2
  obtain ⟨s,t,u⟩:=x
  simp only at hy hn hn2⊢
  split at hy
  ·rename_i c
   injection hy with hy
   subst hy
   refine (h ⟨s.toArray⟩ c w).mono ?_
   rintro e w' ⟨rfl,rfl⟩
   refine ⟨[_],rfl,⟨_,[],rfl,qV.ofInt _ _ ?_,rfl⟩,qbE.refl _ _⟩
   have h3:=qfI s c
   simp only [maxLen] at hn
   simp [IntKind.has,IntKind.min,IntKind.max,IntKind.signed,IntKind.bits]
   omega
  ·cases hy)
 refine ⟨this.1,fun w F x y as g i a b c d e=>this.2 w F x y as g i a b c d ?_⟩
 obtain ⟨s,t,u⟩:=x
 simp only [qoI] at e
 simp only [qcx,qpC]
 split at e
 ·injection e with e
  subst e
  rfl
 ·cases e
end Go.Vi
namespace Go.Vi
def dig (b:UInt8):Prop:=b=45∨(48≤b.toNat∧b.toNat≤57)
instance (b:UInt8):Decidable (dig b):=by unfold dig; infer_instance
theorem qe1 {d:Nat} (h:d<10):(UInt8.ofNat (48+d)).toNat=48+d:=by
 rw [UInt8.toNat_ofNat']; omega
theorem qeL (u:Nat):∀b∈Lib.decDigits u,48≤b.toNat∧b.toNat≤57:=by
 induction u using Nat.strongRecOn with
 |ind u ih=>
  intro b hb
  rw [Lib.decDigits] at hb
  split at hb
  ·rename_i h
   simp only [List.mem_singleton] at hb
   subst hb
   rw [qe1 h]; omega
  ·rename_i h
   rcases List.mem_append.1 hb with hb|hb
   ·exact ih (u / 10) (by omega) b hb
   ·simp only [List.mem_singleton] at hb
    subst hb
    rw [qe1 (Nat.mod_lt _ (by omega))]; omega
theorem qkU (u:Nat):Lib.decDigits u≠[]:=by
 rw [Lib.decDigits]
 split <;> simp
def qlO (l:List UInt8):Nat:=l.foldl (fun n b=>n * 10+(b.toNat - 48)) 0
theorem qny (l:List UInt8) (b:UInt8):qlO (l++[b])=qlO l * 10+(b.toNat - 48):=by simp [qlO]
theorem qcI (u:Nat):qlO (Lib.decDigits u)=u:=by
 induction u using Nat.strongRecOn with
 |ind u ih=>
  rw [Lib.decDigits]
  split
  ·rename_i h
   simp only [qlO,List.foldl_cons,List.foldl_nil,qe1 h]; omega
  ·rename_i h
   rw [qny,ih (u / 10) (by omega),qe1 (Nat.mod_lt _ (by omega))]
   omega
theorem qgS (n:Int):∀b∈Lib.itoa n,dig b:=by
 intro b hb
 unfold Lib.itoa at hb
 split at hb
 ·rcases List.mem_cons.1 hb with rfl|hb
  ·exact .inl rfl
  ·exact .inr (qeL _ b hb)
 ·exact .inr (qeL _ b hb)
theorem qqM (n:Int):Lib.itoa n≠[]:=by
 unfold Lib.itoa
 split
 ·simp
 ·exact qkU _
theorem qmO {a b:Int} (h:Lib.itoa a=Lib.itoa b):a=b:=by
 have no45:∀u:Nat,∀r,Lib.decDigits u≠45::r:=fun u r e=>by
  have:=qeL u 45 (by rw [e]; exact List.mem_cons_self)
  have:(48:Nat)≤45:=this.1
  omega
 unfold Lib.itoa at h
 split at h <;> split at h
 ·have e:=congrArg qlO (List.cons.inj h).2
  rw [qcI,qcI] at e
  omega
 ·exact absurd h.symm (no45 _ _)
 ·exact absurd h (no45 _ _)
 ·have e:=congrArg qlO h
  rw [qcI,qcI] at e
  omega
def qfk (P:UInt8→Prop) (r:List UInt8):Prop:=∀b t,r=b::t→¬P b
theorem qeC (P:UInt8→Prop):qfk P []:=fun _ _ h=>by cases h
theorem qJ {P:UInt8→Prop} {b:UInt8} {t:List UInt8} (h:¬P b):qfk P (b::t):=fun _ _ e=>by cases e; exact h
theorem part {P:UInt8→Prop} :(a b:List UInt8)→ {r s:List UInt8} →(∀x∈a,P x)→(∀x∈b,P x)→qfk P r→qfk P s→a++r=b++s→a=b∧r=s
 |[],[],_,_,_,_,_,_,h=>⟨rfl,h⟩
 |[],y::b,r,s,_,hb,hr,_,h=>absurd (hb y List.mem_cons_self) (hr y (b++s) h)
 |x::a,[],r,s,ha,_,_,hs,h=>absurd (ha x List.mem_cons_self) (hs x (a++r) h.symm)
 |x::a,y::b,r,s,ha,hb,hr,hs,h=>by
  injection h with h1 h2
  obtain ⟨h3,h4⟩:=part a b (fun z hz=>ha z (List.mem_cons_of_mem _ hz)) (fun z hz=>hb z (List.mem_cons_of_mem _ hz)) hr hs h2
  exact ⟨by rw [h1,h3],h4⟩
theorem qba {a b:Int} {r s:List UInt8} (hr:qfk dig r) (hs:qfk dig s) (h:Lib.itoa a++r=Lib.itoa b++s):a=b∧r=s:=by
 obtain ⟨h1,h2⟩:=part _ _ (qgS a) (qgS b) hr hs h
 exact ⟨qmO h1,h2⟩
def qft (s:List UInt8):List UInt8:=Lib.itoa (s.length:Int)++58::s
theorem qbz {a b r s:List UInt8} (h:qft a++r=qft b++s):a=b∧r=s:=by
 unfold qft at h
 rw [List.append_assoc,List.append_assoc] at h
 obtain ⟨h1,h2⟩:=qba (qJ (by decide)) (qJ (by decide)) h
 exact List.append_inj (List.cons.inj h2).2 (by omega)
theorem qk4 {a b:Int×(Int×(List UInt8×Unit))} {r s:List UInt8} (h:qlz a++r=qlz b++s):a=b∧r=s:=by
 obtain ⟨a1,a2,a3,⟨⟩⟩:=a
 obtain ⟨b1,b2,b3,⟨⟩⟩:=b
 unfold qlz at h
 simp only [List.cons_append,List.append_assoc] at h
 injection h with _ h
 obtain ⟨h1,h2⟩:=qba (qJ (by decide)) (qJ (by decide)) h
 obtain ⟨h3,h4⟩:=qba (qJ (by decide)) (qJ (by decide)) (List.cons.inj h2).2
 obtain ⟨h5,h6⟩:=qba (qJ (by decide)) (qJ (by decide)) (List.cons.inj h4).2
 obtain ⟨h7,h8⟩:=List.append_inj (List.cons.inj h6).2 (by omega)
 exact ⟨by rw [h1,h3,h7],h8⟩
theorem qhi:(xs ys:List (Int×(Int×(List UInt8×Unit))))→ {r s:List UInt8} →xs.length=ys.length→(xs.map qlz).flatten++r=(ys.map qlz).flatten++s→xs=ys∧r=s
 |[],[],_,_,_,h=>⟨rfl,h⟩
 |x::xs,y::ys,r,s,hl,h=>by
  simp only [List.map_cons,List.flatten_cons,List.append_assoc] at h
  obtain ⟨h1,h2⟩:=qk4 h
  obtain ⟨h3,h4⟩:=qhi xs ys (by simpa using hl) h2
  exact ⟨by rw [h1,h3],h4⟩
theorem qn6 {xs ys:List (Int×(Int×(List UInt8×Unit)))} {r s:List UInt8} (hr:qfk dig r) (hs:qfk dig s) (h:qmr xs++r=qmr ys++s):xs=ys∧r=s:=by
 have st:∀(l:List (Int×(Int×(List UInt8×Unit)))) (r:List UInt8),qfk dig r→qfk dig ((l.map qlz).flatten++r):=fun l r hr=>by
  cases l with
  |nil=>exact hr
  |cons x l=>
   rw [List.map_cons,List.flatten_cons,qlz]
   exact qJ (by decide)
 unfold qmr at h
 rw [List.append_assoc,List.append_assoc] at h
 obtain ⟨h1,h2⟩:=qba (st xs r hr) (st ys s hs) h
 exact qhi xs ys (by omega) h2
theorem encR_inj {xs ys:List (Int×(Int×(List UInt8×Unit)))} (h:qmr xs=qmr ys):xs=ys:=
 (qn6 (r:=[]) (s:=[]) (qeC _) (qeC _) (by rw [List.append_nil,List.append_nil]; exact h)).1
theorem qjw {xs ys:List (Int×(Int×(List UInt8×Unit)))} {r s:List UInt8} (hl:xs.length=ys.length) (h:qmr xs++r=qmr ys++s):xs=ys∧r=s:=by
 unfold qmr at h
 rw [hl,List.append_assoc,List.append_assoc] at h
 exact qhi xs ys hl (List.append_cancel_left h)
def qik (l:List Int):List UInt8:=(l.map fun i=>44::Lib.itoa i).flatten
theorem colsC_nil:qik []=[]:=rfl
theorem qhn (i:Int) (l:List Int):qik (i::l)=44::(Lib.itoa i++qik l):=rfl
theorem qiv (l:List Int) {r:List UInt8} (hr:qfk dig r):qfk dig (qik l++r):=by
 cases l with
 |nil=>exact hr
 |cons i l=>rw [qhn]; exact qJ (by decide)
theorem qfP:(a b:List Int)→ {r s:List UInt8} →qfk dig r→qfk dig s→qfk (· =44) r→qfk (· =44) s→qik a++r=qik b++s→a=b∧r=s
 |[],[],_,_,_,_,_,_,h=>⟨rfl,h⟩
 |[],j::b,r,s,_,_,hr,_,h=>absurd rfl (hr 44 (Lib.itoa j++qik b++s) h)
 |i::a,[],r,s,_,_,_,hs,h=>absurd rfl (hs 44 (Lib.itoa i++qik a++r) h.symm)
 |i::a,j::b,r,s,hr,hs,hr',hs',h=>by
  simp only [qhn,List.cons_append,List.append_assoc] at h
  injection h with _ h
  obtain ⟨h1,h2⟩:=qba (qiv a hr) (qiv b hs) h
  obtain ⟨h3,h4⟩:=qfP a b hr hs hr' hs' h2
  exact ⟨by rw [h1,h3],h4⟩
abbrev DFk:Type:=List UInt8×(List Int×(List UInt8×Unit))
def fkC (f:DFk):List UInt8:=qft f.1++(qft f.2.2.1++qik f.2.1)
theorem qqF {a b:DFk} (h:fkC a=fkC b):a=b:=by
 obtain ⟨a1,a2,a3,⟨⟩⟩:=a
 obtain ⟨b1,b2,b3,⟨⟩⟩:=b
 unfold fkC at h
 obtain ⟨h1,h2⟩:=qbz h
 obtain ⟨h3,h4⟩:=qbz h2
 obtain ⟨h5,_⟩:=qfP a2 b2 (r:=[]) (s:=[]) (qeC _) (qeC _) (qeC _) (qeC _) (by rw [List.append_nil,List.append_nil]; exact h4)
 simp only at h1 h3
 rw [h1,h3,h5]
abbrev DCol:Type:=List UInt8×(Int×(Bool×Unit))
abbrev qq4:Type:=List UInt8×(List DCol×(List Int×Unit))
def qm1 (b:Bool):List UInt8:=if b then [116,114,117,101] else [102,97,108,115,101]
def qqf (c:DCol):List UInt8:=qft c.1++(Lib.itoa c.2.1++(qm1 c.2.2.1++[44]))
def pkC (l:List Int):List UInt8:=(l.map fun i=>Lib.itoa i++[44]).flatten
def qpt (t:qq4):List UInt8:=qft t.1++40::(Lib.itoa (t.2.1.length:Int)++44::((t.2.1.map qqf).flatten++(pkC t.2.2.1++[41])))
theorem qim (b:Bool) (r:List UInt8):qfk dig (qm1 b++r):=by cases b <;> exact qJ (by decide)
theorem qm0 {a b:Bool} {r s:List UInt8} (h:qm1 a++r=qm1 b++s):a=b∧r=s:=by
 cases a <;> cases b <;> simp_all [qm1]
theorem qpf {a b:DCol} {r s:List UInt8} (h:qqf a++r=qqf b++s):a=b∧r=s:=by
 obtain ⟨a1,a2,a3,⟨⟩⟩:=a
 obtain ⟨b1,b2,b3,⟨⟩⟩:=b
 unfold qqf at h
 simp only [List.append_assoc] at h
 obtain ⟨h1,h2⟩:=qbz h
 obtain ⟨h3,h4⟩:=qba (qim _ _) (qim _ _) h2
 obtain ⟨h5,h6⟩:=qm0 h4
 exact ⟨by rw [h1,h3,h5],(List.append_cancel_left h6)⟩
theorem qjt:(xs ys:List DCol)→ {r s:List UInt8} →xs.length=ys.length→(xs.map qqf).flatten++r=(ys.map qqf).flatten++s→xs=ys∧r=s
 |[],[],_,_,_,h=>⟨rfl,h⟩
 |x::xs,y::ys,r,s,hl,h=>by
  simp only [List.map_cons,List.flatten_cons,List.append_assoc] at h
  obtain ⟨h1,h2⟩:=qpf h
  obtain ⟨h3,h4⟩:=qjt xs ys (by simpa using hl) h2
  exact ⟨by rw [h1,h3],h4⟩
theorem qh2 (i:Int) (l:List Int):pkC (i::l)=Lib.itoa i++44::pkC l:=by simp [pkC]
theorem qlv (i:Int) (r:List UInt8) {c:UInt8} {s:List UInt8} (hc:¬dig c):Lib.itoa i++r≠c::s:=fun e=>by
 cases h:Lib.itoa i with
 |nil=>exact qqM i h
 |cons x t=>
  rw [h] at e
  injection e with e1 _
  exact hc (e1 ▸ qgS i x (by rw [h]; exact List.mem_cons_self))
theorem qmR:(a b:List Int)→ {r s:List UInt8} →pkC a++41::r=pkC b++41::s→a=b∧r=s
 |[],[],_,_,h=>⟨rfl,(List.cons.inj h).2⟩
 |[],j::b,r,s,h=>by
  rw [qh2,List.append_assoc] at h
  exact absurd h.symm (qlv j _ (by decide))
 |i::a,[],r,s,h=>by
  rw [qh2,List.append_assoc] at h
  exact absurd h (qlv i _ (by decide))
 |i::a,j::b,r,s,h=>by
  simp only [qh2,List.append_assoc,List.cons_append] at h
  obtain ⟨h1,h2⟩:=qba (qJ (by decide)) (qJ (by decide)) h
  obtain ⟨h3,h4⟩:=qmR a b (List.cons.inj h2).2
  exact ⟨by rw [h1,h3],h4⟩
theorem qkO {a b:qq4} {r s:List UInt8} (h:qpt a++r=qpt b++s):a=b∧r=s:=by
 obtain ⟨a1,a2,a3,⟨⟩⟩:=a
 obtain ⟨b1,b2,b3,⟨⟩⟩:=b
 unfold qpt at h
 simp only [List.append_assoc,List.cons_append,List.nil_append] at h
 obtain ⟨h1,h2⟩:=qbz h
 obtain ⟨h3,h4⟩:=qba (qJ (by decide)) (qJ (by decide)) (List.cons.inj h2).2
 obtain ⟨h5,h6⟩:=qjt a2 b2 (by omega) (List.cons.inj h4).2
 obtain ⟨h7,h8⟩:=qmR a3 b3 h6
 exact ⟨by rw [h1,h5,h7],h8⟩
abbrev qlB:Type:=Int×(Int×(List UInt8×Unit))
abbrev DCon:Type:=List UInt8×(Int×(List UInt8×(Int×(qlB×Unit))))
abbrev qon:Type:=Int×(List UInt8×(List UInt8×(List UInt8×(List UInt8×(Int×(List Int×(List UInt8×(qlB×(qq4×(DCon×(DFk×Unit)))))))))))
def qj2 (x:qon):List qlB:=[(x.1,(x.2.2.2.2.2.1,(x.2.1,()))),(0,(0,(x.2.2.1,()))),(0,(0,(x.2.2.2.1,()))),(0,(0,(x.2.2.2.2.1,()))),(0,(0,(x.2.2.2.2.2.2.2.1,()))),x.2.2.2.2.2.2.2.2.1]
def qjM (x:qon):List qlB:=[(x.2.2.2.2.2.2.2.2.2.2.1.2.1,(x.2.2.2.2.2.2.2.2.2.2.1.2.2.2.1,(x.2.2.2.2.2.2.2.2.2.2.1.1,()))),(0,(0,(x.2.2.2.2.2.2.2.2.2.2.1.2.2.1,()))),x.2.2.2.2.2.2.2.2.2.2.1.2.2.2.2.1]
def qoo (x:qon):List UInt8:=qmr (qj2 x)++(qik x.2.2.2.2.2.2.1++59::(qpt x.2.2.2.2.2.2.2.2.2.1++(qmr (qjM x)++fkC x.2.2.2.2.2.2.2.2.2.2.2.1)))
theorem stepC_inj {a b:qon} (h:qoo a=qoo b):a=b:=by
 obtain ⟨a1,a2,a3,a4,a5,a6,a7,a8,a9,a10,⟨c1,c2,c3,c4,c5,⟨⟩⟩,a12,⟨⟩⟩:=a
 obtain ⟨b1,b2,b3,b4,b5,b6,b7,b8,b9,b10,⟨d1,d2,d3,d4,d5,⟨⟩⟩,b12,⟨⟩⟩:=b
 unfold qoo at h
 obtain ⟨h1,h2⟩:=qjw (by rfl) h
 obtain ⟨h3,h4⟩:=qfP _ _ (qJ (by decide)) (qJ (by decide)) (qJ (by decide)) (qJ (by decide)) h2
 obtain ⟨h5,h6⟩:=qkO (List.cons.inj h4).2
 obtain ⟨h7,h8⟩:=qjw (by rfl) h6
 have h9:=qqF h8
 simp only [qj2,qjM,List.cons.injEq,Prod.mk.injEq,and_true,true_and] at h1 h7
 simp only at h3 h5 h9
 grind
theorem equalLoop {α:Type} [DecidableEq α] {ne:α→α→Bool} (hne:∀a b,ne a b= !decide (a=b)) (xs ys:List α) (d:α) (hl:xs.length=ys.length) (hb:xs.length≤1099511627776) {N:Nat} (hN:xs.length<N):
  qac (S:=Int×Unit) (R:=(Bool×Unit)×Unit) N (fun ih0=>fun p1=>(bif (ltI p1.1 (qs xs)) then (bif ((inB p1.1 (qs xs))&&(inB p1.1 (qs ys))) then (bif (ne (qe xs p1.1 d) (qe ys p1.1 d)) then (some ((false,()),())) else (ih0 ((qB .i64 p1.1 1),()))) else none) else (some ((true,()),())))) (0,())=some ((decide (xs=ys),()),()):=by
 refine qbN (S:=Int×Unit) (R:=(Bool×Unit)×Unit) (fun p=>xs.length - p.1.toNat) (fun p=>∃i:Nat,p.1=(i:Int)∧i≤xs.length∧xs.take i=ys.take i) (fun _=>((decide (xs=ys),()),())) ?_ N _ ⟨0,rfl,Nat.zero_le _,by simp⟩ (by simp; omega)
 rintro ih ⟨_,_⟩ ⟨i,rfl,h2,h3⟩ hih
 simp only [Int.toNat_natCast] at hih⊢
 by_cases hi:i<xs.length
 ·have hj:i<ys.length:=by omega
  rw [qF (qd9 hi),qbh hi,qbh hj,qa2 d hi,qa2 d hj,hne]
  simp only [Bool.and_self,cond_true]
  by_cases e:xs[i]=ys[i]
  ·rw [qE (by simp [e]),qae (by omega),hih _ ⟨i+1,rfl,by omega,by rw [qdG hi,qdG hj,h3,e]⟩ (by simp only [Int.toNat_natCast]; omega)]
  ·rw [qF (by simp [e])]
   have:xs≠ys:=fun h=>e (by subst h; rfl)
   simp [this]
 ·rw [qE (qds hi)]
  have e1:i=xs.length:=by omega
  subst e1
  have:xs=ys:=by
   have:=h3
   rwa [List.take_length,hl,List.take_length] at this
  simp [this]
theorem qoZ {α:Type} (xs:List α) (b:Nat) (h:xs.length * b≤140737488355328):
  (bif (eqI (qs xs) 0) then (qn4 (some ((([]:List α),()),())) (bif (qdZ (qs ([]:List α)) (qs xs) b) then (some (((qfS ([]:List α) xs),()),())) else none)) else (bif (qdZ (qs ([]:List α)) (qs xs) b) then (some (((qfS ([]:List α) xs),()),())) else none))=some ((xs,()),()):=by
 have e:qdZ (qs ([]:List α)) (qs xs) b=true:=qeK (by simpa using h)
 rw [e,cond_true,qa6,List.nil_append]
 cases xs with
 |nil=>rw [qF (by rw [qcA,qn]; rfl),qlr,if_pos rfl]
 |cons x xs=>rw [qE (by rw [qcA,qn]; simp; omega)]
theorem roomS {a b:List UInt8} (ha:a.length≤4398046511104) (hb:b.length≤4398046511104):qdZ (qs a) (qs b) 1=true:=qeK (by omega)
theorem qeS {n:Int} (h:IntKind.i64.has n):(Lib.itoa n).length≤21:=by
 have h': -9223372036854775808≤n∧n≤9223372036854775807:=by simpa [IntKind.has,IntKind.min,IntKind.max,IntKind.signed,IntKind.bits] using h
 exact Lib.itoa_length_le n h'.1 h'.2
theorem qbf {n:Nat} (h:n≤maxLen):(Lib.itoa (n:Int)).length≤21:=by
 unfold maxLen at h
 exact Lib.itoa_length_le _ (by omega) (by omega)
theorem qdD {s:List UInt8} (h:s.length≤maxLen):(qft s).length≤s.length+22:=by
 have:=qbf h
 unfold qft
 simp only [List.length_append,List.length_cons]
 omega
theorem qdc {v:qlB} (h:IntKind.i64.has v.1∧IntKind.i64.has v.2.1∧v.2.2.1.length≤maxLen):(qlz v).length≤v.2.2.1.length+67:=by
 have h1:=qeS h.1
 have h2:=qeS h.2.1
 have h3:=qbf h.2.2
 unfold qlz
 simp only [List.length_append,List.length_cons]
 omega
theorem qiR: {l:List Int} →(∀i∈l,IntKind.i64.has i)→(qik l).length≤22 * l.length
 |[],_=>Nat.zero_le _
 |i::l,h=>by
  have h1:=qeS (h i List.mem_cons_self)
  have h2:=qiR (l:=l) fun j hj=>h j (List.mem_cons_of_mem _ hj)
  rw [qhn]
  simp only [List.length_append,List.length_cons] at h2⊢
  omega
theorem qos: {l:List Int} →(∀i∈l,IntKind.i64.has i)→(pkC l).length≤22 * l.length
 |[],_=>Nat.zero_le _
 |i::l,h=>by
  have h1:=qeS (h i List.mem_cons_self)
  have h2:=qos (l:=l) fun j hj=>h j (List.mem_cons_of_mem _ hj)
  rw [qh2]
  simp only [List.length_append,List.length_cons] at h2⊢
  omega
abbrev TCol:Ty:= .pair .str (.pair (.int .i64) (.pair .bool .unit))
theorem qkw: {l:List DCol} →(∀c∈l,TCol.good c)→((l.map qqf).flatten).length≤50 * (l.map TCol.bulk).sum
 |[],_=>Nat.zero_le _
 |c::l,h=>by
  have h0:=h c List.mem_cons_self
  obtain ⟨c1,c2,c3,⟨⟩⟩:=c
  have h1:=qdD (s:=c1) h0.1
  have h2:=qeS (n:=c2) h0.2.1
  have h3:(qm1 c3).length≤5:=by cases c3 <;> decide
  have h4:=qkw (l:=l) fun j hj=>h j (List.mem_cons_of_mem _ hj)
  have h5:TCol.bulk (c1,c2,c3,PUnit.unit)=c1.length+1+(1+(1+1)):=rfl
  simp only [List.map_cons,List.flatten_cons,qqf,List.length_append,List.length_cons,List.length_nil,List.sum_cons] at h4⊢
  omega
theorem qgI:(l:List Int)→(l.map (Ty.bulk (.int .i64))).sum=l.length
 |[]=>rfl
 |i::l=>by
  have:Ty.bulk (.int .i64) i=1:=rfl
  rw [List.map_cons,List.sum_cons,qgI l,this,List.length_cons]; omega
abbrev TVal:Ty:= .pair (.int .i64) (.pair (.int .i64) (.pair .str .unit))
abbrev qpk:Ty:= .pair .str (.pair (.slice TCol) (.pair (.slice (.int .i64)) .unit))
abbrev TFk:Ty:= .pair .str (.pair (.slice (.int .i64)) (.pair .str .unit))
abbrev qqN:Ty:= .pair .str (.pair (.int .i64) (.pair .str (.pair (.int .i64) (.pair TVal .unit))))
abbrev qqU:Ty:= .pair (.int .i64) (.pair .str (.pair .str (.pair .str (.pair .str (.pair (.int .i64) (.pair (.slice (.int .i64)) (.pair .str (.pair TVal (.pair qpk (.pair qqN (.pair TFk .unit)))))))))))
theorem qmT {t:qq4} (h:qpk.good t):(qpt t).length≤50 * qpk.bulk t:=by
 obtain ⟨t1,t2,t3,⟨⟩⟩:=t
 have h1:=qdD (s:=t1) h.1
 have h2:=qbf (n:=t2.length) h.2.1.1
 have h3:=qkw (l:=t2) h.2.1.2
 have h4:=qos (l:=t3) h.2.2.1.2
 have h5:qpk.bulk (t1,t2,t3,PUnit.unit)=t1.length+1+((t2.map TCol.bulk).sum+1+((t3.map (Ty.bulk (.int .i64))).sum+1+1)):=rfl
 rw [qgI] at h5
 simp only [qpt,List.length_append,List.length_cons,List.length_nil]
 omega
theorem qoz {f:DFk} (h:TFk.good f):(fkC f).length≤50 * TFk.bulk f:=by
 obtain ⟨f1,f2,f3,⟨⟩⟩:=f
 have h1:=qdD (s:=f1) h.1
 have h2:=qdD (s:=f3) h.2.2.1
 have h3:=qiR (l:=f2) h.2.1.2
 have h5:TFk.bulk (f1,f2,f3,PUnit.unit)=f1.length+1+((f2.map (Ty.bulk (.int .i64))).sum+1+(f3.length+1+1)):=rfl
 rw [qgI] at h5
 simp only [fkC,List.length_append]
 omega
theorem qdf:IntKind.i64.has 0:=⟨by decide,by decide⟩
theorem stepC_len {x:qon} (h:qqU.good x):(qoo x).length≤50 * qqU.bulk x+1000:=by
 obtain ⟨a1,a2,a3,a4,a5,a6,a7,a8,⟨v1,v2,v3,⟨⟩⟩,a10,⟨c1,c2,c3,c4,⟨d1,d2,d3,⟨⟩⟩,⟨⟩⟩,a12,⟨⟩⟩:=x
 obtain ⟨h1,h2,h3,h4,h5,h6,h7,h8,⟨hv1,hv2,hv3,_⟩,h10,⟨hc1,hc2,hc3,hc4,⟨hd1,hd2,hd3,_⟩,_⟩,h12,_⟩:=h
 have e1:=qdc (v:=(a1,a6,a2,())) ⟨h1,h6,h2⟩
 have e2:=qdc (v:=(0,0,a3,())) ⟨qdf,qdf,h3⟩
 have e3:=qdc (v:=(0,0,a4,())) ⟨qdf,qdf,h4⟩
 have e4:=qdc (v:=(0,0,a5,())) ⟨qdf,qdf,h5⟩
 have e5:=qdc (v:=(0,0,a8,())) ⟨qdf,qdf,h8⟩
 have e6:=qdc (v:=(v1,v2,v3,PUnit.unit)) ⟨hv1,hv2,hv3⟩
 have e7:=qdc (v:=(c2,c4,c1,())) ⟨hc2,hc4,hc1⟩
 have e8:=qdc (v:=(0,0,c3,())) ⟨qdf,qdf,hc3⟩
 have e9:=qdc (v:=(d1,d2,d3,PUnit.unit)) ⟨hd1,hd2,hd3⟩
 have g1:=qiR (l:=a7) h7.2
 have g2:=qmT (t:=a10) h10
 have g3:=qoz (f:=a12) h12
 have g4:(Lib.itoa 6).length≤21:=qbf (n:=6) (by unfold maxLen; omega)
 have g5:(Lib.itoa 3).length≤21:=qbf (n:=3) (by unfold maxLen; omega)
 have hb:qqU.bulk (a1,a2,a3,a4,a5,a6,a7,a8,(v1,v2,v3,PUnit.unit),a10,(c1,c2,c3,c4,(d1,d2,d3,PUnit.unit),PUnit.unit),a12,PUnit.unit)=1+(a2.length+1+(a3.length+1+(a4.length+1+(a5.length+1+(1+((a7.map (Ty.bulk (.int .i64))).sum+1+(a8.length+1+((1+(1+(v3.length+1+1)))+(qpk.bulk a10+((c1.length+1+(1+(c3.length+1+(1+((1+(1+(d3.length+1+1)))+1)))))+(TFk.bulk a12+1))))))))))):=rfl
 rw [qgI] at hb
 simp only [qoo,qj2,qjM,qmr,List.length_append,List.length_cons,List.length_nil,List.map_cons,List.map_nil,List.flatten_cons,List.flatten_nil] at e1 e2 e3 e4 e5 e6 e7 e8 e9⊢
 have q1:(((0+1+1+1+1+1+1:Nat)):Int)=6:=rfl
 have q2:(((0+1+1+1:Nat)):Int)=3:=rfl
 rw [q1,q2]
 omega
theorem qpQ {a b:DFk} {r s:List UInt8} (h:fkC a++59::r=fkC b++59::s):a=b∧r=s:=by
 obtain ⟨a1,a2,a3,⟨⟩⟩:=a
 obtain ⟨b1,b2,b3,⟨⟩⟩:=b
 unfold fkC at h
 simp only [List.append_assoc] at h
 obtain ⟨h1,h2⟩:=qbz h
 obtain ⟨h3,h4⟩:=qbz h2
 obtain ⟨h5,h6⟩:=qfP a2 b2 (qJ (by decide)) (qJ (by decide)) (qJ (by decide)) (qJ (by decide)) h4
 exact ⟨by rw [h1,h3,h5],(List.cons.inj h6).2⟩
def qqk (c:DCon):List UInt8:=qft c.1++(qft c.2.2.1++(Lib.itoa c.2.1++32::(Lib.itoa c.2.2.2.1++qmr [c.2.2.2.2.1])))
theorem qmu (v:qlB):qmr [v]=49::qlz v:=by
 have:Lib.itoa ((([v]:List qlB).length:Nat):Int)=[49]:=by show Lib.itoa 1=[49]; decide+kernel
 unfold qmr
 rw [this]
 simp
theorem qph {a b:DCon} {r s:List UInt8} (h:qqk a++r=qqk b++s):a=b∧r=s:=by
 obtain ⟨a1,a2,a3,a4,a5,⟨⟩⟩:=a
 obtain ⟨b1,b2,b3,b4,b5,⟨⟩⟩:=b
 unfold qqk at h
 simp only [List.append_assoc,qmu,List.cons_append] at h
 obtain ⟨h1,h2⟩:=qbz h
 obtain ⟨h3,h4⟩:=qbz h2
 obtain ⟨h5,h6⟩:=qba (qJ (by decide)) (qJ (by decide)) h4
 have h7:=(List.cons.inj h6).2
 have st:∀(v:qlB) (x:List UInt8),qfk dig (qlz v++x):=fun v x=>by unfold qlz; exact qJ (by decide)
 have e1:∀(n:Int) (x:List UInt8),Lib.itoa n++49::x=(Lib.itoa n++[49])++x:=fun n x=>by simp
 rw [e1 a4 (qlz a5++r),e1 b4 (qlz b5++s)] at h7
 obtain ⟨h8,h9⟩:=part (P:=dig) (Lib.itoa a4++[49]) (Lib.itoa b4++[49]) (fun x hx=>by
  rcases List.mem_append.1 hx with hx|hx
  ·exact qgS _ _ hx
  ·simp at hx; subst hx; exact .inr (by decide)) (fun x hx=>by
  rcases List.mem_append.1 hx with hx|hx
  ·exact qgS _ _ hx
  ·simp at hx; subst hx; exact .inr (by decide)) (st _ _) (st _ _) h7
 have h10:=qmO (List.append_cancel_right h8)
 obtain ⟨h11,h12⟩:=qk4 h9
 exact ⟨by rw [h1,h3,h5,h10,h11],h12⟩
theorem qgZ {α:Type} (f:α→List UInt8) (hf:∀ {a b:α} {r s:List UInt8},f a++r=f b++s→a=b∧r=s):(xs ys:List α)→ {r s:List UInt8} →xs.length=ys.length→(xs.map f).flatten++r=(ys.map f).flatten++s→xs=ys∧r=s
 |[],[],_,_,_,h=>⟨rfl,h⟩
 |x::xs,y::ys,r,s,hl,h=>by
  simp only [List.map_cons,List.flatten_cons,List.append_assoc] at h
  obtain ⟨h1,h2⟩:=hf h
  obtain ⟨h3,h4⟩:=qgZ f hf xs ys (by simpa using hl) h2
  exact ⟨by rw [h1,h3],h4⟩
abbrev DSch:Type:=List qq4×(List DFk×(List DCon×Unit))
def fkS (f:DFk):List UInt8:=fkC f++[59]
def schC (s:DSch):List UInt8:=Lib.itoa (s.1.length:Int)++59::(Lib.itoa (s.2.1.length:Int)++59::(Lib.itoa (s.2.2.1.length:Int)++59::((s.1.map qpt).flatten++((s.2.1.map fkS).flatten++(s.2.2.1.map qqk).flatten))))
theorem schC_inj {a b:DSch} (h:schC a=schC b):a=b:=by
 obtain ⟨a1,a2,a3,⟨⟩⟩:=a
 obtain ⟨b1,b2,b3,⟨⟩⟩:=b
 unfold schC at h
 obtain ⟨h1,h2⟩:=qba (qJ (by decide)) (qJ (by decide)) h
 obtain ⟨h3,h4⟩:=qba (qJ (by decide)) (qJ (by decide)) (List.cons.inj h2).2
 obtain ⟨h5,h6⟩:=qba (qJ (by decide)) (qJ (by decide)) (List.cons.inj h4).2
 simp only at h1 h3 h5
 obtain ⟨h7,h8⟩:=qgZ qpt (fun h=>qkO h) a1 b1 (by omega) (List.cons.inj h6).2
 obtain ⟨h9,h10⟩:=qgZ fkS (fun {x y r s} h=>by
  unfold fkS at h
  simp only [List.append_assoc,List.cons_append,List.nil_append] at h
  exact qpQ h) a2 b2 (by omega) h8
 obtain ⟨h11,_⟩:=qgZ qqk (fun h=>qph h) a3 b3 (r:=[]) (s:=[]) (by omega) (by simpa using h10)
 rw [h7,h9,h11]
theorem qpN {c:DCon} (h:qqN.good c):(qqk c).length≤150 * qqN.bulk c:=by
 obtain ⟨c1,c2,c3,c4,⟨d1,d2,d3,⟨⟩⟩,⟨⟩⟩:=c
 obtain ⟨h1,h2,h3,h4,⟨k1,k2,k3,_⟩,_⟩:=h
 have e1:=qdD (s:=c1) h1
 have e2:=qdD (s:=c3) h3
 have e3:(Lib.itoa c2).length≤21:=qeS h2
 have e4:(Lib.itoa c4).length≤21:=qeS h4
 have e5:(qlz (d1,d2,d3,PUnit.unit)).length≤d3.length+67:=qdc (v:=(d1,d2,d3,PUnit.unit)) ⟨k1,k2,k3⟩
 have hb:qqN.bulk (c1,c2,c3,c4,(d1,d2,d3,PUnit.unit),PUnit.unit)=c1.length+1+(1+(c3.length+1+(1+((1+(1+(d3.length+1+1)))+1)))):=rfl
 simp only [qqk,qmu,List.length_append,List.length_cons]
 omega
theorem qhY {α:Type} (f:α→List UInt8) (m:α→Nat) (c:Nat):(l:List α)→(∀x∈l,(f x).length≤c * m x)→((l.map f).flatten).length≤c * (l.map m).sum
 |[],_=>Nat.zero_le _
 |x::l,h=>by
  have h1:=h x List.mem_cons_self
  have h2:=qhY f m c l fun y hy=>h y (List.mem_cons_of_mem _ hy)
  simp only [List.map_cons,List.flatten_cons,List.length_append,List.sum_cons,Nat.mul_add] at h2⊢
  omega
abbrev TSch:Ty:= .pair (.slice qpk) (.pair (.slice TFk) (.pair (.slice qqN) .unit))
theorem qqo (t:qq4):1≤qpk.bulk t:=qhV qpk t
theorem qq3 {f:DFk} (h:TFk.good f):(fkS f).length≤150 * TFk.bulk f:=by
 have h1:=qoz h
 have h2:=qhV TFk f
 unfold fkS
 simp only [List.length_append,List.length_cons,List.length_nil]
 omega
theorem qpL (a:List qq4) (b:List DFk) (c:List DCon):TSch.bulk (a,b,c,PUnit.unit)=(a.map qpk.bulk).sum+1+((b.map TFk.bulk).sum+1+((c.map qqN.bulk).sum+1+1)):=rfl
theorem schC_len {s:DSch} (h:TSch.good s):(schC s).length≤150 * TSch.bulk s+100:=by
 obtain ⟨a,b,c,⟨⟩⟩:=s
 obtain ⟨⟨h1,h2⟩,⟨h3,h4⟩,⟨h5,h6⟩,_⟩:=h
 have e1:=qbf (n:=a.length) h1
 have e2:=qbf (n:=b.length) h3
 have e3:=qbf (n:=c.length) h5
 have e4:=qhY qpt qpk.bulk 150 a fun t ht=>Nat.le_trans (qmT (h2 t ht)) (Nat.mul_le_mul_right _ (by omega))
 have e5:=qhY fkS TFk.bulk 150 b fun t ht=>qq3 (h4 t ht)
 have e6:=qhY qqk qqN.bulk 150 c fun t ht=>qpN (h6 t ht)
 rw [qpL]
 simp only [schC,List.length_append,List.length_cons]
 omega
theorem qmJ (a b:List UInt8):Lib.compareBytes a b= -1∨Lib.compareBytes a b=0∨Lib.compareBytes a b=1:=by
 induction a generalizing b with
 |nil=>cases b <;> simp [Lib.compareBytes]
 |cons x a ih=>cases b with
  |nil=>simp [Lib.compareBytes]
  |cons y b=>
   simp only [Lib.compareBytes]
   split
   ·simp
   ·split
    ·simp
    ·exact ih b
theorem qoe (a b:List UInt8):Lib.compareBytes b a= - Lib.compareBytes a b:=by
 induction a generalizing b with
 |nil=>cases b <;> simp [Lib.compareBytes]
 |cons x a ih=>cases b with
  |nil=>simp [Lib.compareBytes]
  |cons y b=>
   simp only [Lib.compareBytes]
   by_cases h1:x<y
   ·have h2:¬y<x:=fun h=>by have:=UInt8.lt_iff_toNat_lt.1 h; have:=UInt8.lt_iff_toNat_lt.1 h1; omega
    simp [h1,h2]
   ·by_cases h2:y<x
    ·simp [h1,h2]
    ·simp [h1,h2,ih b]
theorem ql7 (a b:List UInt8):Lib.compareBytes a b=0↔a=b:=by
 induction a generalizing b with
 |nil=>cases b <;> simp [Lib.compareBytes]
 |cons x a ih=>cases b with
  |nil=>simp [Lib.compareBytes]
  |cons y b=>
   simp only [Lib.compareBytes]
   by_cases h1:x<y
   ·have:x≠y:=fun e=>by subst e; have:=UInt8.lt_iff_toNat_lt.1 h1; omega
    simp [h1,this]
   ·by_cases h2:y<x
    ·have:x≠y:=fun e=>by subst e; have:=UInt8.lt_iff_toNat_lt.1 h2; omega
     simp [h1,h2,this]
    ·have:x=y:=UInt8.toNat_inj.1 (by
      have h1:¬x.toNat<y.toNat:=fun h=>h1 (UInt8.lt_iff_toNat_lt.2 h)
      have h2:¬y.toNat<x.toNat:=fun h=>h2 (UInt8.lt_iff_toNat_lt.2 h)
      omega)
     simp [h1,h2,ih b,this]
theorem qj7 (a b:List UInt8):qjd a b=decide (Lib.compareBytes a b<0):=by
 rw [qk0]
 induction a generalizing b with
 |nil=>cases b <;> simp [Lib.compareBytes,Op.bytesLess]
 |cons x a ih=>cases b with
  |nil=>simp [Lib.compareBytes,Op.bytesLess]
  |cons y b=>
   simp only [Lib.compareBytes,Op.bytesLess]
   by_cases h1:x<y
   ·simp [h1]
   ·by_cases h2:y<x
    ·have:x≠y:=fun e=>by subst e; have:=UInt8.lt_iff_toNat_lt.1 h2; omega
     simp [h1,h2,this]
    ·have:x=y:=UInt8.toNat_inj.1 (by
      have h1:¬x.toNat<y.toNat:=fun h=>h1 (UInt8.lt_iff_toNat_lt.2 h)
      have h2:¬y.toNat<x.toNat:=fun h=>h2 (UInt8.lt_iff_toNat_lt.2 h)
      omega)
     simp [h1,h2,ih b,this]
theorem qq5 (a b:List UInt8):(qjd a b||eqS a b)= !qjd b a:=by
 rw [qj7,qj7,qoe a b,qgx]
 rcases qmJ a b with h|h|h
 ·simp [h]
 ·rw [h]; simp [(ql7 a b).1 h]
 ·have:a≠b:=fun e=>by rw [(ql7 a b).2 e] at h; omega
  simp [h,this]
end Go.Vi
