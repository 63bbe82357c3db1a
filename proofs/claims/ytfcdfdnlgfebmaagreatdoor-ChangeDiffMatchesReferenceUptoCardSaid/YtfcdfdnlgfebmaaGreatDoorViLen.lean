/- How many bits: math/bits.Len64. -/
import Derived.Test.YtfcdfdnlgfebmaaGreatDoorViPdq
set_option linter.unusedVariables false
set_option linter.unusedSimpArgs false
set_option linter.unnecessarySimpa false
set_option linter.unusedSectionVars false
set_option linter.unusedSimpArgs false
set_option maxRecDepth 100000
namespace Go.Vi
noncomputable section
def qem:List UInt8:=[0,1,2,2,3,3,3,3,4,4,4,4,4,4,4,4,5,5,5,5,5,5,5,5,5,5,5,5,5,5,5,5,6,6,6,6,6,6,6,6,6,6,6,6,6,6,6,6,6,6,6,6,6,6,6,6,6,6,6,6,6,6,6,6,7,7,7,7,7,7,7,7,7,7,7,7,7,7,7,7,7,7,7,7,7,7,7,7,7,7,7,7,7,7,7,7,7,7,7,7,7,7,7,7,7,7,7,7,7,7,7,7,7,7,7,7,7,7,7,7,7,7,7,7,7,7,7,7,8,8,8,8,8,8,8,8,8,8,8,8,8,8,8,8,8,8,8,8,8,8,8,8,8,8,8,8,8,8,8,8,8,8,8,8,8,8,8,8,8,8,8,8,8,8,8,8,8,8,8,8,8,8,8,8,8,8,8,8,8,8,8,8,8,8,8,8,8,8,8,8,8,8,8,8,8,8,8,8,8,8,8,8,8,8,8,8,8,8,8,8,8,8,8,8,8,8,8,8,8,8,8,8,8,8,8,8,8,8,8,8,8,8,8,8,8,8,8,8,8,8,8,8,8,8,8,8]
def qsp (x:(Int×Unit)):Option ((Int×Unit)×Unit):=
 (bif (bif (leI 4294967296 x.1) then (leI 0 32) else true) then (qW (bif (leI 4294967296 x.1) then (qi4 .u64 x.1 32) else x.1) (fun y0=>(qW (bif (leI 4294967296 x.1) then 32 else 0) (fun y1=>(bif (bif (leI 65536 y0) then (leI 0 16) else true) then (qW (bif (leI 65536 y0) then (qi4 .u64 y0 16) else y0) (fun y2=>(qW (bif (leI 65536 y0) then (qQ .i64 y1 16) else y1) (fun y3=>(bif (bif (leI 256 y2) then (leI 0 8) else true) then (qW (bif (leI 256 y2) then (qi4 .u64 y2 8) else y2) (fun y4=>(qW (bif (leI 256 y2) then (qQ .i64 y3 8) else y3) (fun y5=>(bif (inB (qcr .u8 y4) (qn qem)) then (some (((qQ .i64 y5 (qcr .i64 (qcc (qh qem (qcr .u8 y4) 0)))),()),())) else none))))) else none))))) else none))))) else none)
theorem qn9:∀m:Fin 256,qem[m.val]? =some (qem.getD m.val 0)∧(qem.getD m.val 0).toNat≤8∧(1≤m.val→2^ (qem.getD m.val 0).toNat≤2 * m.val)∧(m.val=0→(qem.getD m.val 0).toNat=0):=by decide+kernel
theorem shr_n (x:Int) (n:Nat) (hn:n≤64) (h0:0≤x):qi4 .u64 x (n:Int)=x / (2:Int)^n:=by
 rw [qjR]
 have e:min ((n:Int)).toNat IntKind.u64.bits=n:=by simp [IntKind.bits]; omega
 rw [e,Int.fdiv_eq_ediv_of_nonneg _ (by exact Int.le_of_lt (Int.pow_pos (by omega)))]
theorem qqK {y0 s0 k c:Nat} {n:Nat} (hn:n≤64) (hc:c=2^n) (h:y0 * 2^s0≤k) (hp:1≤k→1≤y0) (hs:s0≤56) (hns:n≤32):∃y1 s1:Nat,(bif (leI (c:Int) (y0:Int)) then (qi4 .u64 (y0:Int) (n:Int)) else (y0:Int))=(y1:Int)∧(bif (leI (c:Int) (y0:Int)) then (qQ .i64 (s0:Int) (n:Int)) else (s0:Int))=(s1:Int)∧y1 * 2^s1≤k∧(1≤k→1≤y1)∧s1≤s0+n∧(y1=y0 / c∧c≤y0∨y1=y0∧y0<c):=by
 by_cases q:c≤y0
 ·have e1:leI (c:Int) (y0:Int)=true:=leT (by omega)
  rw [e1,cond_true,cond_true,shr_n _ n hn (by omega),qaz (by omega) (by omega)]
  refine ⟨y0 / c,s0+n,?_,by omega,?_,fun _=> ?_,Nat.le_refl _,.inl ⟨rfl,q⟩⟩
  ·rw [hc]; norm_cast
  ·rw [Nat.pow_add,Nat.mul_comm (2^s0),←Nat.mul_assoc,←hc]
   exact Nat.le_trans (Nat.mul_le_mul_right _ (Nat.div_mul_le_self _ _)) h
  ·have:0<c:=by rw [hc]; exact Nat.pow_pos (by omega)
   exact Nat.div_pos q this
 ·have e1:leI (c:Int) (y0:Int)=false:=leF (by omega)
  rw [e1,cond_false,cond_false]
  exact ⟨y0,s0,rfl,rfl,h,hp,by omega,.inr ⟨rfl,by omega⟩⟩
theorem qq5:qn qem=256:=by rw [qi]; decide+kernel
theorem qq4 {m:Nat} (h:m<256):qh qem (m:Int) 0=qem.getD m 0:=by
 have:=(qn9 ⟨m,h⟩).1
 have hl:m<qem.length:=(List.getElem?_eq_some_iff.1 this).1
 rw [qP _ hl]
 rw [List.getElem?_eq_getElem hl] at this
 injection this
theorem qtl:qro qsp:=fun k hk=>by
 have l0:∀n:Nat,leI 0 (n:Int)=true:=fun n=>leT (by omega)
 have l32:leI 0 32=true:=leT (by omega)
 have l16:leI 0 16=true:=leT (by omega)
 have l8:leI 0 8=true:=leT (by omega)
 have bt:∀b:Bool,(bif b then true else true)=true:=fun b=>by cases b <;> rfl
 obtain ⟨y1,s1,a1,a2,a3,a4,a5,a6⟩:∃y1 s1:Nat,(bif (leI 4294967296 (k:Int)) then (qi4 .u64 (k:Int) 32) else (k:Int))=(y1:Int)∧(bif (leI 4294967296 (k:Int)) then 32 else 0)=(s1:Int)∧y1 * 2^s1≤k∧(1≤k→1≤y1)∧s1≤32∧y1<4294967296:=by
  by_cases q:4294967296≤k
  ·have e1:leI 4294967296 (k:Int)=true:=leT (by omega)
   have e2:=shr_n (k:Int) 32 (by omega) (by omega)
   have e3:qi4 .u64 (k:Int) 32=(k:Int) / (2:Int)^32:=e2
   rw [e1,cond_true,cond_true,e3]
   exact ⟨k / 4294967296,32,by omega,rfl,by omega,by omega,Nat.le_refl _,by omega⟩
  ·have e1:leI 4294967296 (k:Int)=false:=leF (by omega)
   rw [e1,cond_false,cond_false]
   exact ⟨k,0,rfl,rfl,by omega,id,by omega,by omega⟩
 obtain ⟨y2,s2,b1,b2,b3,b4,b5,b6⟩:=qqK (n:=16) (c:=65536) (by omega) (by decide) a3 a4 (by omega) (by omega)
 obtain ⟨y3,s3,c1,c2,c3,c4,c5,c6⟩:=qqK (n:=8) (c:=256) (by omega) (by decide) b3 b4 (by omega) (by omega)
 have h3:y3<256:=by omega
 have b1':(bif (leI 65536 (y1:Int)) then (qi4 .u64 (y1:Int) 16) else (y1:Int))=(y2:Int):=b1
 have b2':(bif (leI 65536 (y1:Int)) then (qQ .i64 (s1:Int) 16) else (s1:Int))=(s2:Int):=b2
 have c1':(bif (leI 256 (y2:Int)) then (qi4 .u64 (y2:Int) 8) else (y2:Int))=(y3:Int):=c1
 have c2':(bif (leI 256 (y2:Int)) then (qQ .i64 (s2:Int) 8) else (s2:Int))=(s3:Int):=c2
 have w8:qcr .u8 (y3:Int)=(y3:Int):=by rw [qeu,qtm]; omega
 obtain ⟨_,t1,t2,t3⟩:=qn9 ⟨y3,h3⟩
 simp only at t1 t2 t3
 have ib:inB (y3:Int) 256=true:=by rw [qca]; simp; omega
 have e5:qQ .i64 (s3:Int) (qcr .i64 (qcc (qh qem (y3:Int) 0)))=((s3+(qem.getD y3 0).toNat:Nat):Int):=by
  rw [qq4 h3,qe9,qpW (by omega) (by omega),qaz (by omega) (by omega)]
  omega
 refine ⟨s3+(qem.getD y3 0).toNat,?_,?_⟩
 ·simp only [qsp,qI,l32,l16,l8,bt,cond_true,a1,a2,b1',b2',c1',c2',w8,qq5,ib,e5]
 ·have hp:1≤k→2^ (s3+(qem.getD y3 0).toNat)≤2 * k:=fun hk1=>by
   have h4:=t2 (c4 hk1)
   rw [Nat.pow_add]
   calc 2^s3 * 2^ (qem.getD y3 0).toNat≤2^s3 * (2 * y3):=Nat.mul_le_mul_left _ h4
    _=2 * (y3 * 2^s3):=by rw [Nat.mul_left_comm,Nat.mul_comm (2^s3)]
    _≤2 * k:=Nat.mul_le_mul_left _ c3
  refine ⟨?_,hp⟩
  by_cases hk1:1≤k
  ·have h5:=hp hk1
   have h6:2^ (s3+(qem.getD y3 0).toNat)≤2^41:=by
    have:(2:Nat)^41=2199023255552:=by decide
    omega
   exact (Nat.pow_le_pow_iff_right (by omega)).1 h6
  ·have hk0:k=0:=by omega
   subst hk0
   have z1:leI 4294967296 (((0:Nat)):Int)=false:=leF (by omega)
   rw [z1] at a1 a2
   simp only [cond_false] at a1 a2
   have y10:y1=0:=by omega
   have s10:s1=0:=by omega
   have y20:y2=0:=by omega
   have z2:leI 65536 (y1:Int)=false:=leF (by omega)
   have z3:leI 256 (y2:Int)=false:=leF (by omega)
   rw [z2] at b2'
   rw [z3] at c2'
   simp only [cond_false] at b2' c2'
   have y30:y3=0:=by omega
   have:=t3 y30
   omega
end
end Go.Vi
