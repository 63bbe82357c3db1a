/- The abstract interpreter: numbers, strings, truths. -/
import Derived.Test.YtfcdfdnlgfebmaaGreatDoorViOp2
import Derived.Laws.Concat
import Derived.Laws.Small
import Derived.Laws.Unary
set_option linter.unusedVariables false
set_option linter.unusedSimpArgs false
set_option linter.unnecessarySimpa false
set_option linter.unusedSectionVars false
namespace Go.Vi
open Go.RowKit
theorem qdc (k:IntKind) (n:Int):k.has (k.wrap n):=by
 cases k <;> simp [IntKind.has,IntKind.wrap,IntKind.bits,IntKind.signed,IntKind.min,IntKind.max] <;> omega
theorem qmY (k:IntKind):k.min≤0:=by cases k <;> decide
theorem qmT (k:IntKind):0≤k.max:=by cases k <;> decide
theorem qt2 {k:IntKind} {x y:Int} (h:k.has x) (hy:y≠0):k.has (x.tmod y):=by
 have h1:=qmY k
 have h2:=qmT k
 obtain ⟨h3,h4⟩:=h
 by_cases hx:0≤x
 ·have e1:0≤x.tmod y:=Int.tmod_nonneg y hx
  have e2:x.tmod y≤x:=by
   have:=Int.natAbs_tmod x y
   have h5:(x.natAbs % y.natAbs)≤x.natAbs:=Nat.mod_le _ _
   omega
  exact ⟨by omega,by omega⟩
 ·have h5:(x.natAbs % y.natAbs)≤x.natAbs:=Nat.mod_le _ _
  have:=Int.natAbs_tmod x y
  have e1:x.tmod y≤0:=by
   have:=Int.tmod_nonneg y (show 0≤ -x by omega)
   rw [Int.neg_tmod] at this
   omega
  exact ⟨by omega,by omega⟩
theorem quE {k:IntKind} {x:Int} (h:k.has x) (n:Nat):k.has (x.fdiv (2^n)):=by
 have h1:=qmY k
 have h2:=qmT k
 obtain ⟨h3,h4⟩:=h
 have hp:(0:Int)<2^n:=by exact Int.pow_pos (by decide)
 have hp1:(1:Int)≤2^n:=hp
 have e:x.fdiv (2^n)=x / 2^n:=by rw [Int.fdiv_eq_ediv_of_nonneg _ (Int.le_of_lt hp)]
 rw [e]
 by_cases hx:0≤x
 ·have e1:0≤x / 2^n:=Int.ediv_nonneg hx (Int.le_of_lt hp)
  have e2:x / 2^n≤x:=Int.ediv_le_self _ hx
  exact ⟨by omega,by omega⟩
 ·have e1:x / 2^n<0:=Int.ediv_neg_of_neg_of_pos (by omega) hp
  have e2:x≤x / 2^n:=by
   rw [Int.le_ediv_iff_mul_le hp]
   have:x * 2^n≤x * 1:=Int.mul_le_mul_of_nonpos_left (by omega) hp1
   omega
  exact ⟨by omega,by omega⟩
def qd3 (c:List Bool):Prop:=∀b∈c,b=true
section
variable {P:Program} {w:World} {F:Nat→Prop}
theorem qtM {op:BinOp} {k k':IntKind} {x y:Int} (hx:k.has x) (hy:k'.has y) (hk:(qlc op||decide (k=k'))=true) (hc:qd3 (qp7 op k x y).2) (t:Nat):
  ∃v,(binOp op t (.int k x) (.int k' y)).run P w= .ok v w∧∃u z,(qp7 op k x y).1= .val u z∧qaq w F u z v:=by
 by_cases hs:qlc op=true
 ·cases op <;> simp [qlc] at hs
  ·have h0:0≤y:=by simpa [qp7,qd3,qba] using hc
   exact ⟨.int k (qjV k x y),by simp [binOp,Op.shift,show ¬y<0 by omega,qk6],.int k,_,rfl,qaq.ofInt _ _ (by rw [qk6]; exact qdc _ _)⟩
  ·have h0:0≤y:=by simpa [qp7,qd3,qba] using hc
   exact ⟨.int k (qi4 k x y),by simp [binOp,Op.shift,show ¬y<0 by omega,qjR],.int k,_,rfl,qaq.ofInt _ _ (by rw [qjR]; exact quE hx _)⟩
 ·have hkk:k=k':=by simpa [hs] using hk
  subst hkk
  cases op <;> simp [qlc] at hs
  ·exact ⟨.int k (qQ k x y),by simp [binOp,Op.intArith,qk3],.int k,_,rfl,qaq.ofInt _ _ (by rw [qk3]; exact qdc _ _)⟩
  ·exact ⟨.int k (qO k x y),by simp [binOp,Op.intArith,qi6],.int k,_,rfl,qaq.ofInt _ _ (by rw [qi6]; exact qdc _ _)⟩
  ·exact ⟨.int k (qmn k x y),by simp [binOp,Op.intArith,qed],.int k,_,rfl,qaq.ofInt _ _ (by rw [qed]; exact qdc _ _)⟩
  ·have h0:y≠0:=by simpa [qp7,qd3,qnT] using hc
   exact ⟨.int k (qom k x y),by simp [binOp,Op.intDiv,h0,qia],.int k,_,rfl,qaq.ofInt _ _ (by rw [qia]; exact qdc _ _)⟩
  ·have h0:y≠0:=by simpa [qp7,qd3,qnT] using hc
   exact ⟨.int k (irem x y),by simp [binOp,Op.intDiv,h0,qnN],.int k,_,rfl,qaq.ofInt _ _ (by rw [qnN]; exact qt2 hx h0)⟩
  ·exact ⟨.int k (qux k x y),by simp [binOp,Op.intBits,qk2],.int k,_,rfl,qaq.ofInt _ _ (by rw [qk2]; exact qdc _ _)⟩
  ·exact ⟨.int k (bor k x y),by simp [binOp,Op.intBits,qpK],.int k,_,rfl,qaq.ofInt _ _ (by rw [qpK]; exact qdc _ _)⟩
  ·exact ⟨.int k (qil k x y),by simp [binOp,Op.intBits,qkX],.int k,_,rfl,qaq.ofInt _ _ (by rw [qkX]; exact qdc _ _)⟩
  ·exact ⟨.int k (qnH k x y),by simp [binOp,Op.intBits,qlP],.int k,_,rfl,qaq.ofInt _ _ (by rw [qlP]; exact qdc _ _)⟩
  ·exact ⟨.bool (eqI x y),by simp [binOp,Op.intCmp,qn0],.bool,_,rfl,qaq.ofBool _ _ _⟩
  ·exact ⟨.bool (neI x y),by simp [binOp,Op.intCmp,qnT],.bool,_,rfl,qaq.ofBool _ _ _⟩
  ·exact ⟨.bool (ltI x y),by simp [binOp,Op.intCmp,qa0],.bool,_,rfl,qaq.ofBool _ _ _⟩
  ·exact ⟨.bool (leI x y),by simp [binOp,Op.intCmp,qba],.bool,_,rfl,qaq.ofBool _ _ _⟩
  ·exact ⟨.bool (ltI y x),by simp [binOp,Op.intCmp,qa0],.bool,_,rfl,qaq.ofBool _ _ _⟩
  ·exact ⟨.bool (leI y x),by simp [binOp,Op.intCmp,qba],.bool,_,rfl,qaq.ofBool _ _ _⟩
theorem quy {op:BinOp} {x y:List UInt8} (hx:x.length≤maxLen) (hy:y.length≤maxLen) {r:AV×List Bool} (hr:qvf op x y=some r) (hc:qd3 r.2) (t:Nat):
  ∃v,(binOp op t (.string ⟨x.toArray⟩) (.string ⟨y.toArray⟩)).run P w= .ok v w∧∃u z,r.1= .val u z∧qaq w F u z v:=by
 cases op <;> simp only [qvf] at hr <;> cases hr
 ·have h0:x.length+y.length≤140737488355328:=by
   have:=hc _ (List.mem_singleton.2 rfl)
   simp [qjF,qi] at this
   omega
  refine ⟨.string ⟨(qf3 x y).toArray⟩,?_,.str,_,rfl,qaq.ofStr _ _ (by simp [qbE,maxLen]; omega)⟩
  rw [qbE]
  rw [show binOp .add t (.string ⟨x.toArray⟩) (.string ⟨y.toArray⟩)=Op.stringOp .add ⟨x.toArray⟩ ⟨y.toArray⟩ from by simp [binOp]]
  rw [run_string_add_sum w _ _ (by show x.toArray.size+y.toArray.size≤_; simp; omega)]
  rw [ByteArray.mk_append_mk]
 all_goals
  refine ⟨_,?_,.bool,_,rfl,qaq.ofBool _ _ _⟩
  simp [binOp,Op.stringOp,qpP,qoc]
end
end Go.Vi
