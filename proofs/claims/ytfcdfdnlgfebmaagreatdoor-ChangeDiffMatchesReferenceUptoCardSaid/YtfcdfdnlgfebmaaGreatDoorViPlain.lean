/- Words for the plain laws. -/
import Derived.Test.YtfcdfdnlgfebmaaGreatDoorViPost
set_option linter.unusedVariables false
set_option linter.unusedSimpArgs false
set_option linter.unnecessarySimpa false
set_option linter.unusedSectionVars false
namespace Go.Vi
theorem iterF_zero {S R:Type} (step:(S→Option R)→S→Option R) (s:S):qZ 0 step s=none:=rfl
theorem qam {S R:Type} (n:Nat) (step:(S→Option R)→S→Option R) (s:S):qZ (n+1) step s=step (qZ n step) s:=rfl
theorem qdo {S R:Type} {step:(S→Option R)→S→Option R} (m:S→Nat) (I:S→Prop) (out:S→R) (h:∀(ih:S→Option R) (s:S),I s→(∀s',I s'→m s'<m s→ih s'=some (out s'))→step ih s=some (out s)):∀(n:Nat) (s:S),I s→m s<n→qZ n step s=some (out s)
 |0,s,_,hm=>absurd hm (Nat.not_lt_zero _)
 |n+1,s,hI,hm=>h (qZ n step) s hI fun s' hI' hm'=>qdo m I out h n s' hI' (by omega)
theorem qg {α:Type} (x:α):qw (some x)=true:=by rw [qgb]; rfl
theorem qj {α:Type} (x d:α):qp (some x) d=x:=by rw [qk0]; rfl
theorem qkm {α:Type} :qw (none:Option α)=false:=by rw [qgb]; rfl
theorem qdk {z:Int} (h1: -9223372036854775808≤z) (h2:z<9223372036854775808):IntKind.wrap .i64 z=z:=by
 simp [IntKind.wrap,IntKind.signed,IntKind.bits]
 split <;> omega
theorem qB {α:Type} {c:Bool} {a b:α} (h:c=true):(bif c then a else b)=a:=by rw [h]; rfl
theorem qE {α:Type} {c:Bool} {a b:α} (h:c=false):(bif c then a else b)=b:=by rw [h]; rfl
theorem qa6 {α:Type} {p:Prop} [Decidable p] {a b:α} :(bif decide p then a else b)=if p then a else b:=by by_cases h:p <;> simp [h]
theorem qbT (x y:Int):eqI x y=decide (x=y):=by rw [qn0]; rfl
theorem qaS (x y:Int):neI x y= !decide (x=y):=by rw [qnT]; rfl
theorem qbP (x y:List UInt8):eqS x y=decide (x=y):=by rw [qpP]; by_cases h:x=y <;> simp [h]
theorem eqB_dec (x y:Bool):eqB x y=decide (x=y):=by rw [qnp]; cases x <;> cases y <;> rfl
theorem qtX {α:Type} (c:Bool) (a b:α):(bif c then a else b)=if c=true then a else b:=by cases c <;> rfl
theorem condO {α:Type} (c:Bool) (a b:Option α):(bif c then a else b)=if c=true then a else b:=by cases c <;> rfl
theorem condOr (c d:Bool):(bif c then c else d)=(c||d):=by cases c <;> rfl
theorem condB (c a b:Bool):(bif c then a else b)=((c&&a)||(!c&&b)):=by cases c <;> simp
theorem qh2 {α:Type} {xs:List α} {i:Nat} {d x:α} (h:xs[i]? =some x):qh xs (i:Int) d=x:=by
 rw [qb8]
 simp [List.getD,h]
theorem qvk {i n:Nat} (h:i<n):inB (i:Int) (n:Int)=true:=by
 rw [qcz]
 simp
 omega
theorem qdB:(t:Ty)→(x:t.den)→1≤t.bulk x
 | .int _,_=>Nat.le_refl _
 | .bool,_=>Nat.le_refl _
 | .str,_=>Nat.le_add_left _ _
 | .unit,_=>Nat.le_refl _
 | .err,_=>Nat.le_refl _
 | .opt _,_=>Nat.le_refl _
 | .map _ _,_=>Nat.le_refl _
 | .pair a b,x=>by have:=qdB a x.1; show 1≤a.bulk x.1+b.bulk x.2; omega
 | .slice e,xs=>Nat.le_add_left _ _
 | .arr _ e,xs=>Nat.le_add_left _ _
theorem qh4 (e:Ty):(xs:List e.den)→xs.length+1≤(Ty.slice e).bulk xs
 |[]=>Nat.le_refl _
 |x::xs=>by
  have:=qh4 e xs
  have h1:=qdB e x
  simp only [Ty.bulk,List.map_cons,List.sum_cons,List.length_cons] at this⊢
  omega
end Go.Vi
