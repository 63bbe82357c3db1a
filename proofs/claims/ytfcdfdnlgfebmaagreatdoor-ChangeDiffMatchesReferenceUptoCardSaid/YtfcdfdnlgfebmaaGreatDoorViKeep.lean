/- The abstract interpreter: a function keeps its contract. -/
import Derived.Test.YtfcdfdnlgfebmaaGreatDoorViTop
set_option linter.unusedVariables false
set_option linter.unusedSimpArgs false
set_option linter.unnecessarySimpa false
set_option linter.unusedSectionVars false
namespace Go.Vi
open Go.RowKit
theorem qpl {P:Program} {w:World} {fn:Func} {tmps:Array Value} {vs:List Value} (h:(fn.results.toList.mapM (qtz tmps)).run P w= .ok vs w):(results fn tmps).run P w=Result.ok (qe4 vs) w:=by
 have e:results fn tmps=(do
   let vs ←fn.results.mapM (qtz tmps)
   pure (if h:vs.size=1 then vs[0] else .tuple vs)):=rfl
 rw [e,Array.mapM_eq_mapM_toList]
 simp only [Sem.run_bind,Sem.run_map,h,Result.andThen_ok,Sem.run_pure]
 congr 1
 match vs with
 |[]=>rfl
 |[v]=>rfl
 |v::u::r=>simp [qe4]
theorem qdn {P:Program} {w:World} {F:Nat→Prop} (tm:Nat→Value):(ps:List PM)→(k:Nat)→ {x:PMs.den ps} → {vs:List Value} → {g i:List Nat} →qas P w F ps x vs g i→(∀j,j<ps.length→tm (k+j)=vs.getD j undef)→qcp tm ps k vs i
 |[],k,x,vs,g,i,⟨_,_,h3⟩,_=>h3
 | .val t::ps,k,x,vs,g,i,⟨v,r,h1,h2,h3⟩,ht=>by
  subst h1
  exact qdn tm ps (k+1) h3 fun j hj=>by
   have:=ht (j+1) (by simpa using hj)
   rw [show k+1+j=k+(j+1) from by omega]
   simpa using this
 | .nil _ _::ps,k,x,vs,g,i,⟨r,h1,h3⟩,ht=>by
  subst h1
  exact qdn tm ps (k+1) h3 fun j hj=>by
   have:=ht (j+1) (by simpa using hj)
   rw [show k+1+j=k+(j+1) from by omega]
   simpa using this
 | .rd _::ps,k,x,vs,g,i,⟨_,_,r,h1,_,_,_,_,h3⟩,ht=>by
  subst h1
  exact qdn tm ps (k+1) h3 fun j hj=>by
   have:=ht (j+1) (by simpa using hj)
   rw [show k+1+j=k+(j+1) from by omega]
   simpa using this
 | .fn _ _::ps,k,x,vs,g,i,⟨v,r,h1,h2,h3⟩,ht=>by
  subst h1
  exact qdn tm ps (k+1) h3 fun j hj=>by
   have:=ht (j+1) (by simpa using hj)
   rw [show k+1+j=k+(j+1) from by omega]
   simpa using this
 | .own _ _::ps,k,x,vs,g,i,⟨v,r,g1,g2,h1,h2,h3,h4⟩,ht=>by
  subst h1
  exact qdn tm ps (k+1) h4 fun j hj=>by
   have:=ht (j+1) (by simpa using hj)
   rw [show k+1+j=k+(j+1) from by omega]
   simpa using this
 | .ior _ _::ps,k,x,vs,g,i,⟨v,r,i1,i2,h1,h2,h3,h4⟩,ht=>by
  subst h1
  have h0:tm k=v:=by simpa using ht 0 (by simp)
  refine ⟨i1,i2,h2,h0,?_,qdn tm ps (k+1) h4 fun j hj=> ?_⟩
  ·obtain ⟨cells,_,hb,_⟩:=h3
   exact hb
  ·have:=ht (j+1) (by simpa using hj)
   rw [show k+1+j=k+(j+1) from by omega]
   simpa using this
 | .io t::ps,k,x,vs,g,i,⟨b,r,i2,cs,te,h1,h2,h3,h4,h5⟩,ht=>by
  subst h1
  have h0:tm k=ptr b 0:=by simpa using ht 0 (by simp)
  refine ⟨b,i2,h2,h0,qdn tm ps (k+1) h5 fun j hj=> ?_⟩
  have:=ht (j+1) (by simpa using hj)
  rw [show k+1+j=k+(j+1) from by omega]
  simpa using this
end Go.Vi
