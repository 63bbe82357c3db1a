/- Contracts out of walks by hand. -/
import Derived.Test.YtfcdfdnlgfebmaaGreatDoorViPost
import Derived.Lib.Bytealg
set_option linter.unusedVariables false
set_option linter.unusedSimpArgs false
set_option linter.unnecessarySimpa false
set_option linter.unusedSectionVars false
namespace Go.Vi
open Go.RowKit
theorem qrl {P:Program} {f:Nat} {fn:Func} (hf:P.funcs[f]? =some fn) (hb:fn.body.isSome=true) (hname:(fn.name == "runtime.NumGoroutine")=false) (φ:List UInt8→List UInt8→Int) (hφ:∀a b,IntKind.i64.has (φ a b))
  (h:∀(a b:ByteArray) (w:World),Calls P f #[.string a,.string b] w fun e w'=>e= .returned (.int .i64 (φ a.data.toList b.data.toList))∧w'=w):
  qk.ok P f ⟨[.val .str,.val .str],[.val (.int .i64)],fun x=>some ((φ x.1 x.2.1,()),())⟩:=by
 obtain ⟨c,hc⟩:=Option.isSome_iff_exists.1 hb
 refine ⟨fun as w=>qfF hf hc hname as w,fun w F x y as g i _ hp hpre hn hy=> ?_⟩
 obtain ⟨a,b,_⟩:=x
 obtain ⟨v1,r1,rfl,h1,v2,r2,rfl,h2,rfl,rfl,rfl⟩:=hp
 obtain ⟨e1,_⟩:=qaq.str h1
 obtain ⟨e2,_⟩:=qaq.str h2
 subst e1
 subst e2
 injection hy with hy
 subst hy
 refine (h ⟨List.toArray a⟩ ⟨List.toArray b⟩ w).mono fun e w' ⟨he,hw⟩=>⟨_,he,?_⟩
 subst hw
 refine ⟨[_],[],rfl,List.nodup_nil,fun b hb=>(by cases hb),⟨_,_,[],[],rfl,rfl,⟨rfl,?_⟩,rfl,rfl⟩,rfl,qcx.refl _ _⟩
 exact qaq.ofInt _ _ (hφ _ _)
theorem qk.lift {P:Program} {f:Nat} {C:qk} {T:qkG} (h:C.ok P f):C.okT P T f:=⟨h.1,fun w F x y as g i _ a b c d=>h.2 w F x y as g i qc4.none a b c d⟩
theorem qkV (a b:List UInt8):IntKind.i64.has (Lib.compareBytes a b):=by
 have:Lib.compareBytes a b= -1∨Lib.compareBytes a b=0∨Lib.compareBytes a b=1:=by
  induction a generalizing b with
  |nil=>cases b <;> simp [Lib.compareBytes]
  |cons x a ih=>cases b with
   |nil=>simp [Lib.compareBytes]
   |cons y b=>
    simp only [Lib.compareBytes]
    split
    ·simp
    ·split
     ·simp
     ·exact ih b
 rcases this with h|h|h <;> rw [h] <;> exact ⟨by decide,by decide⟩
end Go.Vi
