/- The types of a program as the abstract interpreter has them. -/
import Derived.Test.YtfcdfdnlgfebmaaGreatDoorViEval
set_option linter.unusedVariables false
set_option linter.unusedSimpArgs false
set_option linter.unnecessarySimpa false
set_option linter.unusedSectionVars false
namespace Go.Vi
noncomputable section
structure TI where
 t:Nat
 ty:Ty
 et:Nat
 fs:List (Nat×Nat)
 z:qdX
 bytes:Nat
 eq:Bool
def qjD:List TI→Nat→Option TI
 |[],_=>none
 |x::r,t=>match decEq x.t t with
  |isTrue _=>some x
  |isFalse _=>qjD r t
def qdX.zero:qdX→BC
 | .val t=> .val t t.dflt
 | .own et e=> .own et e []
 | .pair a b=> .pair a.zero b.zero
 | .hole n=> .hole n
def qtV {α:Type} :List (Nat×α)→Nat→Option α
 |[],_=>none
 |(a,x)::r,k=>match decEq a k with
  |isTrue _=>some x
  |isFalse _=>qtV r k
def Env.tab (T:List TI) (fns:List (Nat×qk)):Env where
 ty t:=(qjD T t).map (·.ty)
 etid t:=((qjD T t).map (·.et)).getD 0
 off t f:=(qjD T t).bind fun x=>(x.fs[f]?).map (·.1)
 fty t f:=(((qjD T t).bind fun x=>(x.fs[f]?).map (·.2))).getD 0
 zero t:=(qjD T t).map (·.z.zero)
 bytes t:=((qjD T t).map (·.bytes)).getD 0
 eqok t:=((qjD T t).map (·.eq)).getD false
 fn:=qtV fns
 pins:=[]
 ownz:=false
 tabs:=fun _=>none
 rf:=[]
def Env.tabG (G:qkG) (T:List TI) (fns:List (Nat×qk)):Env:= { Env.tab T fns with tabs:=G }
def Env.tabGO (G:qkG) (T:List TI) (fns:List (Nat×qk)):Env:= { Env.tabG G T fns with ownz:=true }
def Env.tabO (T:List TI) (fns:List (Nat×qk)):Env:= { Env.tab T fns with ownz:=true }
end
end Go.Vi
