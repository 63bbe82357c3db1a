/- The types of a program as the abstract interpreter has them. -/
import Derived.Test.YtjjfjgpjbhjpfaaGreatDoorViEval
set_option linter.unusedVariables false
set_option linter.unusedSimpArgs false
set_option linter.unnecessarySimpa false
set_option linter.unusedSectionVars false
namespace Go.Vi
noncomputable section

structure TI where
  t : Nat
  ty : Ty
  et : Nat
  fs : List (Nat × Nat)
  z : BShape
  bytes : Nat
  eq : Bool

def tfind : List TI → Nat → Option TI
  | [], _ => none
  | x :: r, t => match decEq x.t t with
    | isTrue _ => some x
    | isFalse _ => tfind r t

def BShape.zero : BShape → BC
  | .val t => .val t t.dflt
  | .own et e => .own et e []
  | .pair a b => .pair a.zero b.zero
  | .hole n => .hole n

def assoc {α : Type} : List (Nat × α) → Nat → Option α
  | [], _ => none
  | (a, x) :: r, k => match decEq a k with
    | isTrue _ => some x
    | isFalse _ => assoc r k

def Env.tab (T : List TI) (fns : List (Nat × Contract)) : Env where
  ty t := (tfind T t).map (·.ty)
  etid t := ((tfind T t).map (·.et)).getD 0
  off t f := (tfind T t).bind fun x => (x.fs[f]?).map (·.1)
  fty t f := (((tfind T t).bind fun x => (x.fs[f]?).map (·.2))).getD 0
  zero t := (tfind T t).map (·.z.zero)
  bytes t := ((tfind T t).map (·.bytes)).getD 0
  eqok t := ((tfind T t).map (·.eq)).getD false
  fn := assoc fns
  pins := []
  ownz := false
  tabs := fun _ => none
  rf := []

/-- .. where a field that is left out is a row of the call's own. -/
def Env.tabG (G : Tabs) (T : List TI) (fns : List (Nat × Contract)) : Env := { Env.tab T fns with tabs := G }
def Env.tabGO (G : Tabs) (T : List TI) (fns : List (Nat × Contract)) : Env := { Env.tabG G T fns with ownz := true }
def Env.tabO (T : List TI) (fns : List (Nat × Contract)) : Env := { Env.tab T fns with ownz := true }


end
end Go.Vi
