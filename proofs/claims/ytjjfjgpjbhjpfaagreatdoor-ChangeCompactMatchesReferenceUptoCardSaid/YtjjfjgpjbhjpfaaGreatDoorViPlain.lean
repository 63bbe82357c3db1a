/- Words for the plain laws. -/
import Derived.Test.YtjjfjgpjbhjpfaaGreatDoorViPost
set_option linter.unusedVariables false
set_option linter.unusedSimpArgs false
set_option linter.unnecessarySimpa false
set_option linter.unusedSectionVars false
namespace Go.Vi

theorem iterF_zero {S R : Type} (step : (S → Option R) → S → Option R) (s : S) : iterF 0 step s = none := rfl
theorem iterF_succ {S R : Type} (n : Nat) (step : (S → Option R) → S → Option R) (s : S) : iterF (n + 1) step s = step (iterF n step) s := rfl

/-- A loop with a measure: what it yields. -/
theorem iterF_post {S R : Type} {step : (S → Option R) → S → Option R} (m : S → Nat) (I : S → Prop) (out : S → R) (h : ∀ (ih : S → Option R) (s : S), I s → (∀ s', I s' → m s' < m s → ih s' = some (out s')) → step ih s = some (out s)) : ∀ (n : Nat) (s : S), I s → m s < n → iterF n step s = some (out s)
  | 0, s, _, hm => absurd hm (Nat.not_lt_zero _)
  | n + 1, s, hI, hm => h (iterF n step) s hI fun s' hI' hm' => iterF_post m I out h n s' hI' (by omega)

theorem oSome_some {α : Type} (x : α) : oSome (some x) = true := by rw [oSome_def]; rfl
theorem oGet_some {α : Type} (x d : α) : oGet (some x) d = x := by rw [oGet_def]; rfl
theorem oSome_none {α : Type} : oSome (none : Option α) = false := by rw [oSome_def]; rfl

theorem wrap64 {z : Int} (h1 : -9223372036854775808 ≤ z) (h2 : z < 9223372036854775808) : IntKind.wrap .i64 z = z := by
  simp [IntKind.wrap, IntKind.signed, IntKind.bits]
  split <;> omega

theorem cond_pos {α : Type} {c : Bool} {a b : α} (h : c = true) : (bif c then a else b) = a := by rw [h]; rfl
theorem cond_neg {α : Type} {c : Bool} {a b : α} (h : c = false) : (bif c then a else b) = b := by rw [h]; rfl
theorem cond_dec {α : Type} {p : Prop} [Decidable p] {a b : α} : (bif decide p then a else b) = if p then a else b := by by_cases h : p <;> simp [h]

theorem eqI_dec (x y : Int) : eqI x y = decide (x = y) := by rw [eqI_def]; rfl
theorem neI_dec (x y : Int) : neI x y = !decide (x = y) := by rw [neI_def]; rfl
theorem eqS_dec (x y : List UInt8) : eqS x y = decide (x = y) := by rw [eqS_def]; by_cases h : x = y <;> simp [h]
theorem eqB_dec (x y : Bool) : eqB x y = decide (x = y) := by rw [eqB_def]; cases x <;> cases y <;> rfl
theorem condI {α : Type} (c : Bool) (a b : α) : (bif c then a else b) = if c = true then a else b := by cases c <;> rfl

theorem condO {α : Type} (c : Bool) (a b : Option α) : (bif c then a else b) = if c = true then a else b := by cases c <;> rfl
theorem condOr (c d : Bool) : (bif c then c else d) = (c || d) := by cases c <;> rfl
theorem condB (c a b : Bool) : (bif c then a else b) = ((c && a) || (!c && b)) := by cases c <;> simp

theorem lget_nat {α : Type} {xs : List α} {i : Nat} {d x : α} (h : xs[i]? = some x) : lget xs (i : Int) d = x := by
  rw [lget_def]
  simp [List.getD, h]

theorem inB_nat {i n : Nat} (h : i < n) : inB (i : Int) (n : Int) = true := by
  rw [inB_def]
  simp
  omega

theorem bulk_pos : (t : Ty) → (x : t.den) → 1 ≤ t.bulk x
  | .int _, _ => Nat.le_refl _
  | .bool, _ => Nat.le_refl _
  | .str, _ => Nat.le_add_left _ _
  | .unit, _ => Nat.le_refl _
  | .err, _ => Nat.le_refl _
  | .opt _, _ => Nat.le_refl _
  | .map _ _, _ => Nat.le_refl _
  | .pair a b, x => by have := bulk_pos a x.1; show 1 ≤ a.bulk x.1 + b.bulk x.2; omega
  | .slice e, xs => Nat.le_add_left _ _
  | .arr _ e, xs => Nat.le_add_left _ _
theorem bulk_slice (e : Ty) : (xs : List e.den) → xs.length + 1 ≤ (Ty.slice e).bulk xs
  | [] => Nat.le_refl _
  | x :: xs => by
    have := bulk_slice e xs
    have h1 := bulk_pos e x
    simp only [Ty.bulk, List.map_cons, List.sum_cons, List.length_cons] at this ⊢
    omega

end Go.Vi
