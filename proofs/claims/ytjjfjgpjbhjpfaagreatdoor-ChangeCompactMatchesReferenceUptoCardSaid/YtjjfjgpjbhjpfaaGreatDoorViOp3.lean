/- The abstract interpreter: numbers, strings, truths. -/
import Derived.Test.YtjjfjgpjbhjpfaaGreatDoorViOp2
import Derived.Laws.Concat
import Derived.Laws.Small
import Derived.Laws.Unary
set_option linter.unusedVariables false
set_option linter.unusedSimpArgs false
set_option linter.unnecessarySimpa false
set_option linter.unusedSectionVars false
namespace Go.Vi
open Go.RowKit

theorem has_wrap (k : IntKind) (n : Int) : k.has (k.wrap n) := by
  cases k <;> simp [IntKind.has, IntKind.wrap, IntKind.bits, IntKind.signed, IntKind.min, IntKind.max] <;> omega

theorem min_nonpos (k : IntKind) : k.min ≤ 0 := by cases k <;> decide
theorem max_nonneg (k : IntKind) : 0 ≤ k.max := by cases k <;> decide

theorem has_tmod {k : IntKind} {x y : Int} (h : k.has x) (hy : y ≠ 0) : k.has (x.tmod y) := by
  have h1 := min_nonpos k
  have h2 := max_nonneg k
  obtain ⟨h3, h4⟩ := h
  by_cases hx : 0 ≤ x
  · have e1 : 0 ≤ x.tmod y := Int.tmod_nonneg y hx
    have e2 : x.tmod y ≤ x := by
      have := Int.natAbs_tmod x y
      have h5 : (x.natAbs % y.natAbs) ≤ x.natAbs := Nat.mod_le _ _
      omega
    exact ⟨by omega, by omega⟩
  · have h5 : (x.natAbs % y.natAbs) ≤ x.natAbs := Nat.mod_le _ _
    have := Int.natAbs_tmod x y
    have e1 : x.tmod y ≤ 0 := by
      have := Int.tmod_nonneg y (show 0 ≤ -x by omega)
      rw [Int.neg_tmod] at this
      omega
    exact ⟨by omega, by omega⟩

theorem has_fdiv {k : IntKind} {x : Int} (h : k.has x) (n : Nat) : k.has (x.fdiv (2 ^ n)) := by
  have h1 := min_nonpos k
  have h2 := max_nonneg k
  obtain ⟨h3, h4⟩ := h
  have hp : (0 : Int) < 2 ^ n := by exact Int.pow_pos (by decide)
  have hp1 : (1 : Int) ≤ 2 ^ n := hp
  have e : x.fdiv (2 ^ n) = x / 2 ^ n := by rw [Int.fdiv_eq_ediv_of_nonneg _ (Int.le_of_lt hp)]
  rw [e]
  by_cases hx : 0 ≤ x
  · have e1 : 0 ≤ x / 2 ^ n := Int.ediv_nonneg hx (Int.le_of_lt hp)
    have e2 : x / 2 ^ n ≤ x := Int.ediv_le_self _ hx
    exact ⟨by omega, by omega⟩
  · have e1 : x / 2 ^ n < 0 := Int.ediv_neg_of_neg_of_pos (by omega) hp
    have e2 : x ≤ x / 2 ^ n := by
      rw [Int.le_ediv_iff_mul_le hp]
      have : x * 2 ^ n ≤ x * 1 := Int.mul_le_mul_of_nonpos_left (by omega) hp1
      omega
    exact ⟨by omega, by omega⟩

def allB (c : List Bool) : Prop := ∀ b ∈ c, b = true

section
variable {P : Program} {w : World} {F : Nat → Prop}

theorem intOp_ok {op : BinOp} {k k' : IntKind} {x y : Int} (hx : k.has x) (hy : k'.has y) (hk : (isShift op || decide (k = k')) = true) (hc : allB (intOp op k x y).2) (t : Nat) :
    ∃ v, (binOp op t (.int k x) (.int k' y)).run P w = .ok v w ∧ ∃ u z, (intOp op k x y).1 = .val u z ∧ RepV w F u z v := by
  by_cases hs : isShift op = true
  · cases op <;> simp [isShift] at hs
    · have h0 : 0 ≤ y := by simpa [intOp, allB, leI_def] using hc
      exact ⟨.int k (shlI k x y), by simp [binOp, Op.shift, show ¬ y < 0 by omega, shlI_def], .int k, _, rfl, RepV.ofInt _ _ (by rw [shlI_def]; exact has_wrap _ _)⟩
    · have h0 : 0 ≤ y := by simpa [intOp, allB, leI_def] using hc
      exact ⟨.int k (shrI k x y), by simp [binOp, Op.shift, show ¬ y < 0 by omega, shrI_def], .int k, _, rfl, RepV.ofInt _ _ (by rw [shrI_def]; exact has_fdiv hx _)⟩
  · have hkk : k = k' := by simpa [hs] using hk
    subst hkk
    cases op <;> simp [isShift] at hs
    · exact ⟨.int k (iadd k x y), by simp [binOp, Op.intArith, iadd_def], .int k, _, rfl, RepV.ofInt _ _ (by rw [iadd_def]; exact has_wrap _ _)⟩
    · exact ⟨.int k (isub k x y), by simp [binOp, Op.intArith, isub_def], .int k, _, rfl, RepV.ofInt _ _ (by rw [isub_def]; exact has_wrap _ _)⟩
    · exact ⟨.int k (imul k x y), by simp [binOp, Op.intArith, imul_def], .int k, _, rfl, RepV.ofInt _ _ (by rw [imul_def]; exact has_wrap _ _)⟩
    · have h0 : y ≠ 0 := by simpa [intOp, allB, neI_def] using hc
      exact ⟨.int k (iquo k x y), by simp [binOp, Op.intDiv, h0, iquo_def], .int k, _, rfl, RepV.ofInt _ _ (by rw [iquo_def]; exact has_wrap _ _)⟩
    · have h0 : y ≠ 0 := by simpa [intOp, allB, neI_def] using hc
      exact ⟨.int k (irem x y), by simp [binOp, Op.intDiv, h0, irem_def], .int k, _, rfl, RepV.ofInt _ _ (by rw [irem_def]; exact has_tmod hx h0)⟩
    · exact ⟨.int k (band k x y), by simp [binOp, Op.intBits, band_def], .int k, _, rfl, RepV.ofInt _ _ (by rw [band_def]; exact has_wrap _ _)⟩
    · exact ⟨.int k (bor k x y), by simp [binOp, Op.intBits, bor_def], .int k, _, rfl, RepV.ofInt _ _ (by rw [bor_def]; exact has_wrap _ _)⟩
    · exact ⟨.int k (bxor k x y), by simp [binOp, Op.intBits, bxor_def], .int k, _, rfl, RepV.ofInt _ _ (by rw [bxor_def]; exact has_wrap _ _)⟩
    · exact ⟨.int k (bandnot k x y), by simp [binOp, Op.intBits, bandnot_def], .int k, _, rfl, RepV.ofInt _ _ (by rw [bandnot_def]; exact has_wrap _ _)⟩
    · exact ⟨.bool (eqI x y), by simp [binOp, Op.intCmp, eqI_def], .bool, _, rfl, RepV.ofBool _ _ _⟩
    · exact ⟨.bool (neI x y), by simp [binOp, Op.intCmp, neI_def], .bool, _, rfl, RepV.ofBool _ _ _⟩
    · exact ⟨.bool (ltI x y), by simp [binOp, Op.intCmp, ltI_def], .bool, _, rfl, RepV.ofBool _ _ _⟩
    · exact ⟨.bool (leI x y), by simp [binOp, Op.intCmp, leI_def], .bool, _, rfl, RepV.ofBool _ _ _⟩
    · exact ⟨.bool (ltI y x), by simp [binOp, Op.intCmp, ltI_def], .bool, _, rfl, RepV.ofBool _ _ _⟩
    · exact ⟨.bool (leI y x), by simp [binOp, Op.intCmp, leI_def], .bool, _, rfl, RepV.ofBool _ _ _⟩

theorem strOp_ok {op : BinOp} {x y : List UInt8} (hx : x.length ≤ maxLen) (hy : y.length ≤ maxLen) {r : AV × List Bool} (hr : strOp op x y = some r) (hc : allB r.2) (t : Nat) :
    ∃ v, (binOp op t (.string ⟨x.toArray⟩) (.string ⟨y.toArray⟩)).run P w = .ok v w ∧ ∃ u z, r.1 = .val u z ∧ RepV w F u z v := by
  cases op <;> simp only [strOp] at hr <;> cases hr
  · have h0 : x.length + y.length ≤ 140737488355328 := by
      have := hc _ (List.mem_singleton.2 rfl)
      simp [room2_def, lenI_def] at this
      omega
    refine ⟨.string ⟨(lapp x y).toArray⟩, ?_, .str, _, rfl, RepV.ofStr _ _ (by simp [lapp_def, maxLen]; omega)⟩
    rw [lapp_def]
    rw [show binOp .add t (.string ⟨x.toArray⟩) (.string ⟨y.toArray⟩) = Op.stringOp .add ⟨x.toArray⟩ ⟨y.toArray⟩ from by simp [binOp]]
    rw [run_string_add_sum w _ _ (by show x.toArray.size + y.toArray.size ≤ _; simp; omega)]
    rw [ByteArray.mk_append_mk]
  all_goals
    refine ⟨_, ?_, .bool, _, rfl, RepV.ofBool _ _ _⟩
    simp [binOp, Op.stringOp, eqS_def, bless_def]

end
end Go.Vi
