/- Bitmaps: the indices of the bits that are set. -/
import Derived.Test.YtpnklahcegahiaaDoorBmr
import Derived.Shelf.Spec.TrailingZeros
set_option linter.unusedVariables false
set_option linter.unusedSimpArgs false
set_option linter.unnecessarySimpa false
set_option linter.unusedSectionVars false
set_option linter.unusedSimpArgs false
namespace Go.Proofs.YtpnklahcegahiaaDoor
open Go.Vi
noncomputable section

/-! ## The lowest bit -/
theorem tab_at : ∀ z, z < 64 → tab_0_is.getD z 0 = ((Lib.deBruijn64tab.getD z 0 : Nat) : Int) := by decide +kernel
theorem tab_get {z k : Nat} (hi : z < 64) (h : Lib.deBruijn64tab.getD z 0 = k) : lget tab_0 (z : Int) 0 = (k : Int) := by
  rw [tab_0_def, lget_def, Int.toNat_natCast, tab_at z hi, h]

theorem ctz_core (N a z k : Nat) (h0 : 0 < a) (hi : z < 64) (hk : k < 64) (htab : lget tab_0 (z : Int) 0 = (k : Int)) (hidx : shrI .u64 (imul .u64 (band .u64 (a : Int) (ineg .u64 (a : Int))) 285870213051353865) 58 = (z : Int)) :
    F_math_bits_TrailingZeros64 N ((a : Int), ()) = some ((((k : Nat) : Int), ()), ()) := by
  simp only [F_math_bits_TrailingZeros64, hidx, htab]
  rw [cond_neg (by rw [eqI_dec]; simp; omega), leI_dec, inB_dec, cond_pos (by simp; omega), iwrap64 (by omega) (by omega)]

theorem idx_core (p : Nat) : shrI .u64 (imul .u64 ((p : Nat) : Int) 285870213051353865) 58 = ((p * 285870213051353865 % 18446744073709551616 / 288230376151711744 : Nat) : Int) := by
  rw [imul_def, wrap_u64, shrI_def, Int.fdiv_eq_ediv_of_nonneg _ (by decide), show ((2 : Int) ^ (min (58 : Int).toNat (IntKind.bits .u64))) = 288230376151711744 by decide]
  omega

theorem low_core {a b : Nat} (ha : a < 18446744073709551616) (hb : b < 18446744073709551616) (hab : (a : Int) + b = 18446744073709551616) : band .u64 (a : Int) (ineg .u64 (a : Int)) = ((a &&& b : Nat) : Int) := by
  have e1 : ineg .u64 (a : Int) = (b : Int) := by
    rw [ineg_def, wrap_u64]; omega
  rw [e1, band_def]
  exact bits_and_u64_nat a b ha hb

theorem ctz_eq (N a : Nat) (h0 : 0 < a) (h1 : a < 4611686018427387904) : F_math_bits_TrailingZeros64 N ((a : Int), ()) = some ((((Lib.ctz 64 a : Nat) : Int), ()), ()) := by
  obtain ⟨hlow, hk⟩ := Lib.lowest_bit 64 a (by omega) (by omega)
  obtain ⟨hi, htab⟩ := Lib.deBruijn64_at _ hk
  obtain ⟨b, hb⟩ : ∃ b, b = 2 ^ 64 - a := ⟨_, rfl⟩
  rw [← hb] at hlow
  refine ctz_core N a _ _ h0 hi hk (tab_get hi htab) ?_
  rw [low_core (b := b) (by omega) (by omega) (by omega), hlow, idx_core]

/-- a without its lowest bit. -/
theorem low_spec {a : Nat} (h0 : 0 < a) (h1 : a < 2 ^ 62) : a.testBit (Lib.ctz 64 a) = true ∧ (∀ i, i < Lib.ctz 64 a → a.testBit i = false) ∧ ∀ i, (a &&& (a - 1)).testBit i = (a.testBit i && decide (i ≠ Lib.ctz 64 a)) := by
  have hc : Lib.ctz 64 a = Lib.ctzFrom 64 a := by unfold Lib.ctz; rw [if_neg (by omega)]
  obtain ⟨m, hm, _⟩ := Lib.ctzFrom_spec 64 a h0 (by omega)
  rw [hc]
  generalize Lib.ctzFrom 64 a = k at hm
  subst hm
  have tb : ∀ i, (2 ^ k * (2 * m + 1)).testBit i = (decide (k ≤ i) && (2 * m + 1).testBit (i - k)) := fun i => by
    rw [Nat.mul_comm, Nat.testBit_mul_two_pow]
  have lo : ∀ i, i < k → (2 ^ k * (2 * m + 1)).testBit i = false := fun i hi => by rw [tb]; simp; omega
  have at_ : (2 ^ k * (2 * m + 1)).testBit k = true := by rw [tb]; simp [Nat.testBit_zero]
  refine ⟨at_, lo, fun i => ?_⟩
  rw [Nat.testBit_and]
  by_cases hik : i < k
  · rw [lo i hik]; simp
  · have e : 2 ^ k * (2 * m + 1) - 1 = 2 ^ k * (2 * m) + (2 ^ k - 1) := by
      have : 0 < 2 ^ k := Nat.two_pow_pos k
      rw [Nat.mul_add, Nat.mul_one]; omega
    rw [e, Nat.testBit_two_pow_mul_add _ (by have := Nat.two_pow_pos k; omega), if_neg hik]
    by_cases he : i = k
    · subst he
      simp [Nat.testBit_zero]
    · obtain ⟨j, rfl⟩ : ∃ j, i = k + (j + 1) := ⟨i - k - 1, by omega⟩
      rw [tb, show k + (j + 1) - k = j + 1 by omega, Nat.testBit_succ, Nat.testBit_succ, show (2 * m + 1) / 2 = m by omega, show 2 * m / 2 = m by omega]
      simp

theorem filter_low {n k : Nat} {p : Nat → Bool} (hk : k < n) (hp : p k = true) (hl : ∀ i, i < k → p i = false) : (List.range n).filter p = k :: (List.range n).filter (fun i => p i && decide (i ≠ k)) := by
  obtain ⟨d, rfl⟩ : ∃ d, n = k + (d + 1) := ⟨n - k - 1, by omega⟩
  have e : List.range (k + (d + 1)) = List.range k ++ k :: (List.range d).map (fun i => k + 1 + i) := by
    rw [List.range_add, List.range_succ_eq_map]
    simp [List.map_map, Function.comp_def, Nat.add_assoc, Nat.add_comm 1]
  have h1 : ∀ q : Nat → Bool, (∀ i, i < k → q i = false) → (List.range k).filter q = [] := fun q hq => by
    rw [List.filter_eq_nil_iff]
    intro i hi
    rw [hq i (List.mem_range.1 hi)]
    decide
  rw [e, List.filter_append, List.filter_append, h1 p hl, h1 _ (fun i hi => by rw [hl i hi]; rfl), List.nil_append, List.nil_append, List.filter_cons_of_pos hp, List.filter_cons_of_neg (by simp)]
  congr 1
  refine List.filter_congr fun i hi => ?_
  obtain ⟨j, _, rfl⟩ := List.mem_map.1 hi
  have : decide (k + 1 + j ≠ k) = true := by simp; omega
  rw [this, Bool.and_true]

def bitsOf (j a : Nat) : List Int := ((List.range 31).filter (fun b => a.testBit b)).map (fun b => ((31 * j + b : Nat) : Int))
theorem bitsOf_zero (j : Nat) : bitsOf j 0 = [] := by simp [bitsOf]
theorem bitsOf_low {j a : Nat} (h0 : 0 < a) (h1 : a < 2 ^ 31) : Lib.ctz 64 a < 31 ∧ bitsOf j a = ((31 * j + Lib.ctz 64 a : Nat) : Int) :: bitsOf j (a &&& (a - 1)) := by
  obtain ⟨k1, k2, k3⟩ := low_spec h0 (by omega)
  have hk : Lib.ctz 64 a < 31 := by
    apply Classical.byContradiction
    intro hn
    rw [Nat.testBit_lt_two_pow (Nat.lt_of_lt_of_le h1 (Nat.pow_le_pow_right (by decide) (by omega)))] at k1
    cases k1
  refine ⟨hk, ?_⟩
  unfold bitsOf
  rw [filter_low hk k1 k2, List.map_cons]
  congr 2
  exact List.filter_congr fun i _ => (k3 i).symm
end
end Go.Proofs.YtpnklahcegahiaaDoor
