/- More words for the plain laws: loops in closed form, numbers, lists. -/
import Derived.Test.YtpnklahcegahiaaDoorViPlain
set_option linter.unusedVariables false
set_option linter.unusedSimpArgs false
set_option linter.unnecessarySimpa false
set_option linter.unusedSectionVars false
namespace Go.Vi

/-- A loop whose states are told by their number; it ends at the n-th. -/
theorem iterF_seq {S R : Type} {step : (S → Option R) → S → Option R} {s0 : S} (st : Nat → S) (n : Nat) (r : R) (h0 : st 0 = s0) (hs : ∀ i, i < n → ∀ ih, step ih (st i) = ih (st (i + 1))) (he : ∀ ih, step ih (st n) = some r) {N : Nat} (hN : n < N) : iterF N step s0 = some r := by
  rw [← h0]
  have : ∀ k i, i + k = n → ∀ M, k < M → iterF M step (st i) = some r := by
    intro k
    induction k with
    | zero =>
      intro i hi M hM
      obtain ⟨M, rfl⟩ : ∃ m, M = m + 1 := ⟨M - 1, by omega⟩
      rw [iterF_succ, show i = n by omega]; exact he _
    | succ k ih =>
      intro i hi M hM
      obtain ⟨M, rfl⟩ : ∃ m, M = m + 1 := ⟨M - 1, by omega⟩
      rw [iterF_succ, hs i (by omega)]
      exact ih (i + 1) (by omega) M (by omega)
  exact this n 0 (by omega) N hN

/-- .. and what comes behind the loop is no value yet. -/
theorem iterF_run {S R : Type} {step : (S → Option R) → S → Option R} {s0 : S} (st : Nat → S) (n : Nat) (r : Option R) (h0 : st 0 = s0) (hs : ∀ i, i < n → ∀ ih, step ih (st i) = ih (st (i + 1))) (he : ∀ ih, step ih (st n) = r) {N : Nat} (hN : n < N) : iterF N step s0 = r := by
  rw [← h0]
  have : ∀ k i, i + k = n → ∀ M, k < M → iterF M step (st i) = r := by
    intro k
    induction k with
    | zero =>
      intro i hi M hM
      obtain ⟨M, rfl⟩ : ∃ m, M = m + 1 := ⟨M - 1, by omega⟩
      rw [iterF_succ, show i = n by omega]; exact he _
    | succ k ih =>
      intro i hi M hM
      obtain ⟨M, rfl⟩ : ∃ m, M = m + 1 := ⟨M - 1, by omega⟩
      rw [iterF_succ, hs i (by omega)]
      exact ih (i + 1) (by omega) M (by omega)
  exact this n 0 (by omega) N hN

theorem ltI_dec (x y : Int) : ltI x y = decide (x < y) := ltI_def x y
theorem leI_dec (x y : Int) : leI x y = decide (x ≤ y) := leI_def x y
theorem inB_dec (i n : Int) : inB i n = decide (0 ≤ i ∧ i < n) := by rw [inB_def]; simp
theorem inS_dec (l h n : Int) : inS l h n = decide (0 ≤ l ∧ l ≤ h ∧ h ≤ n) := by rw [inS_def]; simp
theorem iadd64 {x y : Int} (h1 : -9223372036854775808 ≤ x + y) (h2 : x + y < 9223372036854775808) : iadd .i64 x y = x + y := by rw [iadd_def, wrap64 h1 h2]
theorem isub64 {x y : Int} (h1 : -9223372036854775808 ≤ x - y) (h2 : x - y < 9223372036854775808) : isub .i64 x y = x - y := by rw [isub_def, wrap64 h1 h2]
theorem imul64 {x y : Int} (h1 : -9223372036854775808 ≤ x * y) (h2 : x * y < 9223372036854775808) : imul .i64 x y = x * y := by rw [imul_def, wrap64 h1 h2]
theorem ineg64 {x : Int} (h1 : -9223372036854775808 < x) (h2 : x < 9223372036854775808) : ineg .i64 x = -x := by rw [ineg_def, wrap64 (by omega) (by omega)]; omega
theorem iwrap64 {x : Int} (h1 : -9223372036854775808 ≤ x) (h2 : x < 9223372036854775808) : iwrap .i64 x = x := by rw [iwrap_def, wrap64 h1 h2]
theorem iquo64 {x y : Int} (hx : 0 ≤ x) (hy : 0 < y) (h2 : x < 9223372036854775808) : iquo .i64 x y = x / y := by
  have h3 : x / y ≤ x := Int.ediv_le_self _ hx
  have h4 : 0 ≤ x / y := Int.ediv_nonneg hx (by omega)
  rw [iquo_def, Int.tdiv_eq_ediv_of_nonneg hx, wrap64 (by omega) (by omega)]
theorem irem64 {x y : Int} (hx : 0 ≤ x) : irem x y = x % y := by rw [irem_def, Int.tmod_eq_emod_of_nonneg hx]
theorem iadd_nat {i : Nat} (h : i < 4611686018427387904) : iadd .i64 (i : Int) 1 = ((i + 1 : Nat) : Int) := by
  rw [iadd_def, wrap64 (by omega) (by omega)]
  omega
theorem lt_len {α : Type} {xs : List α} {i : Nat} (h : i < xs.length) : ltI (i : Int) (lenI xs) = true := by rw [ltI_def, lenI_def]; simp; omega
theorem nlt_len {α : Type} {xs : List α} {i : Nat} (h : ¬ i < xs.length) : ltI (i : Int) (lenI xs) = false := by rw [ltI_def, lenI_def]; simp; omega
theorem inB_len {α : Type} {xs : List α} {i : Nat} (h : i < xs.length) : inB (i : Int) (lenI xs) = true := by rw [lenI_def]; exact inB_nat h
theorem drop_cons' {α : Type} {xs : List α} {i : Nat} (h : i < xs.length) : xs.drop i = xs[i] :: xs.drop (i + 1) := List.drop_eq_getElem_cons h
theorem take_snoc {α : Type} {xs : List α} {i : Nat} (h : i < xs.length) : xs.take (i + 1) = xs.take i ++ [xs[i]] := by rw [List.take_succ_eq_append_getElem h]
theorem lget_at {α : Type} {xs : List α} {i : Nat} (d : α) (h : i < xs.length) : lget xs (i : Int) d = xs[i] := lget_nat (List.getElem?_eq_getElem h)
theorem room2_ok {α β : Type} {xs : List α} {ys : List β} {b : Nat} (h : (xs.length + ys.length) * b ≤ 140737488355328) : room2 (lenI xs) (lenI ys) b = true := by
  rw [room2_def, lenI_def, lenI_def]
  refine decide_eq_true ?_
  have : (((xs.length + ys.length) * b : Nat) : Int) ≤ 140737488355328 := by omega
  rwa [Int.natCast_mul, Int.natCast_add] at this
theorem slice_from {α : Type} (xs : List α) (i : Nat) : lslice xs (i : Int) (lenI xs) = xs.drop i := by
  rw [lslice_def, lenI_def]; simp
theorem slice_to {α : Type} (xs : List α) (i : Nat) : lslice xs 0 (i : Int) = xs.take i := by
  rw [lslice_def]; simp
theorem slice_at {α : Type} (xs : List α) (i j : Nat) : lslice xs (i : Int) (j : Int) = (xs.take j).drop i := by
  rw [lslice_def]; simp
theorem inS_from {α : Type} {xs : List α} {i : Nat} (h : i ≤ xs.length) : inS (i : Int) (lenI xs) (lenI xs) = true := by
  rw [inS_def, lenI_def]; simp; omega
theorem wrap_u8 (n : Int) : IntKind.wrap .u8 n = n % 256 := by simp [IntKind.wrap, IntKind.signed, IntKind.bits]
theorem wrap_u64 (n : Int) : IntKind.wrap .u64 n = n % 18446744073709551616 := by simp [IntKind.wrap, IntKind.signed, IntKind.bits]
theorem wrap_u64_id {n : Int} (h1 : 0 ≤ n) (h2 : n < 18446744073709551616) : IntKind.wrap .u64 n = n := by rw [wrap_u64]; omega
theorem wrap8_id {n : Int} (h1 : 0 ≤ n) (h2 : n < 256) : iwrap .u8 n = n := by rw [iwrap_def, wrap_u8]; omega

theorem bv64 (n : Nat) : BitVec.ofInt 64 (n : Int) = BitVec.ofNat 64 n := by
  apply BitVec.eq_of_toInt_eq
  rw [BitVec.toInt_ofInt]
  exact (BitVec.toInt_ofNat' ..).symm
theorem bits64 : IntKind.bits .i64 = 64 := rfl
theorem bor64 {a b : Nat} (ha : a < 2 ^ 62) (hb : b < 2 ^ 62) : bor .i64 (a : Int) (b : Int) = ((a ||| b : Nat) : Int) := by
  have hab : a ||| b < 2 ^ 62 := Nat.or_lt_two_pow ha hb
  rw [bor_def, bits64, bv64, bv64, BitVec.toNat_or, BitVec.toNat_ofNat, BitVec.toNat_ofNat, Nat.mod_eq_of_lt (by omega), Nat.mod_eq_of_lt (by omega), wrap64 (by omega) (by omega)]
theorem band64 {a b : Nat} (ha : a < 2 ^ 62) (hb : b < 2 ^ 62) : band .i64 (a : Int) (b : Int) = ((a &&& b : Nat) : Int) := by
  have hab : a &&& b < 2 ^ 62 := Nat.and_lt_two_pow a hb
  rw [band_def, bits64, bv64, bv64, BitVec.toNat_and, BitVec.toNat_ofNat, BitVec.toNat_ofNat, Nat.mod_eq_of_lt (by omega), Nat.mod_eq_of_lt (by omega), wrap64 (by omega) (by omega)]
theorem shl64 {a k : Nat} (hk : k < 62) (h : a * 2 ^ k < 2 ^ 62) : shlI .i64 (a : Int) (k : Int) = ((a * 2 ^ k : Nat) : Int) := by
  rw [shlI_def, bits64, Int.toNat_natCast, Nat.min_eq_left (by omega)]
  have e : (a : Int) * 2 ^ k = ((a * 2 ^ k : Nat) : Int) := by push_cast; rfl
  rw [e, wrap64 (by omega) (by omega)]
theorem shr64 {a k : Nat} (hk : k < 62) : shrI .i64 (a : Int) (k : Int) = ((a / 2 ^ k : Nat) : Int) := by
  rw [shrI_def, bits64, Int.toNat_natCast, Nat.min_eq_left (by omega)]
  have e : (2 : Int) ^ k = ((2 ^ k : Nat) : Int) := by push_cast; rfl
  rw [e, Int.fdiv_eq_ediv_of_nonneg _ (Int.natCast_nonneg _)]
  push_cast; rfl
end Go.Vi
