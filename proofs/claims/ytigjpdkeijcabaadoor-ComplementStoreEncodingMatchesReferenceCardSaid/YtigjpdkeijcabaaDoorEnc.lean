/- The row encoding: numbers, bytes, the encoders. -/
import Derived.Test.YtigjpdkeijcabaaDoorFnsA
import Derived.Test.YtigjpdkeijcabaaDoorViPlain
set_option linter.unusedVariables false
set_option linter.unusedSimpArgs false
set_option linter.unnecessarySimpa false
set_option linter.unusedSectionVars false
set_option linter.unusedSimpArgs false
namespace Go.Proofs.YtigjpdkeijcabaaDoor
open Go.Vi
noncomputable section

/-! ## Validation -/
def vErr (v : D_api_Value) : Int :=
  if v.1 = 0 then (if v.2.1 ≠ 0 ∨ v.2.2.1 ≠ [] then 3 else 0)
  else if v.1 = 1 ∨ v.1 = 2 then (if v.2.2.1 ≠ [] then 3 else if (v.1 = 2 ∧ v.2.1 ≠ 0 ∧ v.2.1 ≠ 1) ∨ v.2.1 < -1000000000000 ∨ 1000000000000 < v.2.1 then 1 else 0)
  else if v.1 = 3 then (if v.2.1 ≠ 0 then 3 else if 24 < (v.2.2.1.length : Int) then 2 else 0)
  else 7

theorem validate_eq (N : Nat) (v : D_api_Value) : F_value_Validate N (v, ()) = some ((vErr v, ()), ()) := by
  obtain ⟨k, n, s, _⟩ := v
  simp only [F_value_Validate, letJ_def, condOr]
  simp only [eqI_dec, neI_dec, ltI_def, eqS_dec, lenI_def, vErr, condO, condB, Bool.or_eq_true, Bool.and_eq_true, Bool.not_eq_true', decide_eq_true_eq, decide_eq_false_iff_not, Bool.and_eq_false_iff, Bool.or_eq_false_iff, Bool.not_eq_false']
  grind

theorem validateValue_eq (N : Nat) (v : D_api_Value) : F_stemref2_ValidateValue N (v, ()) = some ((vErr v, ()), ()) := by
  obtain ⟨k, n, s, _⟩ := v
  simp only [F_stemref2_ValidateValue, letJ_def, condOr]
  simp only [eqI_dec, neI_dec, ltI_def, eqS_dec, lenI_def, vErr, condO, condB, Bool.or_eq_true, Bool.and_eq_true, Bool.not_eq_true', decide_eq_true_eq, decide_eq_false_iff_not, Bool.and_eq_false_iff, Bool.or_eq_false_iff, Bool.not_eq_false']
  have hs : s = [] → (s.length : Int) = 0 := by rintro rfl; rfl
  have hk : k < 0 ∨ k = 0 ∨ k = 1 ∨ k = 2 ∨ k = 3 ∨ 3 < k := by omega
  rcases hk with hk | hk | hk | hk | hk | hk <;> grind

def firstErr : List D_api_Value → Int
  | [] => 0
  | v :: r => if vErr v ≠ 0 then vErr v else firstErr r
def rowErr (r : List D_api_Value) : Int := if 12 < r.length then 2 else firstErr r

theorem firstErr_zero : {r : List D_api_Value} → firstErr r = 0 → ∀ v ∈ r, vErr v = 0
  | [], _, _, h => by cases h
  | v :: r, h, u, hu => by
    simp only [firstErr] at h
    split at h
    · rename_i h0; exact absurd h h0
    · rename_i h0
      rcases List.mem_cons.1 hu with rfl | hu
      · exact Classical.byContradiction h0
      · exact firstErr_zero h u hu

theorem drop_cons' {α : Type} {xs : List α} {i : Nat} (h : i < xs.length) : xs.drop i = xs[i] :: xs.drop (i + 1) := List.drop_eq_getElem_cons h
theorem iadd_nat {i : Nat} (h : i < 4611686018427387904) : iadd .i64 (i : Int) 1 = ((i + 1 : Nat) : Int) := by
  rw [iadd_def, wrap64 (by omega) (by omega)]
  omega
theorem lt_len {α : Type} {xs : List α} {i : Nat} (h : i < xs.length) : ltI (i : Int) (lenI xs) = true := by rw [ltI_def, lenI_def]; simp; omega
theorem nlt_len {α : Type} {xs : List α} {i : Nat} (h : ¬ i < xs.length) : ltI (i : Int) (lenI xs) = false := by rw [ltI_def, lenI_def]; simp; omega
theorem inB_len {α : Type} {xs : List α} {i : Nat} (h : i < xs.length) : inB (i : Int) (lenI xs) = true := by rw [lenI_def]; exact inB_nat h

theorem checkRow_eq (N : Nat) (r : List D_api_Value) (hN : 20 < N) : F_encoding_CheckRow N (r, ()) = some ((rowErr r, ()), ()) := by
  simp only [F_encoding_CheckRow, letJ_def, rowErr]
  by_cases h : 12 < r.length
  · rw [if_pos h, cond_pos (by rw [ltI_def, lenI_def]; simp; omega)]
  · rw [if_neg h, cond_neg (by rw [ltI_def, lenI_def]; simp; omega)]
    refine iterF_post (S := Int × Unit) (R := (Int × Unit) × Unit) (fun p => r.length - p.1.toNat) (fun p => ∃ i : Nat, p.1 = (i : Int) ∧ i ≤ r.length) (fun p => ((firstErr (r.drop p.1.toNat), ()), ())) ?_ N _ ⟨0, rfl, Nat.zero_le _⟩ (by simp; omega)
    rintro ih ⟨_, _⟩ ⟨i, rfl, h2⟩ hih
    simp only [Int.toNat_natCast] at hih ⊢
    by_cases hi : i < r.length
    · have hg : lget r (i : Int) (0, (0, ([], ()))) = r[i] := lget_nat (List.getElem?_eq_getElem hi)
      rw [cond_pos (lt_len hi), cond_pos (inB_len hi)]
      simp only [hg, validate_eq, oSome_some, oGet_some, cond_true, neI_dec]
      rw [drop_cons' hi]
      by_cases he : vErr r[i] = 0
      · rw [cond_neg (by simp [he]), iadd_nat (by omega), hih _ ⟨i + 1, rfl, by omega⟩ (by simp only [Int.toNat_natCast]; omega)]
        simp only [Int.toNat_natCast, firstErr, he, ne_eq, not_true_eq_false, if_false]
      · rw [cond_pos (by simp [he])]
        simp only [firstErr, ne_eq, he, not_false_eq_true, if_true]
    · have hi' : i = r.length := by omega
      rw [cond_neg (nlt_len hi)]
      subst hi'
      simp only [List.drop_length, firstErr]

theorem refCheckRow_eq (N : Nat) (r : List D_api_Value) (hN : 20 < N) : F_stemref4_CheckRow N (r, ()) = some ((rowErr r, ()), ()) := by
  simp only [F_stemref4_CheckRow, letJ_def, rowErr]
  by_cases h : 12 < r.length
  · rw [if_pos h, cond_pos (by rw [ltI_def, lenI_def]; simp; omega)]
  · rw [if_neg h, cond_neg (by rw [ltI_def, lenI_def]; simp; omega)]
    refine iterF_post (S := Int × Unit) (R := (Int × Unit) × Unit) (fun p => r.length - p.1.toNat) (fun p => ∃ i : Nat, p.1 = (i : Int) ∧ i ≤ r.length) (fun p => ((firstErr (r.drop p.1.toNat), ()), ())) ?_ N _ ⟨0, rfl, Nat.zero_le _⟩ (by simp; omega)
    rintro ih ⟨_, _⟩ ⟨i, rfl, h2⟩ hih
    simp only [Int.toNat_natCast] at hih ⊢
    by_cases hi : i < r.length
    · have hg : lget r (i : Int) (0, (0, ([], ()))) = r[i] := lget_nat (List.getElem?_eq_getElem hi)
      rw [cond_pos (lt_len hi), cond_pos (inB_len hi)]
      simp only [hg, validateValue_eq, oSome_some, oGet_some, cond_true, neI_dec]
      rw [drop_cons' hi]
      by_cases he : vErr r[i] = 0
      · rw [cond_neg (by simp [he]), iadd_nat (by omega), hih _ ⟨i + 1, rfl, by omega⟩ (by simp only [Int.toNat_natCast]; omega)]
        simp only [Int.toNat_natCast, firstErr, he, ne_eq, not_true_eq_false, if_false]
      · rw [cond_pos (by simp [he])]
        simp only [firstErr, ne_eq, he, not_false_eq_true, if_true]
    · have hi' : i = r.length := by omega
      rw [cond_neg (nlt_len hi)]
      subst hi'
      simp only [List.drop_length, firstErr]

/-! ## Bits -/
theorem wrap_u8 (n : Int) : IntKind.wrap .u8 n = n % 256 := by simp [IntKind.wrap, IntKind.signed, IntKind.bits]
theorem wrap_u64 (n : Int) : IntKind.wrap .u64 n = n % 18446744073709551616 := by simp [IntKind.wrap, IntKind.signed, IntKind.bits]
theorem wrap_u64_id {n : Int} (h1 : 0 ≤ n) (h2 : n < 18446744073709551616) : IntKind.wrap .u64 n = n := by rw [wrap_u64]; omega

theorem bor8_128 (n : Nat) : bor .u8 (iwrap .u8 (n : Int)) 128 = ((n % 128 + 128 : Nat) : Int) := by
  have hm : n % 256 < 256 := Nat.mod_lt _ (by decide)
  have key : ∀ m : Fin 256, (BitVec.ofInt 8 (m.val : Int) ||| BitVec.ofInt 8 128).toNat = m.val % 128 + 128 := by decide +kernel
  have := key ⟨n % 256, hm⟩
  have e : IntKind.wrap .u8 (n : Int) = ((n % 256 : Nat) : Int) := by rw [wrap_u8]; omega
  rw [bor_def, iwrap_def, e]
  have h2 : ((BitVec.ofInt 8 ((n % 256 : Nat) : Int) ||| BitVec.ofInt 8 128).toNat : Int) = ((n % 256 % 128 + 128 : Nat) : Int) := congrArg Nat.cast this
  refine (congrArg (IntKind.wrap .u8) h2).trans ?_
  rw [wrap_u8]
  omega

theorem shrU64_7 {n : Nat} : shrI .u64 (n : Int) 7 = ((n / 128 : Nat) : Int) := by
  rw [shrI_def]
  show Int.fdiv (n : Int) (2 ^ (min 7 64)) = _
  rw [show (2 : Int) ^ (min 7 64) = 128 from rfl, Int.fdiv_eq_ediv_of_nonneg _ (by decide)]
  omega

/-! ## Numbers in base 128 -/
def uvar (n : Nat) : List Int := if n < 128 then [(n : Int)] else ((n % 128 + 128 : Nat) : Int) :: uvar (n / 128)
termination_by n
decreasing_by omega

theorem uvar_small {n : Nat} (h : n < 128) : uvar n = [(n : Int)] := by rw [uvar, if_pos h]
theorem uvar_big {n : Nat} (h : ¬ n < 128) : uvar n = ((n % 128 + 128 : Nat) : Int) :: uvar (n / 128) := by rw [uvar, if_neg h]
theorem uvar_len : ∀ (k n : Nat), n < 128 ^ (k + 1) → (uvar n).length ≤ k + 1
  | 0, n, h => by rw [uvar_small (by simpa using h)]; simp
  | k + 1, n, h => by
    by_cases hn : n < 128
    · rw [uvar_small hn]; simp
    · rw [uvar_big hn]
      have := uvar_len k (n / 128) (by rw [Nat.div_lt_iff_lt_mul (by decide), ← Nat.pow_succ]; exact h)
      simp only [List.length_cons]
      omega

theorem room_one (out : List Int) (b : Int) (h : out.length ≤ 100000000) : room2 (lenI out) (lenI ([b] : List Int)) 1 = true := by
  rw [room2_def, lenI_def, lenI_def]
  simp
  omega

theorem appendUvarint_eq (N : Nat) (out : List Int) (n : Nat) (hn : n < 128 ^ 9) (hN : 20 < N) (hb : out.length ≤ 1000000) : F_encoding_appendUvarint N (out, ((n : Int), ())) = some ((out ++ uvar n, ()), ()) := by
  simp only [F_encoding_appendUvarint, letJ_def]
  have hl := uvar_len 8 n hn
  refine iterF_post (S := (List Int) × (Int × Unit)) (R := ((List Int) × Unit) × Unit) (fun p => (uvar p.2.1.toNat).length) (fun p => ∃ m : Nat, p.2.1 = (m : Int) ∧ p.1.length + (uvar m).length ≤ 1000020) (fun p => ((p.1 ++ uvar p.2.1.toNat, ()), ())) ?_ N _ ⟨n, rfl, by simp only; omega⟩ (by simp only [Int.toNat_natCast]; omega)
  rintro ih ⟨o, _, _⟩ ⟨m, rfl, h2⟩ hih
  simp only [Int.toNat_natCast] at hih h2 ⊢
  by_cases hm : m < 128
  · rw [uvar_small hm] at h2 ⊢
    simp only [List.length_cons, List.length_nil] at h2
    rw [cond_neg (by rw [leI_def]; simp; omega), cond_pos (room_one _ _ (by omega)), lapp_def, iwrap_def, wrap_u8]
    have e : (m : Int) % 256 = (m : Int) := by omega
    rw [e]
  · rw [uvar_big hm] at h2 hih ⊢
    simp only [List.length_cons] at h2 hih
    rw [cond_pos (by rw [leI_def]; simp; omega), cond_pos (room_one _ _ (by omega)), cond_pos (by rw [leI_def]; rfl), lapp_def, bor8_128, shrU64_7]
    rw [hih _ ⟨m / 128, rfl, by simp only [List.length_append, List.length_cons, List.length_nil]; omega⟩ (by simp only [Int.toNat_natCast]; omega)]
    simp only [Int.toNat_natCast, List.append_assoc, List.cons_append, List.nil_append]

/-! ## Signs -/
def zig (v : Int) : Nat := if v < 0 then (-2 * v - 1).toNat else (2 * v).toNat
theorem xor64 (k : IntKind) (hk : k.bits = 64) (x y : Int) : bxor k x y = k.wrap (((BitVec.ofInt 64 x ^^^ BitVec.ofInt 64 y).toNat : Nat) : Int) := by
  rw [bxor_def]
  cases k <;> first | rfl | cases hk
theorem xor64_zero (k : IntKind) (hk : k.bits = 64) {x : Int} (h1 : 0 ≤ x) (h2 : x < 18446744073709551616) : bxor k x 0 = k.wrap x := by
  rw [xor64 k hk]
  have : (BitVec.ofInt 64 x ^^^ BitVec.ofInt 64 0) = BitVec.ofInt 64 x := by
    rw [show BitVec.ofInt 64 0 = 0#64 from rfl, BitVec.xor_zero]
  rw [this, BitVec.toNat_ofInt]
  congr 1
  omega
theorem xor64_ones (k : IntKind) (hk : k.bits = 64) {x y : Int} (h1 : 0 ≤ x) (h2 : x < 18446744073709551616) (hy : BitVec.ofInt 64 y = BitVec.allOnes 64) : bxor k x y = k.wrap (18446744073709551615 - x) := by
  rw [xor64 k hk, hy, BitVec.xor_allOnes, BitVec.toNat_not, BitVec.toNat_ofInt]
  congr 1
  omega

theorem zig_enc {v : Int} (h1 : -1000000000000 ≤ v) (h2 : v ≤ 1000000000000) : bxor .u64 (shlI .u64 (iwrap .u64 v) 1) (iwrap .u64 (shrI .i64 v 63)) = (zig v : Int) := by
  have hs : shlI .u64 (iwrap .u64 v) 1 = (2 * v) % 18446744073709551616 := by
    rw [shlI_def, iwrap_def, wrap_u64, wrap_u64]
    show (v % 18446744073709551616 * 2 ^ (min 1 64)) % 18446744073709551616 = _
    rw [show (2 : Int) ^ (min 1 64) = 2 from rfl]
    omega
  have hr : shrI .i64 v 63 = v.fdiv 9223372036854775808 := by rw [shrI_def]; rfl
  rw [hs, hr, iwrap_def, wrap_u64]
  unfold zig
  by_cases h : v < 0
  · have e : v.fdiv 9223372036854775808 = -1 := by
      rw [Int.fdiv_eq_ediv_of_nonneg _ (by decide)]
      omega
    rw [if_pos h, e, xor64_ones .u64 rfl (by omega) (by omega) (by decide), wrap_u64]
    omega
  · have e : v.fdiv 9223372036854775808 = 0 := by
      rw [Int.fdiv_eq_ediv_of_nonneg _ (by decide)]
      omega
    rw [if_neg h, e, show (0 : Int) % 18446744073709551616 = 0 from rfl, xor64_zero .u64 rfl (by omega) (by omega), wrap_u64]
    omega

theorem zig_dec {v : Int} (h1 : -1000000000000 ≤ v) (h2 : v ≤ 1000000000000) : bxor .i64 (iwrap .i64 (shrI .u64 (zig v : Int) 1)) (ineg .i64 (iwrap .i64 (band .u64 (zig v : Int) 1))) = v := by
  have hz : zig v < 4000000000000 := by unfold zig; split <;> omega
  have hs : shrI .u64 (zig v : Int) 1 = ((zig v / 2 : Nat) : Int) := by
    rw [shrI_def]
    show Int.fdiv (zig v : Int) (2 ^ (min 1 64)) = _
    rw [show (2 : Int) ^ (min 1 64) = 2 from rfl, Int.fdiv_eq_ediv_of_nonneg _ (by decide)]
    omega
  have hb : band .u64 (zig v : Int) 1 = ((zig v % 2 : Nat) : Int) := by
    rw [band_def]
    have h0 : (BitVec.ofInt 64 (zig v : Int) &&& BitVec.ofInt 64 1).toNat = zig v % 2 := by
      rw [BitVec.toNat_and, BitVec.toNat_ofInt, BitVec.toNat_ofInt]
      have e1 : ((zig v : Int) % (2 ^ 64 : Nat)).toNat = zig v := by omega
      have e2 : ((1 : Int) % (2 ^ 64 : Nat)).toNat = 1 := by decide
      rw [e1, e2, Nat.and_one_is_mod]
    refine (congrArg (fun z : Nat => IntKind.wrap .u64 (z : Int)) h0).trans ?_
    show IntKind.wrap .u64 ((zig v % 2 : Nat) : Int) = _
    rw [wrap_u64_id (by omega) (by omega)]
  rw [hs, hb, iwrap_def, iwrap_def, wrap64 (by omega) (by omega), wrap64 (by omega) (by omega), ineg_def]
  have hzz : ((zig v : Nat) : Int) = if v < 0 then -2 * v - 1 else 2 * v := by unfold zig; split <;> omega
  by_cases h : v < 0
  · rw [if_pos h] at hzz
    have e : zig v % 2 = 1 := by omega
    rw [e, show IntKind.wrap .i64 (0 - ((1 : Nat) : Int)) = -1 from by decide, xor64_ones .i64 rfl (by omega) (by omega) (by decide)]
    have : ∀ z : Int, 0 ≤ z → z < 4000000000000 → IntKind.wrap .i64 (18446744073709551615 - z) = -1 - z := fun z h1 h2 => by
      simp [IntKind.wrap, IntKind.signed, IntKind.bits]
      split <;> omega
    rw [this _ (by omega) (by omega)]
    omega
  · rw [if_neg h] at hzz
    have e : zig v % 2 = 0 := by omega
    rw [e, show IntKind.wrap .i64 (0 - ((0 : Nat) : Int)) = 0 from by decide, xor64_zero .i64 rfl (by omega) (by omega), wrap64 (by omega) (by omega)]
    omega

/-! ## Rows -/
def bytesOf (s : List UInt8) : List Int := s.map fun b => (b.toNat : Int)
theorem bytesI_eq (s : List UInt8) : bytesI s = bytesOf s := by
  rw [bytesI_def]
  exact List.map_congr_left fun b _ => byteI_def b
def encV (v : D_api_Value) : List Int := v.1 :: (if v.1 = 1 then uvar (zig v.2.1) else if v.1 = 2 then [v.2.1] else if v.1 = 3 then (v.2.2.1.length : Int) :: bytesOf v.2.2.1 else [])
def encR (r : List D_api_Value) : List Int := (r.length : Int) :: r.flatMap encV

theorem vErr_zero {v : D_api_Value} (h : vErr v = 0) : (v.1 = 0 ∧ v.2.1 = 0 ∧ v.2.2.1 = []) ∨ (v.1 = 1 ∧ -1000000000000 ≤ v.2.1 ∧ v.2.1 ≤ 1000000000000 ∧ v.2.2.1 = []) ∨ (v.1 = 2 ∧ (v.2.1 = 0 ∨ v.2.1 = 1) ∧ v.2.2.1 = []) ∨ (v.1 = 3 ∧ v.2.1 = 0 ∧ v.2.2.1.length ≤ 24) := by
  unfold vErr at h
  grind

theorem encV_len {v : D_api_Value} (h : vErr v = 0) : (encV v).length ≤ 30 := by
  unfold encV
  rcases vErr_zero h with ⟨h1, _, _⟩ | ⟨h1, h2, h3, _⟩ | ⟨h1, _, _⟩ | ⟨h1, _, h3⟩
  · simp [h1]
  · have hz : zig v.2.1 < 128 ^ (6 + 1) := by unfold zig; split <;> omega
    have := uvar_len 6 _ hz
    simp [h1]
    omega
  · simp [h1]
  · simp [h1, bytesOf]
    omega

theorem wrap8_id {n : Int} (h1 : 0 ≤ n) (h2 : n < 256) : iwrap .u8 n = n := by rw [iwrap_def, wrap_u8]; omega

theorem flat_take {r : List D_api_Value} {i : Nat} (hi : i < r.length) : (r.take (i + 1)).flatMap encV = (r.take i).flatMap encV ++ encV r[i] := by
  rw [List.take_add_one, List.getElem?_eq_getElem hi, List.flatMap_append]
  simp only [Option.toList, List.flatMap_cons, List.flatMap_nil, List.append_nil]

theorem flat_len {r : List D_api_Value} (h : ∀ v ∈ r, vErr v = 0) : (r.flatMap encV).length ≤ 30 * r.length := by
  induction r with
  | nil => simp
  | cons v r ih =>
    have h1 := encV_len (h v List.mem_cons_self)
    have h2 := ih fun u hu => h u (List.mem_cons_of_mem _ hu)
    simp only [List.flatMap_cons, List.length_append, List.length_cons]
    omega

theorem appendRow_eq (N : Nat) (dst : List Int) (hd : dst.length ≤ 900000) (r : List D_api_Value) (hr : r.length ≤ 12) (hv : ∀ v ∈ r, vErr v = 0) (hN : 20 < N) : F_encoding_appendRow N (dst, (r, ())) = some ((dst ++ encR r, ()), ()) := by
  simp only [F_encoding_appendRow, letJ_def]
  rw [cond_pos (room_one _ _ (by omega))]
  have hl : iwrap .u8 (lenI r) = (r.length : Int) := by rw [lenI_def]; exact wrap8_id (by omega) (by omega)
  simp only [lapp_def, List.nil_append, hl]
  refine iterF_post (S := (List Int) × (Int × Unit)) (R := ((List Int) × Unit) × Unit) (fun p => r.length - p.2.1.toNat) (fun p => ∃ i : Nat, p.2.1 = (i : Int) ∧ i ≤ r.length ∧ p.1 = dst ++ ((r.length : Int) :: (r.take i).flatMap encV)) (fun p => ((dst ++ encR r, ()), ())) ?_ N _ ⟨0, rfl, Nat.zero_le _, by simp⟩ (by simp; omega)
  rintro ih ⟨o, _, _⟩ ⟨i, rfl, h2, ho⟩ hih
  simp only [Int.toNat_natCast] at hih ho ⊢
  subst ho
  by_cases hi : i < r.length
  · have hg : lget r (i : Int) (0, (0, ([], ()))) = r[i] := lget_nat (List.getElem?_eq_getElem hi)
    have hfl : ((r.take i).flatMap encV).length ≤ 30 * (r.take i).length := flat_len fun v hm => hv v (List.mem_of_mem_take hm)
    have htl : (r.take i).length ≤ 12 := by rw [List.length_take]; omega
    have hvi := hv r[i] (List.getElem_mem hi)
    rw [cond_pos (lt_len hi), cond_pos (inB_len hi), cond_pos (room_one _ _ (by simp only [List.length_append, List.length_cons]; omega))]
    simp only [hg]
    have fin : ∀ (o' : List Int), o' = dst ++ ((r.length : Int) :: (r.take (i + 1)).flatMap encV) → ih (o', (iadd .i64 (i : Int) 1, ())) = some ((dst ++ encR r, ()), ()) := fun o' ho' => by
      rw [iadd_nat (by omega)]
      exact hih _ ⟨i + 1, rfl, by omega, ho'⟩ (by simp only [Int.toNat_natCast]; omega)
    have hlen : ∀ b : Int, (dst ++ ((r.length : Int) :: (r.take i).flatMap encV) ++ [b]).length ≤ 901000 := fun b => by
      simp only [List.length_append, List.length_cons, List.length_nil]; omega
    rcases vErr_zero hvi with ⟨h1, _, _⟩ | ⟨h1, h3, h4, _⟩ | ⟨h1, h3, _⟩ | ⟨h1, _, h3⟩
    · have hk : iwrap .u8 0 = 0 := by exact wrap8_id (by omega) (by omega)
      simp only [hk, h1, eqI_dec, show ¬ ((0 : Int) = 1) by decide, show ¬ ((0 : Int) = 2) by decide, show ¬ ((0 : Int) = 3) by decide, decide_false, cond_false, cond_true]
      refine fin _ ?_
      rw [flat_take hi]
      simp [encV, h1]
    · have hk : iwrap .u8 1 = 1 := by exact wrap8_id (by omega) (by omega)
      have hz : zig r[i].2.1 < 128 ^ 9 := by unfold zig; split <;> omega
      simp only [hk, h1, eqI_dec, zig_enc h3 h4, appendUvarint_eq N _ _ hz hN (Nat.le_trans (hlen 1) (by omega)), oSome_some, oGet_some, decide_true, cond_true, leI_def, show decide ((0 : Int) ≤ 1) = true from rfl, show decide ((0 : Int) ≤ 63) = true from rfl, Bool.and_self]
      refine fin _ ?_
      rw [flat_take hi]
      simp [encV, h1]
    · have hk : iwrap .u8 2 = 2 := by exact wrap8_id (by omega) (by omega)
      have hb : iwrap .u8 r[i].2.1 = r[i].2.1 := wrap8_id (by omega) (by omega)
      simp only [hk, hb, h1, eqI_dec, show ¬ ((2 : Int) = 1) by decide, decide_false, decide_true, cond_false, cond_true, room_one _ _ (Nat.le_trans (hlen 2) (by omega))]
      refine fin _ ?_
      rw [flat_take hi]
      simp [encV, h1]
    · have hk : iwrap .u8 3 = 3 := by exact wrap8_id (by omega) (by omega)
      have hb : iwrap .u8 (lenI r[i].2.2.1) = (r[i].2.2.1.length : Int) := by rw [lenI_def]; exact wrap8_id (by omega) (by omega)
      have hroom : ∀ o : List Int, o.length ≤ 902000 → room2 (lenI o) (lenI r[i].2.2.1) 1 = true := fun o ho => by
        rw [room2_def, lenI_def, lenI_def]; simp; omega
      have h22 : ∀ b c : Int, (dst ++ ((r.length : Int) :: (r.take i).flatMap encV) ++ [b] ++ [c]).length ≤ 902000 := fun b c => by
        rw [List.length_append]; have := hlen b; simp only [List.length_cons, List.length_nil]; omega
      simp only [hk, hb, h1, eqI_dec, show ¬ ((3 : Int) = 1) by decide, show ¬ ((3 : Int) = 2) by decide, decide_false, decide_true, cond_false, cond_true, room_one _ _ (Nat.le_trans (hlen 3) (by omega)), hroom _ (h22 _ _), Bool.and_self, bytesI_eq]
      refine fin _ ?_
      rw [flat_take hi]
      simp [encV, h1]
  · have hi' : i = r.length := by omega
    rw [cond_neg (nlt_len hi)]
    subst hi'
    rw [List.take_length]
    rfl

theorem encodeRow_eq (N : Nat) (r : List D_api_Value) (hN : 20 < N) : F_encoding_EncodeRow N (r, ()) = some ((if rowErr r = 0 then (encR r, 0, ()) else ([], rowErr r, ())), ()) := by
  simp only [F_encoding_EncodeRow, letJ_def, checkRow_eq N r hN, oSome_some, oGet_some, cond_true, neI_dec]
  by_cases h : rowErr r = 0
  · have h12 : r.length ≤ 12 := by
      unfold rowErr at h
      split at h
      · cases h
      · omega
    have hf : firstErr r = 0 := by unfold rowErr at h; rwa [if_neg (by omega)] at h
    rw [cond_neg (by simp [h]), if_pos h]
    simp only [appendRow_eq N [] (by simp) r h12 (firstErr_zero hf) hN, List.nil_append, oSome_some, oGet_some, cond_true]
  · rw [cond_pos (by simp [h]), if_neg h]

end
end Go.Proofs.YtigjpdkeijcabaaDoor
