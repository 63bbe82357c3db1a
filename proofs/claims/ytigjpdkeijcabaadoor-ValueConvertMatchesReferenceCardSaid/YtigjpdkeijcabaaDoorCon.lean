/- Conversions: both ways say the same. -/
import Derived.Test.YtigjpdkeijcabaaDoorFnsB
import Derived.Test.YtigjpdkeijcabaaDoorViLib
set_option linter.unusedVariables false
set_option linter.unusedSimpArgs false
set_option linter.unnecessarySimpa false
set_option linter.unusedSectionVars false
set_option linter.unusedSimpArgs false
set_option maxRecDepth 100000
namespace Go.Proofs.YtigjpdkeijcabaaDoor
open Go.Vi
noncomputable section

/-! ## Validation -/
def vErr (v : D_api_Value) : Int :=
  if v.1 = 0 then (if v.2.1 ≠ 0 ∨ v.2.2.1 ≠ [] then 3 else 0)
  else if v.1 = 1 ∨ v.1 = 2 then (if v.2.2.1 ≠ [] then 3 else if (v.1 = 2 ∧ v.2.1 ≠ 0 ∧ v.2.1 ≠ 1) ∨ v.2.1 < -1000000000000 ∨ 1000000000000 < v.2.1 then 1 else 0)
  else if v.1 = 3 then (if v.2.1 ≠ 0 then 3 else if 24 < (v.2.2.1.length : Int) then 2 else 0)
  else 7

theorem validate_eq (N : Nat) (v : D_api_Value) : F_value_Validate N (v, ()) = some ((vErr v, ()), ()) := by
  obtain ⟨k, n, s, ⟨⟩⟩ := v
  simp only [F_value_Validate, letJ_def, condOr]
  simp only [eqI_dec, neI_dec, ltI_def, eqS_dec, lenI_def, vErr, condO, condB, Bool.or_eq_true, Bool.and_eq_true, Bool.not_eq_true', decide_eq_true_eq, decide_eq_false_iff_not, Bool.and_eq_false_iff, Bool.or_eq_false_iff, Bool.not_eq_false']
  grind

theorem validateValue_eq (N : Nat) (v : D_api_Value) : F_stemref2_ValidateValue N (v, ()) = some ((vErr v, ()), ()) := by
  obtain ⟨k, n, s, ⟨⟩⟩ := v
  simp only [F_stemref2_ValidateValue, letJ_def, condOr]
  simp only [eqI_dec, neI_dec, ltI_def, eqS_dec, lenI_def, vErr, condO, condB, Bool.or_eq_true, Bool.and_eq_true, Bool.not_eq_true', decide_eq_true_eq, decide_eq_false_iff_not, Bool.and_eq_false_iff, Bool.or_eq_false_iff, Bool.not_eq_false']
  have hs : s = [] → (s.length : Int) = 0 := by rintro rfl; rfl
  have hk : k < 0 ∨ k = 0 ∨ k = 1 ∨ k = 2 ∨ k = 3 ∨ 3 < k := by omega
  rcases hk with hk | hk | hk | hk | hk | hk <;> grind

theorem vErr_zero {v : D_api_Value} (h : vErr v = 0) : (v.1 = 0 ∧ v.2.1 = 0 ∧ v.2.2.1 = []) ∨ (v.1 = 1 ∧ -1000000000000 ≤ v.2.1 ∧ v.2.1 ≤ 1000000000000 ∧ v.2.2.1 = []) ∨ (v.1 = 2 ∧ (v.2.1 = 0 ∨ v.2.1 = 1) ∧ v.2.2.1 = []) ∨ (v.1 = 3 ∧ v.2.1 = 0 ∧ v.2.2.1.length ≤ 24) := by
  unfold vErr at h
  grind

/-! ## Numbers and texts -/
def atoiV (s : List UInt8) : Int × Bool := match Lib.atoiAll s with
  | .ok v => (v, true)
  | .syntax => (0, false)
  | .range => (Lib.atoiSat s, false)
theorem atoiF_short {s : List UInt8} (h : s.length ≤ 24) : atoiF s = some (atoiV s) := by
  unfold atoiF atoiV
  rw [if_pos (by omega)]
  cases Lib.atoiAll s <;> rfl
theorem atoi_zero : Lib.atoiAll [48] = .ok 0 := by rfl
theorem atoi_one : Lib.atoiAll [49] = .ok 1 := by rfl
theorem itoa_zero : Lib.itoa 0 = [48] := by
  have := Lib.itoa_nonneg 0
  rw [show ((0 : Nat) : Int) = 0 from rfl] at this
  rw [this, Lib.decDigits_one (by omega)]; rfl
theorem itoa_one : Lib.itoa 1 = [49] := by
  have := Lib.itoa_nonneg 1
  rw [show ((1 : Nat) : Int) = 1 from rfl] at this
  rw [this, Lib.decDigits_one (by omega)]; rfl
theorem itoa_seven : Lib.itoa 7 = [55] := by
  have := Lib.itoa_nonneg 7
  rw [show ((7 : Nat) : Int) = 7 from rfl] at this
  rw [this, Lib.decDigits_one (by omega)]; rfl

abbrev Val' : Type := D_api_Value
abbrev zeroV : Val' := (0, (0, (([] : List UInt8), ())))
def tTrue : List UInt8 := [116, 114, 117, 101]
def tFalse : List UInt8 := [102, 97, 108, 115, 101]

def cvBool (s : List UInt8) : Val' × Bool := if s = tTrue then ((2, (1, ([], ()))), true) else if s = tFalse then ((2, (0, ([], ()))), true) else (zeroV, false)
def cvInt (s : List UInt8) : Val' × Bool := if (atoiV s).2 = true ∧ Lib.itoa (atoiV s).1 = s ∧ -1000000000000 ≤ (atoiV s).1 ∧ (atoiV s).1 ≤ 1000000000000 then ((1, ((atoiV s).1, ([], ()))), true) else (zeroV, false)
def cvN (k n : Int) : Val' × Bool := if n = 0 ∨ n = 1 then ((k, (n, ([], ()))), true) else (zeroV, false)

/-- What converting comes to. -/
def conv (v : Val') (k : Int) : Val' × Bool :=
  if vErr v ≠ 0 ∨ k < 1 ∨ 3 < k then (zeroV, false)
  else if v.1 = 0 ∨ v.1 = k then (v, true)
  else if k = 3 then (if v.1 = 1 then ((3, (0, (Lib.itoa v.2.1, ()))), true) else ((3, (0, (if v.2.1 = 1 then tTrue else tFalse, ()))), true))
  else if v.1 = 3 then (if k = 2 then cvBool v.2.2.1 else cvInt v.2.2.1)
  else cvN k v.2.1

theorem parseBool_eq (N : Nat) (s : List UInt8) : F_value_parseBool N (s, ()) = some (((cvBool s).1, ((cvBool s).2, ())), ()) := by
  simp only [F_value_parseBool, eqS_dec, cvBool]
  by_cases h : s = tTrue
  · rw [cond_pos (by simpa [tTrue] using h), if_pos h]
  · rw [cond_neg (by simpa [tTrue] using h), if_neg h]
    by_cases h2 : s = tFalse
    · rw [cond_pos (by simpa [tFalse] using h2), if_pos h2]
    · rw [cond_neg (by simpa [tFalse] using h2), if_neg h2]

theorem parseInt_eq (N : Nat) (s : List UInt8) (hs : s.length ≤ 24) : F_value_parseInt N (s, ()) = some (((cvInt s).1, ((cvInt s).2, ())), ()) := by
  simp only [F_value_parseInt, letJ_def, F_strconv_Atoi, atoiF_short hs, omap_def, Option.map_some, oSome_some, oGet_some, cond_true, F_strconv_Itoa, Bool.or_true, eqS_dec, ltI_dec, cvInt]
  by_cases h : (atoiV s).2 = true ∧ Lib.itoa (atoiV s).1 = s ∧ -1000000000000 ≤ (atoiV s).1 ∧ (atoiV s).1 ≤ 1000000000000
  · obtain ⟨h1, h2, h3, h4⟩ := h
    rw [if_pos ⟨h1, h2, h3, h4⟩, cond_neg]
    simp only [h1, h2, Bool.or_eq_false_iff, decide_eq_false_iff_not, Bool.not_eq_false', decide_true, Bool.not_true, Bool.false_eq_true, and_true, true_and]
    omega
  · rw [if_neg h, cond_pos]
    by_cases h1 : (atoiV s).2 = true
    · by_cases h2 : Lib.itoa (atoiV s).1 = s
      · have h3 : (atoiV s).1 < -1000000000000 ∨ 1000000000000 < (atoiV s).1 := by
          by_cases h3 : (atoiV s).1 < -1000000000000
          · exact .inl h3
          · by_cases h4 : 1000000000000 < (atoiV s).1
            · exact .inr h4
            · exact absurd ⟨h1, h2, by omega, by omega⟩ h
        rcases h3 with h3 | h3 <;> simp [h3]
      · simp [h2]
    · simp [h1]

theorem convert_eq (N : Nat) (v : Val') (k : Int) : F_value_Convert N (v, (k, ())) = some (((conv v k).1, ((conv v k).2, ())), ()) := by
  simp only [F_value_Convert, letJ_def, validate_eq, oSome_some, oGet_some, cond_true, neI_dec, ltI_dec, conv]
  by_cases h0 : vErr v ≠ 0 ∨ k < 1 ∨ 3 < k
  · rw [if_pos h0, cond_pos (by simp only [Bool.or_eq_true, Bool.not_eq_true', decide_eq_false_iff_not, decide_eq_true_eq]; rcases h0 with h | h | h <;> simp [h])]
  · have hv : vErr v = 0 := Classical.byContradiction fun h => h0 (.inl h)
    have hk : 1 ≤ k ∧ k ≤ 3 := by
      constructor
      · exact Classical.byContradiction fun h => h0 (.inr (.inl (by omega)))
      · exact Classical.byContradiction fun h => h0 (.inr (.inr (by omega)))
    rw [if_neg h0, cond_neg (by simp only [hv, decide_true, Bool.not_true, Bool.false_or, Bool.or_eq_false_iff, decide_eq_false_iff_not]; omega)]
    obtain ⟨c, n, s, ⟨⟩⟩ := v
    have hkk : k = 1 ∨ k = 2 ∨ k = 3 := by omega
    rcases vErr_zero hv with ⟨h1, h2, h3⟩ | ⟨h1, h2, h3, h4⟩ | ⟨h1, h2, h3⟩ | ⟨h1, h2, h3⟩ <;> simp only at h1 h2 h3 <;> subst h1 <;> rcases hkk with rfl | rfl | rfl
    all_goals simp [eqI_dec, F_strconv_Itoa, F_strconv_FormatBool, F_internal_strconv_FormatBool, oSome_some, oGet_some, cvN, parseBool_eq]
    · by_cases a : n = 0
      · simp [a]
      · by_cases b : n = 1 <;> simp [a, b]
    · rcases h2 with rfl | rfl <;> simp
    · rcases h2 with rfl | rfl <;> simp [tTrue, tFalse, oSome_some, oGet_some]
    · rw [parseInt_eq N s h3]; simp [oSome_some, oGet_some]

theorem vErr_int (n : Int) : vErr (1, (n, ([], ()))) = (if n < -1000000000000 ∨ 1000000000000 < n then 1 else 0) := by simp [vErr]
theorem vErr_bool (n : Int) (h : n = 0 ∨ n = 1) : vErr (2, (n, ([], ()))) = 0 := by rcases h with rfl | rfl <;> simp [vErr]

theorem textForm_int (N : Nat) (n : Int) (s : List UInt8) : F_stemref2_textForm N ((1, (n, (s, ()))), ()) = some ((Lib.itoa n, ()), ()) := by
  simp [F_stemref2_textForm, eqI_dec, F_strconv_Itoa, oSome_some, oGet_some]
theorem textForm_false (N : Nat) (s : List UInt8) : F_stemref2_textForm N ((2, (0, (s, ()))), ()) = some ((tFalse, ()), ()) := by
  have h1 : inB 0 (lenI ([[102, 97, 108, 115, 101], [116, 114, 117, 101]] : List (List UInt8))) = true := inB_len (i := 0) (by decide)
  have h2 : lget ([[102, 97, 108, 115, 101], [116, 114, 117, 101]] : List (List UInt8)) 0 ([] : List UInt8) = [102, 97, 108, 115, 101] := lget_nat (i := 0) rfl
  simp only [F_stemref2_textForm, eqI_dec, h1, h2]
  rfl
theorem textForm_true (N : Nat) (s : List UInt8) : F_stemref2_textForm N ((2, (1, (s, ()))), ()) = some ((tTrue, ()), ()) := by
  have h1 : inB 1 (lenI ([[102, 97, 108, 115, 101], [116, 114, 117, 101]] : List (List UInt8))) = true := inB_len (i := 1) (by decide)
  have h2 : lget ([[102, 97, 108, 115, 101], [116, 114, 117, 101]] : List (List UInt8)) 1 ([] : List UInt8) = [116, 114, 117, 101] := lget_nat (i := 1) rfl
  simp only [F_stemref2_textForm, eqI_dec, h1, h2]
  rfl

theorem atoiF_nil : atoiF [] = some (0, false) := by rfl

theorem convertValue_eq (M : Nat) (v : Val') (k : Int) : F_stemref2_ConvertValue (M + 3) (v, (k, ())) = some (((conv v k).1, ((conv v k).2, ())), ()) := by
  simp only [F_stemref2_ConvertValue, letJ_def, validateValue_eq, oSome_some, oGet_some, cond_true, neI_dec, ltI_dec, conv]
  by_cases h0 : vErr v ≠ 0 ∨ k < 1 ∨ 3 < k
  · rw [if_pos h0, cond_pos (by simp only [Bool.or_eq_true, Bool.not_eq_true', decide_eq_false_iff_not, decide_eq_true_eq]; rcases h0 with h | h | h <;> simp [h])]
  · have hv : vErr v = 0 := Classical.byContradiction fun h => h0 (.inl h)
    have hk : 1 ≤ k ∧ k ≤ 3 := by
      constructor
      · exact Classical.byContradiction fun h => h0 (.inr (.inl (by omega)))
      · exact Classical.byContradiction fun h => h0 (.inr (.inr (by omega)))
    rw [if_neg h0, cond_neg (by simp only [hv, decide_true, Bool.not_true, Bool.false_or, Bool.or_eq_false_iff, decide_eq_false_iff_not]; omega)]
    obtain ⟨c, n, s, ⟨⟩⟩ := v
    have hkk : k = 1 ∨ k = 2 ∨ k = 3 := by omega
    have l0 : ∀ (a b d : Val'), lget [a, b] 0 d = a := fun a b d => lget_nat (i := 0) rfl
    have l1 : ∀ (a b d : Val'), lget [a, b] 1 d = b := fun a b d => lget_nat (i := 1) rfl
    have l2 : ∀ (a d : Val'), lget [a] 0 d = a := fun a d => lget_nat (i := 0) rfl
    have e1 : ∀ (a : Val'), lenI [a] = 1 := fun a => by rw [lenI_def]; rfl
    have e2 : ∀ (a b : Val'), lenI [a, b] = 2 := fun a b => by rw [lenI_def]; rfl
    have i1 : iadd .i64 0 1 = 1 := by rw [iadd64 (by omega) (by omega)]; rfl
    have i2 : iadd .i64 1 1 = 2 := by rw [iadd64 (by omega) (by omega)]; rfl
    rcases vErr_zero hv with ⟨h1, h2, h3⟩ | ⟨h1, h2, h3, h4⟩ | ⟨h1, h2, h3⟩ | ⟨h1, h2, h3⟩ <;> simp only at h1 h2 h3 <;> subst h1
    · simp [eqI_dec]
    · simp only at h4
      subst h4
      rcases hkk with rfl | rfl | rfl
      · simp [eqI_dec]
      · simp only [eqI_dec, F_strconv_ParseInt, atoiF_nil, omap_def, Option.map_some, oSome_some, oGet_some, cond_true]
        simp [iterF_succ, ltI_dec, inB_dec, e1, e2, l0, l1, l2, i1, i2, cvN]
        by_cases a : n = 0
        · simp [a, oSome_some]
        · by_cases b : n = 1
          · simp [b, oSome_some]
          · have a' : ¬ (0 : Int) = n := fun h => a h.symm
            have b' : ¬ (1 : Int) = n := fun h => b h.symm
            simp [a, b, a', b', oSome_some]
      · simp [eqI_dec, textForm_int, oSome_some, oGet_some]
    · subst h3
      rcases hkk with rfl | rfl | rfl
      · simp only [eqI_dec, F_strconv_ParseInt, atoiF_nil, omap_def, Option.map_some, oSome_some, oGet_some, cond_true]
        simp [iterF_succ, ltI_dec, inB_dec, e1, e2, l0, l1, l2, i1, i2, cvN]
        rcases h2 with rfl | rfl <;> simp [oSome_some]
      · simp [eqI_dec]
      · rcases h2 with rfl | rfl <;> simp [eqI_dec, textForm_true, textForm_false, oSome_some, oGet_some]
    · subst h2
      rcases hkk with rfl | rfl | rfl
      · have hF : F_strconv_ParseInt (M + 3) (s, (10, (64, ()))) = some (((atoiV s).1, ((atoiV s).2, ())), ()) := by
          simp [F_strconv_ParseInt, atoiF_short h3, omap_def]
        simp only [hF, eqI_dec, oSome_some, oGet_some, cond_true]
        cases hb : (atoiV s).2 with
        | true =>
          simp [iterF_succ, ltI_dec, inB_dec, e1, e2, l0, l1, l2, i1, i2, textForm_int, validateValue_eq, oSome_some, oGet_some, eqS_dec, vErr_int, cvInt, hb]
          by_cases a : Lib.itoa (atoiV s).1 = s
          · by_cases b : (atoiV s).1 < -1000000000000 ∨ 1000000000000 < (atoiV s).1
            · rcases b with b | b
              · have b' : ¬ -1000000000000 ≤ (atoiV s).1 := by omega
                simp [a, b']
              · have b' : ¬ (atoiV s).1 ≤ 1000000000000 := by omega
                simp [a, b']
            · have b1 : -1000000000000 ≤ (atoiV s).1 := by omega
              have b2 : (atoiV s).1 ≤ 1000000000000 := by omega
              simp [a, b1, b2]
          · simp [a]
        | false =>
          have n0 : ¬ ([48] : List UInt8) = s := by
            rintro rfl
            simp [atoiV, atoi_zero] at hb
          have n1 : ¬ ([49] : List UInt8) = s := by
            rintro rfl
            simp [atoiV, atoi_one] at hb
          simp [iterF_succ, ltI_dec, inB_dec, e1, e2, l0, l1, l2, i1, i2, textForm_int, validateValue_eq, oSome_some, oGet_some, eqS_dec, vErr_int, cvInt, hb, itoa_zero, itoa_one, n0, n1]
      · have hF : F_strconv_ParseInt (M + 3) (s, (10, (64, ()))) = some (((atoiV s).1, ((atoiV s).2, ())), ()) := by
          simp [F_strconv_ParseInt, atoiF_short h3, omap_def]
        simp only [hF, eqI_dec, oSome_some, oGet_some, cond_true]
        simp [iterF_succ, ltI_dec, inB_dec, e1, e2, l0, l1, l2, i1, i2, textForm_true, textForm_false, validateValue_eq, oSome_some, oGet_some, eqS_dec, vErr_bool, cvBool]
        by_cases a : tFalse = s
        · subst a; simp [tTrue, tFalse]
        · by_cases b : tTrue = s
          · subst b; simp [tTrue, tFalse]
          · have a' : ¬ s = tFalse := fun h => a h.symm
            have b' : ¬ s = tTrue := fun h => b h.symm
            simp [a, b, a', b']
      · simp [eqI_dec]

/-! ## The law -/
theorem law16 (x : Val' × (Int × Unit)) : ∃ N z, F_stemlaw2_ValueConvertMatchesReference N x = some ((true, ()), z) := by
  obtain ⟨v, k, _⟩ := x
  refine ⟨3, (), ?_⟩
  have h7 : conv (1, (7, ([], ()))) 3 = ((3, (0, ([55], ()))), true) := by simp [conv, vErr, itoa_seven]
  simp only [F_stemlaw2_ValueConvertMatchesReference, letJ_def, convert_eq, convertValue_eq 0, h7, oSome_some, oGet_some, cond_true]
  simp [eqI_dec, eqS_dec, eqB_dec]

end
end Go.Proofs.YtigjpdkeijcabaaDoor
