/- Value: the plain law. -/
import Derived.Test.YtjbkbaknjfinnaaRLE
set_option linter.unusedSimpArgs false
namespace Go.Proofs.Ytjbkbaknjfinnaa
open Go.Vi
noncomputable section

theorem cb_cases (a b : List UInt8) : Lib.compareBytes a b = -1 ∨ Lib.compareBytes a b = 0 ∨ Lib.compareBytes a b = 1 := by
  induction a generalizing b with
  | nil => cases b <;> simp [Lib.compareBytes]
  | cons x a ih => cases b with
    | nil => simp [Lib.compareBytes]
    | cons y b =>
      simp only [Lib.compareBytes]
      split
      · simp
      · split
        · simp
        · exact ih b
theorem cb_swap (a b : List UInt8) : Lib.compareBytes b a = - Lib.compareBytes a b := by
  induction a generalizing b with
  | nil => cases b <;> simp [Lib.compareBytes]
  | cons x a ih => cases b with
    | nil => simp [Lib.compareBytes]
    | cons y b =>
      simp only [Lib.compareBytes]
      by_cases h1 : x < y
      · have h2 : ¬ y < x := fun h => by have := UInt8.lt_iff_toNat_lt.1 h; have := UInt8.lt_iff_toNat_lt.1 h1; omega
        simp [h1, h2]
      · by_cases h2 : y < x
        · simp [h1, h2]
        · simp [h1, h2, ih b]
theorem cb_zero (a b : List UInt8) : Lib.compareBytes a b = 0 ↔ a = b := by
  induction a generalizing b with
  | nil => cases b <;> simp [Lib.compareBytes]
  | cons x a ih => cases b with
    | nil => simp [Lib.compareBytes]
    | cons y b =>
      simp only [Lib.compareBytes]
      by_cases h1 : x < y
      · have : x ≠ y := fun e => by subst e; have := UInt8.lt_iff_toNat_lt.1 h1; omega
        simp [h1, this]
      · by_cases h2 : y < x
        · have : x ≠ y := fun e => by subst e; have := UInt8.lt_iff_toNat_lt.1 h2; omega
          simp [h1, h2, this]
        · have : x = y := UInt8.toNat_inj.1 (by
            have h1 : ¬ x.toNat < y.toNat := fun h => h1 (UInt8.lt_iff_toNat_lt.2 h)
            have h2 : ¬ y.toNat < x.toNat := fun h => h2 (UInt8.lt_iff_toNat_lt.2 h)
            omega)
          simp [h1, h2, ih b, this]
theorem bless_cb (a b : List UInt8) : bless a b = decide (Lib.compareBytes a b < 0) := by
  rw [bless_def]
  induction a generalizing b with
  | nil => cases b <;> simp [Lib.compareBytes, Op.bytesLess]
  | cons x a ih => cases b with
    | nil => simp [Lib.compareBytes, Op.bytesLess]
    | cons y b =>
      simp only [Lib.compareBytes, Op.bytesLess]
      by_cases h1 : x < y
      · simp [h1]
      · by_cases h2 : y < x
        · have : x ≠ y := fun e => by subst e; have := UInt8.lt_iff_toNat_lt.1 h2; omega
          simp [h1, h2, this]
        · have : x = y := UInt8.toNat_inj.1 (by
            have h1 : ¬ x.toNat < y.toNat := fun h => h1 (UInt8.lt_iff_toNat_lt.2 h)
            have h2 : ¬ y.toNat < x.toNat := fun h => h2 (UInt8.lt_iff_toNat_lt.2 h)
            omega)
          simp [h1, h2, ih b, this]

def ic (x y : Int) : Int := if x < y then -1 else if y < x then 1 else 0
def vc (a b : D_api_Value) : Int := if ic a.1 b.1 ≠ 0 then ic a.1 b.1 else if ic a.2.1 b.2.1 ≠ 0 then ic a.2.1 b.2.1 else Lib.compareBytes a.2.2.1 b.2.2.1

theorem ic_cases (x y : Int) : (x < y ∧ ic x y = -1) ∨ (x = y ∧ ic x y = 0) ∨ (y < x ∧ ic x y = 1) := by
  unfold ic
  split
  · simp [*]
  · split
    · simp [*]
    · have : x = y := by omega
      simp [this]

theorem vc_cases (a b : D_api_Value) : vc a b = -1 ∨ vc a b = 0 ∨ vc a b = 1 := by
  unfold vc
  have h1 := ic_cases a.1 b.1
  have h2 := ic_cases a.2.1 b.2.1
  have h3 := cb_cases a.2.2.1 b.2.2.1
  split
  · omega
  · split
    · omega
    · exact h3
theorem vc_swap (a b : D_api_Value) : vc b a = - vc a b := by
  have s : ∀ x y, ic y x = - ic x y := fun x y => by
    have h1 := ic_cases x y
    have h2 := ic_cases y x
    omega
  unfold vc
  rw [s a.1 b.1, s a.2.1 b.2.1, cb_swap]
  split <;> split <;> first | omega | (split <;> split <;> omega)
theorem vc_zero (a b : D_api_Value) : vc a b = 0 ↔ a = b := by
  obtain ⟨k, n, s, _⟩ := a
  obtain ⟨k', n', s', _⟩ := b
  have h1 := ic_cases k k'
  have h2 := ic_cases n n'
  have h3 := cb_zero s s'
  simp only [vc, Prod.mk.injEq, and_true]
  split
  · rename_i h
    constructor
    · intro h0; exact absurd h0 h
    · rintro ⟨rfl, _⟩; omega
  · split
    · rename_i h
      constructor
      · intro h0; exact absurd h0 h
      · rintro ⟨_, rfl, _⟩; omega
    · rw [h3]
      constructor
      · intro h; exact ⟨by omega, by omega, h⟩
      · exact fun h => h.2.2

theorem compareInts_eq (N : Nat) (x y : Int) : F_value_compareInts N (x, (y, ())) = some ((ic x y, ()), ()) := by
  simp only [F_value_compareInts, letJ_def, ltI_def, condO, decide_eq_true_eq, ic]
  split
  · rfl
  · split <;> rfl
theorem strings_eq (N : Nat) (a b : List UInt8) : F_strings_Compare N (a, (b, ())) = some ((Lib.compareBytes a b, ()), ()) := by
  simp only [F_strings_Compare, F_internal_bytealg_CompareString, letJ_def, oSome_some, oGet_some, cond_true]
theorem compare_eq (N : Nat) (a b : D_api_Value) : F_value_Compare N (a, (b, ())) = some ((vc a b, ()), ()) := by
  simp only [F_value_Compare, letJ_def, compareInts_eq, strings_eq, oSome_some, oGet_some, cond_true, neI_dec, condO, Bool.not_eq_true', decide_eq_false_iff_not, vc]
  split
  · rfl
  · split <;> rfl
theorem less_eq (N : Nat) (a b : D_api_Value) : F_stemref2_LessValue N (a, (b, ())) = some ((decide (vc a b < 0), ()), ()) := by
  simp only [F_stemref2_LessValue, letJ_def, neI_dec, ltI_def, bless_cb]
  have h1 := ic_cases a.1 b.1
  have h2 := ic_cases a.2.1 b.2.1
  by_cases e1 : a.1 = b.1
  · have f1 : ic a.1 b.1 = 0 := by omega
    by_cases e2 : a.2.1 = b.2.1
    · have f2 : ic a.2.1 b.2.1 = 0 := by omega
      have : vc a b = Lib.compareBytes a.2.2.1 b.2.2.1 := by simp [vc, f1, f2]
      simp [e1, e2, this]
    · have f2 : ic a.2.1 b.2.1 ≠ 0 := by omega
      have h3 : vc a b = ic a.2.1 b.2.1 := by simp [vc, f1, f2]
      have h4 : a.2.1 < b.2.1 ↔ vc a b < 0 := by omega
      simp [e1, e2, h4]
  · have f1 : ic a.1 b.1 ≠ 0 := by omega
    have h3 : vc a b = ic a.1 b.1 := by simp [vc, f1]
    have h4 : a.1 < b.1 ↔ vc a b < 0 := by omega
    simp [e1, h4]
theorem valueLess_eq (N : Nat) (a b : D_api_Value) : F_value_Less N (a, (b, ())) = some ((decide (vc a b < 0), ()), ()) := by
  simp only [F_value_Less, letJ_def, compare_eq, oSome_some, oGet_some, cond_true, ltI_def]

def opOk (op : List UInt8) : Bool := decide (op = [61]) || decide (op = [60]) || decide (op = [60, 61])
theorem validOp_eq (N : Nat) (op : List UInt8) : F_stemref2_ValidOp N (op, ()) = some ((opOk op, ()), ()) := by
  simp only [F_stemref2_ValidOp, letJ_def, eqS_dec, opOk]

def sat (a : D_api_Value) (op : List UInt8) (b : D_api_Value) : Bool :=
  if a.1 = 0 ∨ b.1 = 0 then true else if op = [61] then decide (vc a b = 0) else if op = [60] then decide (vc a b < 0) else decide (vc a b ≤ 0)

theorem satisfies_eq (N : Nat) (a b : D_api_Value) (op : List UInt8) : F_value_Satisfies N (a, (op, (b, ()))) = some (if opOk op = true then (sat a op b, (0, ())) else (false, (3, ())), ()) := by
  simp only [F_value_Satisfies, letJ_def, compare_eq, oSome_some, oGet_some, cond_true, eqS_dec, eqI_dec, ltI_def, opOk, sat]
  have h := vc_cases a b
  by_cases h1 : op = [61]
  · subst h1
    by_cases h4 : a.1 = 0 <;> by_cases h5 : b.1 = 0 <;> simp [h4, h5]
  · by_cases h2 : op = [60]
    · subst h2
      by_cases h4 : a.1 = 0 <;> by_cases h5 : b.1 = 0 <;> simp [h4, h5]
    · by_cases h3 : op = [60, 61]
      · subst h3
        by_cases h4 : a.1 = 0 <;> by_cases h5 : b.1 = 0 <;> simp [h4, h5]
        rcases h with h | h | h <;> simp [h]
      · simp [h1, h2, h3]

theorem predicate_eq (N : Nat) (a b : D_api_Value) (op : List UInt8) (hop : opOk op = true) : F_stemref2_Predicate N (a, (op, (b, ()))) = some ((sat a op b, ()), ()) := by
  simp only [F_stemref2_Predicate, letJ_def, less_eq, oSome_some, oGet_some, cond_true, eqV]
  simp only [eqS_dec, eqI_dec, sat]
  have h := vc_cases a b
  have hs := vc_swap a b
  have hz := vc_zero a b
  by_cases h4 : a.1 = 0 ∨ b.1 = 0
  · rw [if_pos h4, cond_pos (by simpa using h4)]
  · rw [if_neg h4, cond_neg (by simpa using h4)]
    by_cases h1 : op = [61]
    · subst h1
      simp only [decide_true, cond_true, if_true, hz]
    · by_cases h2 : op = [60]
      · subst h2
        simp
      · simp only [h1, h2, decide_false, cond_false, if_false, hs]
        congr 3
        rcases h with h | h | h <;> simp [h]

theorem zero_eq (N : Nat) (k : Int) (nl : Bool) : F_value_Zero N (k, (nl, ())) = F_stemref2_DefaultValue N (k, (nl, ())) := by
  simp only [F_value_Zero, F_stemref2_DefaultValue, letJ_def, ltI_def, leI_def]
  cases nl with
  | true => simp
  | false =>
    by_cases h1 : k < 1
    · have : ¬ (1 ≤ k) := by omega
      simp [h1, this]
    · by_cases h2 : 3 < k
      · have : ¬ (k ≤ 3) := by omega
        simp [h2, this]
      · have h3 : 1 ≤ k := by omega
        have h4 : k ≤ 3 := by omega
        simp [h1, h2, h3, h4]
theorem default_some (N : Nat) (k : Int) (nl : Bool) : ∃ v, F_stemref2_DefaultValue N (k, (nl, ())) = some ((v, ()), ()) := by
  simp only [F_stemref2_DefaultValue, letJ_def]
  cases ((!nl && leI 1 k) && leI k 3) <;> exact ⟨_, rfl⟩

theorem valueLaw (N : Nat) (a b : D_api_Value) (op : List UInt8) (k : Int) (nl : Bool) : F_stemlaw2_ValueMatchesReference N (a, (b, (op, (k, (nl, ()))))) = some ((true, ()), ()) := by
  obtain ⟨d, hd⟩ := default_some N k nl
  have hv := vc_cases a b
  have hs := vc_swap a b
  simp only [F_stemlaw2_ValueMatchesReference, letJ_def, less_eq, satisfies_eq, validOp_eq, validate_eq, validateValue_eq, compare_eq, valueLess_eq, zero_eq, hd, oSome_some, oGet_some, cond_true, Bool.or_true, Bool.and_true, Bool.true_and]
  by_cases hop : opOk op = true
  · simp only [hop, predicate_eq N a b op hop, oSome_some, oGet_some, if_true, eqI_dec, neI_dec, eqB_dec, ltI_def, eqS_dec, hs]
    rcases hv with h | h | h <;> simp [h]
  · have hop : opOk op = false := by simpa using hop
    simp only [hop, Bool.false_eq_true, if_false, eqI_dec, neI_dec, eqB_dec, ltI_def, eqS_dec, hs]
    rcases hv with h | h | h <;> simp [h]

theorem valueUpto (x : (D_api_Value × (D_api_Value × ((List UInt8) × (Int × (Bool × Unit)))))) : ∃ N z, F_stemlaw2_ValueMatchesReference N x = some ((true, ()), z) := ⟨0, (), valueLaw 0 x.1 x.2.1 x.2.2.1 x.2.2.2.1 x.2.2.2.2.1⟩

end
end Go.Proofs.Ytjbkbaknjfinnaa
