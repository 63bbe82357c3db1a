/- Names of tables: both checks say the same. -/
import Derived.Test.YtigjpdkeijcabaaDoorInp
import Derived.Test.YtigjpdkeijcabaaDoorViLib
set_option linter.unusedVariables false
set_option linter.unusedSimpArgs false
set_option linter.unnecessarySimpa false
set_option linter.unusedSectionVars false
set_option linter.unusedSimpArgs false
set_option maxRecDepth 100000
namespace Go.Proofs.YtigjpdkeijcabaaDoor
open Go.Vi
noncomputable section

theorem byteI_nat (c : UInt8) : byteI c = (c.toNat : Int) := byteI_def c
theorem lower_iff (c : UInt8) : (ltI (byteI c) 97 || ltI 122 (byteI c)) = !lower c := by
  rw [byteI_nat, ltI_def, ltI_def, lower]
  rw [Bool.eq_iff_iff]
  simp only [Bool.or_eq_true, decide_eq_true_eq, Bool.not_eq_true', Bool.and_eq_false_iff, decide_eq_false_iff_not]
  omega
theorem digit_iff (c : UInt8) : (ltI (byteI c) 48 || ltI 57 (byteI c)) = !digit c := by
  rw [byteI_nat, ltI_def, ltI_def, digit]
  rw [Bool.eq_iff_iff]
  simp only [Bool.or_eq_true, decide_eq_true_eq, Bool.not_eq_true', Bool.and_eq_false_iff, decide_eq_false_iff_not]
  omega

/-- The letters from place i on are as they should be. -/
def okFrom (s : List UInt8) (i : Nat) : Bool := match i with
  | 0 => match s with
    | [] => true
    | c :: r => lower c && r.all fun c => lower c || digit c
  | i + 1 => (s.drop (i + 1)).all fun c => lower c || digit c

theorem okFrom_step {s : List UInt8} {i : Nat} (hi : i < s.length) : okFrom s i = ((lower s[i] || (decide (i ≠ 0) && digit s[i])) && okFrom s (i + 1)) := by
  cases i with
  | zero =>
    cases s with
    | nil => simp at hi
    | cons c r => simp [okFrom]
  | succ i =>
    simp only [okFrom]
    have : decide (i + 1 ≠ 0) = true := by simp
    rw [drop_cons' hi, List.all_cons, this, Bool.true_and]

theorem validName_eq (N : Nat) (s : List UInt8) (hl : s.length ≤ 9223372036854775807) (hN : s.length < N) : F_encoding_validName N (s, ()) = some ((nameOk s, ()), ()) := by
  simp only [F_encoding_validName, letJ_def]
  have e0 : nameOk s = (okFrom s 0 && (!(decide (s = [])) && decide (s.length ≤ 12))) := by
    cases s with
    | nil => rfl
    | cons c r => simp [nameOk, okFrom, Bool.and_comm]
  rw [e0]
  refine iterF_post (S := Int × Unit) (R := (Bool × Unit) × Unit) (fun p => s.length - p.1.toNat) (fun p => ∃ i : Nat, p.1 = (i : Int) ∧ i ≤ s.length) (fun p => (((okFrom s p.1.toNat && (!(decide (s = [])) && decide (s.length ≤ 12))), ()), ())) ?_ N _ ⟨0, rfl, Nat.zero_le _⟩ (by simp; omega)
  rintro ih ⟨_, _⟩ ⟨i, rfl, h2⟩ hih
  simp only [Int.toNat_natCast] at hih ⊢
  by_cases hi : i < s.length
  · have hg : lget s (i : Int) 0 = s[i] := lget_nat (List.getElem?_eq_getElem hi)
    rw [cond_pos (lt_len hi), cond_pos (inB_len hi), hg]
    have ei : eqI (i : Int) 0 = decide (i = 0) := by rw [eqI_dec]; exact decide_eq_decide.2 (by omega)
    have key : ∀ a b z : Bool, ((!a) && (z || !b)) = !(a || (!z && b)) := by intro a b z; cases a <;> cases b <;> cases z <;> rfl
    rw [Bool.or_assoc (eqI (i : Int) 0), lower_iff, digit_iff, ei, key, okFrom_step hi, decide_not]
    cases hb : (lower s[i] || (!decide (i = 0) && digit s[i])) with
    | true =>
      rw [cond_neg (c := !true) rfl, (show iadd .i64 (i : Int) 1 = ((i + 1 : Nat) : Int) from by rw [iadd_def, wrap64 (by omega) (by omega)]; omega), hih _ ⟨i + 1, rfl, by omega⟩ (by simp only [Int.toNat_natCast]; omega)]
      simp only [Int.toNat_natCast, Bool.true_and]
    | false =>
      rw [cond_pos (c := !false) rfl]
      rfl
  · rw [cond_neg (nlt_len hi)]
    have hi' : i = s.length := by omega
    have e1 : okFrom s i = true := by
      cases i with
      | zero =>
        have : s = [] := List.eq_nil_of_length_eq_zero (by omega)
        subst this; rfl
      | succ i =>
        simp only [okFrom]
        rw [List.drop_of_length_le (by omega)]; rfl
    have e2 : leI (lenI s) 12 = decide (s.length ≤ 12) := by rw [leI_def, lenI_def]; exact decide_eq_decide.2 (by omega)
    rw [e1, eqS_dec, e2, Bool.true_and]

/-! ## The reference's way: nothing is left after the trimming -/
def inSet (av : List Bool) (c : UInt8) : Bool := lget av (byteI c) false
theorem contains_eq (N : Nat) (av : List Bool) (c : UInt8) : F_asciiSet_contains N (av, (byteI c, ())) = some ((inSet av c, ()), (av, ())) := by
  simp only [F_asciiSet_contains]
  rw [cond_pos (by rw [byteI_nat, inB_def]; have := c.toNat_lt; simp; omega)]
  rfl

theorem trimLeft_eq (N : Nat) (av : List Bool) (s : List UInt8) (hN : s.length < N) : F_strings_trimLeftASCII N (s, (av, ())) = some ((s.dropWhile (inSet av), ()), (av, ())) := by
  simp only [F_strings_trimLeftASCII]
  refine iterF_post (S := (List UInt8) × ((List Bool) × Unit)) (R := ((List UInt8) × Unit) × ((List Bool) × Unit)) (fun p => p.1.length) (fun p => p.2.1 = av) (fun p => ((p.1.dropWhile (inSet av), ()), (av, ()))) ?_ N _ rfl hN
  rintro ih ⟨s, av', _⟩ h2 hih
  simp only at h2 hih ⊢
  subst h2
  cases s with
  | nil => rw [cond_neg (by rw [ltI_def, lenI_def]; rfl)]; rfl
  | cons c r =>
    have hg : lget (c :: r) 0 0 = c := lget_nat (i := 0) rfl
    rw [cond_pos (by rw [ltI_def, lenI_def]; simp)]
    simp only [hg, contains_eq, oSome_some, oGet_some, Bool.and_true]
    rw [cond_pos (show inB 0 (lenI (c :: r)) = true from inB_len (i := 0) (by simp))]
    by_cases h : inSet av' c = true
    · rw [cond_neg (by simp [h]), cond_pos (show inS 1 (lenI (c :: r)) (lenI (c :: r)) = true from inS_from (i := 1) (by simp)), show lslice (c :: r) 1 (lenI (c :: r)) = r from slice_from _ 1, hih (r, (av', ())) rfl (by simp)]
      simp [List.dropWhile_cons, h]
    · rw [cond_pos (by simpa using h)]
      simp [List.dropWhile_cons, h]

def trimR (p : UInt8 → Bool) (s : List UInt8) : List UInt8 := (s.reverse.dropWhile p).reverse
theorem trimR_snoc (p : UInt8 → Bool) (s : List UInt8) (c : UInt8) : trimR p (s ++ [c]) = if p c = true then trimR p s else s ++ [c] := by
  simp only [trimR, List.reverse_append, List.reverse_cons, List.reverse_nil, List.nil_append, List.cons_append, List.dropWhile_cons]
  split <;> simp
theorem trimRight_eq (N : Nat) (av : List Bool) (s : List UInt8) (hN : s.length < N) (hl : s.length < 4000000000000000000) : F_strings_trimRightASCII N (s, (av, ())) = some ((trimR (inSet av) s, ()), (av, ())) := by
  simp only [F_strings_trimRightASCII]
  refine iterF_post (S := (List UInt8) × ((List Bool) × Unit)) (R := ((List UInt8) × Unit) × ((List Bool) × Unit)) (fun p => p.1.length) (fun p => p.2.1 = av ∧ p.1.length < 4000000000000000000) (fun p => ((trimR (inSet av) p.1, ()), (av, ()))) ?_ N _ ⟨rfl, hl⟩ hN
  rintro ih ⟨s, av', _⟩ ⟨h2, h3⟩ hih
  simp only at h2 h3 hih ⊢
  subst h2
  rcases List.eq_nil_or_concat s with rfl | ⟨r, c, rfl⟩
  · rw [cond_neg (by rw [ltI_def, lenI_def]; rfl)]; rfl
  · rw [List.concat_eq_append] at h3 hih ⊢
    simp only [List.length_append, List.length_cons, List.length_nil] at h3
    have el : isub .i64 (lenI (r ++ [c])) 1 = (r.length : Int) := by
      have e : ((r ++ [c]).length : Int) = (r.length : Int) + 1 := by simp
      rw [lenI_def, e, isub64 (by omega) (by omega)]; omega
    have hg : lget (r ++ [c]) (r.length : Int) 0 = c := lget_nat (by simp)
    rw [cond_pos (by rw [ltI_def, lenI_def]; simp)]
    simp only [el, hg, contains_eq, oSome_some, oGet_some, Bool.and_true]
    rw [cond_pos (inB_len (by simp)), trimR_snoc]
    by_cases h : inSet av' c = true
    · rw [cond_neg (by simp [h]), cond_pos (by rw [inS_def, lenI_def]; simp; omega), slice_to, if_pos h]
      have e : (r ++ [c]).take r.length = r := by simp
      rw [e, hih (r, (av', ())) ⟨rfl, by simp only; omega⟩ (by simp)]
    · rw [cond_pos (by simpa using h), if_neg h]

theorem dropWhile_nil {p : UInt8 → Bool} : (s : List UInt8) → (s.dropWhile p = [] ↔ s.all p = true)
  | [] => by simp
  | c :: r => by
    rw [List.dropWhile_cons, List.all_cons]
    by_cases h : p c = true
    · rw [if_pos h, dropWhile_nil r, h]; simp
    · rw [if_neg h]; simp [h]
theorem all_dropWhile {p : UInt8 → Bool} : (s : List UInt8) → (s.dropWhile p).all p = s.all p
  | [] => rfl
  | c :: r => by
    rw [List.dropWhile_cons]
    by_cases h : p c = true
    · rw [if_pos h, all_dropWhile r]; simp [h]
    · rw [if_neg h]
theorem trim_nil {p : UInt8 → Bool} (s : List UInt8) : ((trimR p s).dropWhile p = []) ↔ s.all p = true := by
  rw [dropWhile_nil, trimR, List.all_reverse, all_dropWhile, List.all_reverse]

def letters : List UInt8 := [97, 98, 99, 100, 101, 102, 103, 104, 105, 106, 107, 108, 109, 110, 111, 112, 113, 114, 115, 116, 117, 118, 119, 120, 121, 122, 48, 49, 50, 51, 52, 53, 54, 55, 56, 57]
def setN (i : Nat) : List Bool := (letters.take i).foldl (fun av c => av.set c.toNat true) (List.replicate 256 false)
theorem setN_is : ∀ m : Fin 256, (setN 36).getD m.val false = ((decide (97 ≤ m.val) && decide (m.val ≤ 122)) || (decide (48 ≤ m.val) && decide (m.val ≤ 57))) := by decide +kernel
theorem letters_small : ∀ c ∈ letters, c.toNat < 128 := by decide +kernel
theorem inSet_eq (c : UInt8) : inSet (setN 36) c = (lower c || digit c) := by
  rw [inSet, byteI_nat, lget_def, Int.toNat_natCast]
  exact setN_is ⟨c.toNat, c.toNat_lt⟩
theorem makeSet_eq (N : Nat) (hN : 40 < N) : F_strings_makeASCIISet N (letters, ()) = some ((setN 36, (true, ())), ()) := by
  simp only [F_strings_makeASCIISet]
  refine iterF_seq (S := (List Bool) × (Int × Unit)) (fun i => (setN i, ((i : Int), ()))) 36 _ rfl ?_ ?_ (by omega)
  · intro i hi ih
    have hl : i < letters.length := hi
    have hg : lget letters (i : Int) 0 = letters[i] := lget_nat (List.getElem?_eq_getElem hl)
    have hs := letters_small letters[i] (List.getElem_mem hl)
    rw [cond_pos (lt_len hl), cond_pos (inB_len hl), hg, cond_neg (by rw [leI_def, byteI_nat]; simp; omega), cond_pos (by rw [byteI_nat, inB_def]; simp; omega), iadd_nat (by omega)]
    have e : setN (i + 1) = (setN i).set letters[i].toNat true := by
      rw [setN, take_snoc hl, List.foldl_append]; rfl
    simp only [e, lset_def, byteI_nat, Int.toNat_natCast]
  · intro ih
    rw [cond_neg (nlt_len (show ¬ 36 < letters.length by decide))]

theorem trim_eq (N : Nat) (s : List UInt8) (hs : s ≠ []) (hl : s.length < 4000000000000000000) (hN : s.length + 40 < N) : F_strings_Trim N (s, (letters, ())) = some (((trimR (inSet (setN 36)) s).dropWhile (inSet (setN 36)), ()), ()) := by
  have hrl : (trimR (inSet (setN 36)) s).length ≤ s.length := by
    have : ∀ (p : UInt8 → Bool) (l : List UInt8), (l.dropWhile p).length ≤ l.length := fun p l => (List.dropWhile_sublist p).length_le
    rw [trimR, List.length_reverse]
    exact Nat.le_trans (this _ _) (by simp)
  simp only [F_strings_Trim, letJ_def, makeSet_eq N (by omega), oSome_some, oGet_some, cond_true, trimRight_eq N _ s (by omega) hl, trimLeft_eq N _ (trimR (inSet (setN 36)) s) (by omega), Bool.and_self]
  rw [cond_neg (by rw [eqS_dec, eqS_dec]; simp [hs, letters]), cond_pos (by rw [show eqI (lenI letters) 1 = false from by rw [eqI_dec, lenI_def]; rfl]; rfl), cond_neg (by rw [show eqI (lenI letters) 1 = false from by rw [eqI_dec, lenI_def]; rfl]; rfl)]

theorem validTableName_eq (N : Nat) (s : List UInt8) (hN : 100 < N) : F_stemref4_ValidTableName N (s, ()) = some ((nameOk s, ()), ()) := by
  simp only [F_stemref4_ValidTableName, letJ_def]
  cases s with
  | nil =>
    rw [cond_pos (by simp [eqS_dec]), cond_pos (by simp [eqS_dec])]
    rfl
  | cons c r =>
    have hg : lget (c :: r) 0 0 = c := lget_nat (i := 0) rfl
    rw [cond_pos (by rw [show inB 0 (lenI (c :: r)) = true from inB_len (i := 0) (by simp)]; simp), hg]
    have e1 : eqS (c :: r) [] = false := by rw [eqS_dec]; simp
    have e2 : ltI 12 (lenI (c :: r)) = !decide ((c :: r).length ≤ 12) := by
      rw [ltI_def, lenI_def]
      by_cases h : (c :: r).length ≤ 12
      · simp only [h, decide_true, Bool.not_true, decide_eq_false_iff_not]; omega
      · simp only [h, decide_false, Bool.not_false, decide_eq_true_eq]; omega
    have e3 : ltI (byteI c) 97 = !decide (97 ≤ c.toNat) := by
      rw [ltI_def, byteI_nat]
      by_cases h : 97 ≤ c.toNat
      · simp only [h, decide_true, Bool.not_true, decide_eq_false_iff_not]; omega
      · simp only [h, decide_false, Bool.not_false, decide_eq_true_eq]; omega
    rw [e1, e2, e3]
    by_cases h : (c :: r).length ≤ 12
    · by_cases h2 : 97 ≤ c.toNat
      · rw [cond_neg (by simp only [h, h2]; rfl)]
        have e4 := trim_eq N (c :: r) (by simp) (by omega) (by omega)
        unfold letters at e4
        simp only [e4, oSome_some, oGet_some, cond_true, eqS_dec, trim_nil]
        congr 3
        simp only [nameOk, h, decide_true, Bool.true_and]
        rw [Bool.eq_iff_iff]
        simp only [decide_eq_true_eq, List.all_cons, Bool.and_eq_true]
        have e5 : inSet (setN 36) = fun c => lower c || digit c := funext inSet_eq
        rw [e5]
        constructor
        · rintro ⟨k1, k2⟩
          refine ⟨?_, k2⟩
          by_cases hlo : lower c = true
          · exact hlo
          · simp only [hlo, Bool.false_or] at k1
            simp [digit] at k1
            omega
        · rintro ⟨k1, k2⟩
          exact ⟨by simp [k1], k2⟩
      · rw [cond_pos (by simp [h2])]
        have : nameOk (c :: r) = false := by simp [nameOk, lower, h2]
        rw [this]
    · rw [cond_pos (by simp only [h]; rfl)]
      have : nameOk (c :: r) = false := by simp only [nameOk, h]; rfl
      rw [this]

end
end Go.Proofs.YtigjpdkeijcabaaDoor
