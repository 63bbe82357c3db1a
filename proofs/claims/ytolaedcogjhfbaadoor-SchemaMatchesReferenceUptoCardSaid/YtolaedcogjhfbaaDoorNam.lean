/- Names: both checks say the same. -/
import Derived.Test.YtolaedcogjhfbaaDoorFns
import Derived.Test.YtolaedcogjhfbaaDoorViLib
set_option linter.unusedVariables false
set_option linter.unusedSimpArgs false
set_option linter.unnecessarySimpa false
set_option linter.unusedSectionVars false
set_option linter.unusedSimpArgs false
set_option maxRecDepth 100000
namespace Go.Proofs.YtolaedcogjhfbaaDoor
open Go.Vi
noncomputable section

def lower (c : UInt8) : Bool := decide (97 ≤ c.toNat) && decide (c.toNat ≤ 122)
def digit (c : UInt8) : Bool := decide (48 ≤ c.toNat) && decide (c.toNat ≤ 57)
def nameOk (s : List UInt8) : Bool := match s with
  | [] => false
  | c :: r => decide ((c :: r).length ≤ 12) && (lower c && r.all fun c => lower c || digit c)

theorem byteI_nat (c : UInt8) : byteI c = (c.toNat : Int) := byteI_def c
theorem lower_iff (c : UInt8) : (ltI (byteI c) 97 || ltI 122 (byteI c)) = !lower c := by
  rw [byteI_nat, ltI_def, ltI_def, lower]
  rw [Bool.eq_iff_iff]
  simp only [Bool.or_eq_true, decide_eq_true_eq, Bool.not_eq_true', Bool.and_eq_false_iff, decide_eq_false_iff_not]
  omega
theorem digit_iff (c : UInt8) : (ltI (byteI c) 48 || ltI 57 (byteI c)) = !digit c := by
  rw [byteI_nat, ltI_def, ltI_def, digit]
  rw [Bool.eq_iff_iff]
  simp only [Bool.or_eq_true, decide_eq_true_eq, Bool.not_eq_true', Bool.and_eq_false_iff, decide_eq_false_iff_not]
  omega

/-! ## The reference's way: nothing is left after the trimming -/
def inSet (av : List Bool) (c : UInt8) : Bool := lget av (byteI c) false
theorem contains_eq (N : Nat) (av : List Bool) (c : UInt8) : F_asciiSet_contains N (av, (byteI c, ())) = some ((inSet av c, ()), (av, ())) := by
  simp only [F_asciiSet_contains]
  rw [cond_pos (by rw [byteI_nat, inB_def]; have := c.toNat_lt; simp; omega)]
  rfl

theorem trimLeft_eq (N : Nat) (av : List Bool) (s : List UInt8) (hN : s.length < N) : F_strings_trimLeftASCII N (s, (av, ())) = some ((s.dropWhile (inSet av), ()), (av, ())) := by
  simp only [F_strings_trimLeftASCII]
  refine iterF_post (S := (List UInt8) × ((List Bool) × Unit)) (R := ((List UInt8) × Unit) × ((List Bool) × Unit)) (fun p => p.1.length) (fun p => p.2.1 = av) (fun p => ((p.1.dropWhile (inSet av), ()), (av, ()))) ?_ N _ rfl hN
  rintro ih ⟨s, av', _⟩ h2 hih
  simp only at h2 hih ⊢
  subst h2
  cases s with
  | nil => rw [cond_neg (by rw [ltI_def, lenI_def]; rfl)]; rfl
  | cons c r =>
    have hg : lget (c :: r) 0 0 = c := lget_nat (i := 0) rfl
    rw [cond_pos (by rw [ltI_def, lenI_def]; simp)]
    simp only [hg, contains_eq, oSome_some, oGet_some, Bool.and_true]
    rw [cond_pos (show inB 0 (lenI (c :: r)) = true from inB_len (i := 0) (by simp))]
    by_cases h : inSet av' c = true
    · rw [cond_neg (by simp [h]), cond_pos (show inS 1 (lenI (c :: r)) (lenI (c :: r)) = true from inS_from (i := 1) (by simp)), show lslice (c :: r) 1 (lenI (c :: r)) = r from slice_from _ 1, hih (r, (av', ())) rfl (by simp)]
      simp [List.dropWhile_cons, h]
    · rw [cond_pos (by simpa using h)]
      simp [List.dropWhile_cons, h]

def trimR (p : UInt8 → Bool) (s : List UInt8) : List UInt8 := (s.reverse.dropWhile p).reverse
theorem trimR_snoc (p : UInt8 → Bool) (s : List UInt8) (c : UInt8) : trimR p (s ++ [c]) = if p c = true then trimR p s else s ++ [c] := by
  simp only [trimR, List.reverse_append, List.reverse_cons, List.reverse_nil, List.nil_append, List.cons_append, List.dropWhile_cons]
  split <;> simp
theorem trimRight_eq (N : Nat) (av : List Bool) (s : List UInt8) (hN : s.length < N) (hl : s.length < 4000000000000000000) : F_strings_trimRightASCII N (s, (av, ())) = some ((trimR (inSet av) s, ()), (av, ())) := by
  simp only [F_strings_trimRightASCII]
  refine iterF_post (S := (List UInt8) × ((List Bool) × Unit)) (R := ((List UInt8) × Unit) × ((List Bool) × Unit)) (fun p => p.1.length) (fun p => p.2.1 = av ∧ p.1.length < 4000000000000000000) (fun p => ((trimR (inSet av) p.1, ()), (av, ()))) ?_ N _ ⟨rfl, hl⟩ hN
  rintro ih ⟨s, av', _⟩ ⟨h2, h3⟩ hih
  simp only at h2 h3 hih ⊢
  subst h2
  rcases List.eq_nil_or_concat s with rfl | ⟨r, c, rfl⟩
  · rw [cond_neg (by rw [ltI_def, lenI_def]; rfl)]; rfl
  · rw [List.concat_eq_append] at h3 hih ⊢
    simp only [List.length_append, List.length_cons, List.length_nil] at h3
    have el : isub .i64 (lenI (r ++ [c])) 1 = (r.length : Int) := by
      have e : ((r ++ [c]).length : Int) = (r.length : Int) + 1 := by simp
      rw [lenI_def, e, isub64 (by omega) (by omega)]; omega
    have hg : lget (r ++ [c]) (r.length : Int) 0 = c := lget_nat (by simp)
    rw [cond_pos (by rw [ltI_def, lenI_def]; simp)]
    simp only [el, hg, contains_eq, oSome_some, oGet_some, Bool.and_true]
    rw [cond_pos (inB_len (by simp)), trimR_snoc]
    by_cases h : inSet av' c = true
    · rw [cond_neg (by simp [h]), cond_pos (by rw [inS_def, lenI_def]; simp; omega), slice_to, if_pos h]
      have e : (r ++ [c]).take r.length = r := by simp
      rw [e, hih (r, (av', ())) ⟨rfl, by simp only; omega⟩ (by simp)]
    · rw [cond_pos (by simpa using h), if_neg h]

theorem dropWhile_nil {p : UInt8 → Bool} : (s : List UInt8) → (s.dropWhile p = [] ↔ s.all p = true)
  | [] => by simp
  | c :: r => by
    rw [List.dropWhile_cons, List.all_cons]
    by_cases h : p c = true
    · rw [if_pos h, dropWhile_nil r, h]; simp
    · rw [if_neg h]; simp [h]
theorem all_dropWhile {p : UInt8 → Bool} : (s : List UInt8) → (s.dropWhile p).all p = s.all p
  | [] => rfl
  | c :: r => by
    rw [List.dropWhile_cons]
    by_cases h : p c = true
    · rw [if_pos h, all_dropWhile r]; simp [h]
    · rw [if_neg h]
theorem trim_nil {p : UInt8 → Bool} (s : List UInt8) : ((trimR p s).dropWhile p = []) ↔ s.all p = true := by
  rw [dropWhile_nil, trimR, List.all_reverse, all_dropWhile, List.all_reverse]

def letters : List UInt8 := [97, 98, 99, 100, 101, 102, 103, 104, 105, 106, 107, 108, 109, 110, 111, 112, 113, 114, 115, 116, 117, 118, 119, 120, 121, 122, 48, 49, 50, 51, 52, 53, 54, 55, 56, 57]
def setN (i : Nat) : List Bool := (letters.take i).foldl (fun av c => av.set c.toNat true) (List.replicate 256 false)
theorem setN_is : ∀ m : Fin 256, (setN 36).getD m.val false = ((decide (97 ≤ m.val) && decide (m.val ≤ 122)) || (decide (48 ≤ m.val) && decide (m.val ≤ 57))) := by decide +kernel
theorem letters_small : ∀ c ∈ letters, c.toNat < 128 := by decide +kernel
theorem inSet_eq (c : UInt8) : inSet (setN 36) c = (lower c || digit c) := by
  rw [inSet, byteI_nat, lget_def, Int.toNat_natCast]
  exact setN_is ⟨c.toNat, c.toNat_lt⟩
theorem makeSet_eq (N : Nat) (hN : 40 < N) : F_strings_makeASCIISet N (letters, ()) = some ((setN 36, (true, ())), ()) := by
  simp only [F_strings_makeASCIISet]
  refine iterF_seq (S := (List Bool) × (Int × Unit)) (fun i => (setN i, ((i : Int), ()))) 36 _ rfl ?_ ?_ (by omega)
  · intro i hi ih
    have hl : i < letters.length := hi
    have hg : lget letters (i : Int) 0 = letters[i] := lget_nat (List.getElem?_eq_getElem hl)
    have hs := letters_small letters[i] (List.getElem_mem hl)
    rw [cond_pos (lt_len hl), cond_pos (inB_len hl), hg, cond_neg (by rw [leI_def, byteI_nat]; simp; omega), cond_pos (by rw [byteI_nat, inB_def]; simp; omega), iadd_nat (by omega)]
    have e : setN (i + 1) = (setN i).set letters[i].toNat true := by
      rw [setN, take_snoc hl, List.foldl_append]; rfl
    simp only [e, lset_def, byteI_nat, Int.toNat_natCast]
  · intro ih
    rw [cond_neg (nlt_len (show ¬ 36 < letters.length by decide))]

theorem trim_eq (N : Nat) (s : List UInt8) (hs : s ≠ []) (hl : s.length < 4000000000000000000) (hN : s.length + 40 < N) : F_strings_Trim N (s, (letters, ())) = some (((trimR (inSet (setN 36)) s).dropWhile (inSet (setN 36)), ()), ()) := by
  have hrl : (trimR (inSet (setN 36)) s).length ≤ s.length := by
    have : ∀ (p : UInt8 → Bool) (l : List UInt8), (l.dropWhile p).length ≤ l.length := fun p l => (List.dropWhile_sublist p).length_le
    rw [trimR, List.length_reverse]
    exact Nat.le_trans (this _ _) (by simp)
  simp only [F_strings_Trim, letJ_def, makeSet_eq N (by omega), oSome_some, oGet_some, cond_true, trimRight_eq N _ s (by omega) hl, trimLeft_eq N _ (trimR (inSet (setN 36)) s) (by omega), Bool.and_self]
  rw [cond_neg (by rw [eqS_dec, eqS_dec]; simp [hs, letters]), cond_pos (by rw [show eqI (lenI letters) 1 = false from by rw [eqI_dec, lenI_def]; rfl]; rfl), cond_neg (by rw [show eqI (lenI letters) 1 = false from by rw [eqI_dec, lenI_def]; rfl]; rfl)]


def az : List UInt8 := [97, 98, 99, 100, 101, 102, 103, 104, 105, 106, 107, 108, 109, 110, 111, 112, 113, 114, 115, 116, 117, 118, 119, 120, 121, 122]
theorem az_is : ∀ m : Fin 256, decide (0 ≤ Lib.indexByte az (UInt8.ofNat m.val)) = (decide (97 ≤ m.val) && decide (m.val ≤ 122)) := by decide +kernel
theorem az_index (c : UInt8) : leI 0 (Lib.indexByte az c) = lower c := by
  have := az_is ⟨c.toNat, c.toNat_lt⟩
  simp only [UInt8.ofNat_toNat] at this
  rw [leI_def, this, lower]
theorem contains_az (N : Nat) (c : UInt8) : F_strings_Contains N (az, ([c], ())) = some ((lower c, ()), ()) := by
  simp only [F_strings_Contains, F_strings_Index, F_internal_stringslite_Index, index1F, oSome_some, oGet_some, cond_true, az_index]

theorem refName_eq (N : Nat) (s : List UInt8) (hN : 100 < N) : F_stemref2_ValidName N (s, ()) = some ((nameOk s, ()), ()) := by
  simp only [F_stemref2_ValidName]
  cases s with
  | nil =>
    have e : eqS ([] : List UInt8) [] = true := by rw [eqS_dec]; simp
    simp only [e]
    rfl
  | cons c r =>
    have e1 : eqS (c :: r) [] = false := by rw [eqS_dec]; simp
    have e2 : leI (lenI (c :: r)) 12 = decide ((c :: r).length ≤ 12) := by rw [leI_def, lenI_def]; exact decide_eq_decide.2 (by omega)
    have e3 : inS 0 1 (lenI (c :: r)) = true := by rw [inS_dec, lenI_def]; simp; omega
    have e4 : lslice (c :: r) 0 1 = [c] := by rw [lslice_def]; rfl
    have e5 := contains_az N c
    unfold az at e5
    rw [e1, e2, e3, e4, e5]
    by_cases h : (c :: r).length ≤ 12
    · have e6 := trim_eq N (c :: r) (by simp) (by omega) (by omega)
      unfold letters at e6
      rw [e6]
      simp only [h, decide_true, Bool.not_false, Bool.true_and, Bool.and_true, Bool.not_true, Bool.false_or, oSome_some, oGet_some, Bool.or_true, cond_true]
      congr 3
      rw [eqS_dec, nameOk]
      simp only [h, decide_true, Bool.true_and]
      have key : decide ((trimR (inSet (setN 36)) (c :: r)).dropWhile (inSet (setN 36)) = []) = (c :: r).all (fun c => lower c || digit c) := by
        rw [Bool.eq_iff_iff, decide_eq_true_iff, trim_nil]
        simp only [List.all_eq_true, inSet_eq]
      rw [key, List.all_cons]
      cases lower c <;> simp
    · have h' : decide ((c :: r).length ≤ 12) = false := decide_eq_false h
      rw [nameOk]
      simp only [h', Bool.and_false, Bool.false_and, Bool.not_false, Bool.true_or, Bool.and_self, cond_true]

theorem validName_eq (N : Nat) (s : List UInt8) (hl : s.length ≤ 4000000000000000000) (hN : s.length < N) : F_schema_ValidName N (s, ()) = some ((nameOk s, ()), ()) := by
  simp only [F_schema_ValidName, letJ_def]
  cases s with
  | nil =>
    have e1 : ltI (lenI ([] : List UInt8)) 1 = true := by rw [ltI_def, lenI_def]; rfl
    simp [e1, nameOk]
  | cons c r =>
    have hg : lget (c :: r) 0 0 = c := lget_nat (i := 0) rfl
    have e1 : ltI (lenI (c :: r)) 1 = false := by rw [ltI_def, lenI_def]; simp; omega
    have e2 : ltI 12 (lenI (c :: r)) = !decide ((c :: r).length ≤ 12) := by
      rw [ltI_def, lenI_def]
      by_cases h : (c :: r).length ≤ 12
      · simp only [h, decide_true, Bool.not_true, decide_eq_false_iff_not]; omega
      · simp only [h, decide_false, Bool.not_false, decide_eq_true_eq]; omega
    have e3 : inB 0 (lenI (c :: r)) = true := inB_len (i := 0) (by simp)
    have e4 : (leI 48 (byteI c) && leI (byteI c) 57) = digit c := by
      rw [byteI_nat, leI_def, leI_def, digit]
      congr 1 <;> exact decide_eq_decide.2 (by omega)
    rw [e1, e2, e3, hg, e4]
    simp only [Bool.or_true, Bool.and_self, cond_true]
    by_cases h : (c :: r).length ≤ 12
    · simp only [h, decide_true, Bool.not_true, Bool.or_self, Bool.false_or]
      by_cases hd : digit c = true
      · have hlow : lower c = false := by
          simp only [digit, lower, Bool.and_eq_true, decide_eq_true_eq] at hd ⊢
          simp; omega
        rw [hd, cond_true, nameOk, hlow]
        simp
      · have hd : digit c = false := by simpa using hd
        rw [hd, cond_false]
        refine (iterF_first (S := Int × Unit) (R := (Bool × Unit) × Unit) (fun i => ((i : Int), ())) (c :: r).length (fun i => if h : i < (c :: r).length then (if lower (c :: r)[i] || digit (c :: r)[i] then none else some ()) else none) (fun _ => some ((false, ()), ())) (some ((true, ()), ())) rfl (fun i hi _ ih => ?_) (fun _ ih => ?_) hN).trans ?_
        rotate_left
        rotate_left
        · have key : (firstE (fun i => if h : i < (c :: r).length then (if lower (c :: r)[i] || digit (c :: r)[i] then none else some ()) else none) (c :: r).length).isNone = (c :: r).all (fun c => lower c || digit c) := by
            rw [Bool.eq_iff_iff, List.all_eq_true]
            constructor
            · intro hn x hx
              obtain ⟨i, hi, rfl⟩ := List.getElem_of_mem hx
              have := firstE_none (Option.isNone_iff_eq_none.1 hn) i hi
              rw [dif_pos hi] at this
              by_cases hb : (lower (c :: r)[i] || digit (c :: r)[i]) = true
              · exact hb
              · rw [if_neg hb] at this; cases this
            · intro ha
              rw [Option.isNone_iff_eq_none]
              cases hf : firstE (fun i => if h : i < (c :: r).length then (if lower (c :: r)[i] || digit (c :: r)[i] then none else some ()) else none) (c :: r).length with
              | none => rfl
              | some u =>
                obtain ⟨i, hi, hg, _⟩ := firstE_some hf
                rw [dif_pos hi, if_pos (ha _ (List.getElem_mem hi))] at hg
                cases hg
          rw [nameOk]
          simp only [h, decide_true, Bool.true_and]
          rw [List.all_cons, hd, Bool.or_false] at key
          rw [← key]
          cases firstE (fun i => if h : i < (c :: r).length then (if lower (c :: r)[i] || digit (c :: r)[i] then none else some ()) else none) (c :: r).length <;> rfl
        · have hlb : lenI (bytesI (c :: r)) = lenI (c :: r) := by rw [lenI_def, lenI_def, bytesI_def, List.length_map]
          have hgi : lget (bytesI (c :: r)) (i : Int) 0 = byteI (c :: r)[i] := by
            rw [bytesI_def]
            exact lget_nat (by rw [List.getElem?_map, List.getElem?_eq_getElem hi]; rfl)
          simp only
          rw [hlb, cond_pos (lt_len hi), cond_pos (inB_len hi), hgi, lower_iff, digit_iff, iadd_nat (by omega), dif_pos hi]
          cases lower (c :: r)[i] <;> cases digit (c :: r)[i] <;> rfl
        · have hlb : lenI (bytesI (c :: r)) = lenI (c :: r) := by rw [lenI_def, lenI_def, bytesI_def, List.length_map]
          simp only
          rw [hlb, cond_neg (nlt_len (Nat.lt_irrefl _))]
    · have h' : decide ((c :: r).length ≤ 12) = false := decide_eq_false h
      rw [nameOk]
      simp only [h', Bool.not_false, Bool.false_and, Bool.false_or, Bool.true_or, cond_true]

end
end Go.Proofs.YtolaedcogjhfbaaDoor
