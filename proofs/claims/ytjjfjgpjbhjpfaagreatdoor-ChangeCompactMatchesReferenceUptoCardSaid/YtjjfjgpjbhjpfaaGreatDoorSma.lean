import Derived.Test.YtjjfjgpjbhjpfaaGreatDoorFns
import Derived.Test.YtjjfjgpjbhjpfaaGreatDoorViLib
import Derived.Test.YtjjfjgpjbhjpfaaGreatDoorViEnc
import Derived.Test.YtjjfjgpjbhjpfaaGreatDoorViOrd
set_option linter.unusedVariables false
set_option linter.unusedSimpArgs false
set_option linter.unnecessarySimpa false
set_option linter.unusedSectionVars false
set_option linter.unusedSimpArgs false
set_option maxRecDepth 100000
/- Names: both checks say the same. -/
namespace Go.Proofs.YtjjfjgpjbhjpfaaGreatDoor
open Go.Vi
noncomputable section

def lower (c : UInt8) : Bool := decide (97 ≤ c.toNat) && decide (c.toNat ≤ 122)
def digit (c : UInt8) : Bool := decide (48 ≤ c.toNat) && decide (c.toNat ≤ 57)
def nameOk (s : List UInt8) : Bool := match s with
  | [] => false
  | c :: r => decide ((c :: r).length ≤ 12) && (lower c && r.all fun c => lower c || digit c)

theorem byteI_nat (c : UInt8) : byteI c = (c.toNat : Int) := byteI_def c
theorem lower_iff (c : UInt8) : (ltI (byteI c) 97 || ltI 122 (byteI c)) = !lower c := by
  rw [byteI_nat, ltI_def, ltI_def, lower]
  rw [Bool.eq_iff_iff]
  simp only [Bool.or_eq_true, decide_eq_true_eq, Bool.not_eq_true', Bool.and_eq_false_iff, decide_eq_false_iff_not]
  omega
theorem digit_iff (c : UInt8) : (ltI (byteI c) 48 || ltI 57 (byteI c)) = !digit c := by
  rw [byteI_nat, ltI_def, ltI_def, digit]
  rw [Bool.eq_iff_iff]
  simp only [Bool.or_eq_true, decide_eq_true_eq, Bool.not_eq_true', Bool.and_eq_false_iff, decide_eq_false_iff_not]
  omega

/-! ## The reference's way: nothing is left after the trimming -/
def inSet (av : List Bool) (c : UInt8) : Bool := lget av (byteI c) false
theorem contains_eq (N : Nat) (av : List Bool) (c : UInt8) : F_asciiSet_contains N (av, (byteI c, ())) = some ((inSet av c, ()), (av, ())) := by
  simp only [F_asciiSet_contains]
  rw [cond_pos (by rw [byteI_nat, inB_def]; have := c.toNat_lt; simp; omega)]
  rfl

theorem trimLeft_eq (N : Nat) (av : List Bool) (s : List UInt8) (hN : s.length < N) : F_strings_trimLeftASCII N (s, (av, ())) = some ((s.dropWhile (inSet av), ()), (av, ())) := by
  simp only [F_strings_trimLeftASCII]
  refine iterF_post (S := (List UInt8) × ((List Bool) × Unit)) (R := ((List UInt8) × Unit) × ((List Bool) × Unit)) (fun p => p.1.length) (fun p => p.2.1 = av) (fun p => ((p.1.dropWhile (inSet av), ()), (av, ()))) ?_ N _ rfl hN
  rintro ih ⟨s, av', _⟩ h2 hih
  simp only at h2 hih ⊢
  subst h2
  cases s with
  | nil => rw [cond_neg (by rw [ltI_def, lenI_def]; rfl)]; rfl
  | cons c r =>
    have hg : lget (c :: r) 0 0 = c := lget_nat (i := 0) rfl
    rw [cond_pos (by rw [ltI_def, lenI_def]; simp)]
    simp only [hg, contains_eq, oSome_some, oGet_some, Bool.and_true]
    rw [cond_pos (show inB 0 (lenI (c :: r)) = true from inB_len (i := 0) (by simp))]
    by_cases h : inSet av' c = true
    · rw [cond_neg (by simp [h]), cond_pos (show inS 1 (lenI (c :: r)) (lenI (c :: r)) = true from inS_from (i := 1) (by simp)), show lslice (c :: r) 1 (lenI (c :: r)) = r from slice_from _ 1, hih (r, (av', ())) rfl (by simp)]
      simp [List.dropWhile_cons, h]
    · rw [cond_pos (by simpa using h)]
      simp [List.dropWhile_cons, h]

def trimR (p : UInt8 → Bool) (s : List UInt8) : List UInt8 := (s.reverse.dropWhile p).reverse
theorem trimR_snoc (p : UInt8 → Bool) (s : List UInt8) (c : UInt8) : trimR p (s ++ [c]) = if p c = true then trimR p s else s ++ [c] := by
  simp only [trimR, List.reverse_append, List.reverse_cons, List.reverse_nil, List.nil_append, List.cons_append, List.dropWhile_cons]
  split <;> simp
theorem trimRight_eq (N : Nat) (av : List Bool) (s : List UInt8) (hN : s.length < N) (hl : s.length < 4000000000000000000) : F_strings_trimRightASCII N (s, (av, ())) = some ((trimR (inSet av) s, ()), (av, ())) := by
  simp only [F_strings_trimRightASCII]
  refine iterF_post (S := (List UInt8) × ((List Bool) × Unit)) (R := ((List UInt8) × Unit) × ((List Bool) × Unit)) (fun p => p.1.length) (fun p => p.2.1 = av ∧ p.1.length < 4000000000000000000) (fun p => ((trimR (inSet av) p.1, ()), (av, ()))) ?_ N _ ⟨rfl, hl⟩ hN
  rintro ih ⟨s, av', _⟩ ⟨h2, h3⟩ hih
  simp only at h2 h3 hih ⊢
  subst h2
  rcases List.eq_nil_or_concat s with rfl | ⟨r, c, rfl⟩
  · rw [cond_neg (by rw [ltI_def, lenI_def]; rfl)]; rfl
  · rw [List.concat_eq_append] at h3 hih ⊢
    simp only [List.length_append, List.length_cons, List.length_nil] at h3
    have el : isub .i64 (lenI (r ++ [c])) 1 = (r.length : Int) := by
      have e : ((r ++ [c]).length : Int) = (r.length : Int) + 1 := by simp
      rw [lenI_def, e, isub64 (by omega) (by omega)]; omega
    have hg : lget (r ++ [c]) (r.length : Int) 0 = c := lget_nat (by simp)
    rw [cond_pos (by rw [ltI_def, lenI_def]; simp)]
    simp only [el, hg, contains_eq, oSome_some, oGet_some, Bool.and_true]
    rw [cond_pos (inB_len (by simp)), trimR_snoc]
    by_cases h : inSet av' c = true
    · rw [cond_neg (by simp [h]), cond_pos (by rw [inS_def, lenI_def]; simp; omega), slice_to, if_pos h]
      have e : (r ++ [c]).take r.length = r := by simp
      rw [e, hih (r, (av', ())) ⟨rfl, by simp only; omega⟩ (by simp)]
    · rw [cond_pos (by simpa using h), if_neg h]

theorem dropWhile_nil {p : UInt8 → Bool} : (s : List UInt8) → (s.dropWhile p = [] ↔ s.all p = true)
  | [] => by simp
  | c :: r => by
    rw [List.dropWhile_cons, List.all_cons]
    by_cases h : p c = true
    · rw [if_pos h, dropWhile_nil r, h]; simp
    · rw [if_neg h]; simp [h]
theorem all_dropWhile {p : UInt8 → Bool} : (s : List UInt8) → (s.dropWhile p).all p = s.all p
  | [] => rfl
  | c :: r => by
    rw [List.dropWhile_cons]
    by_cases h : p c = true
    · rw [if_pos h, all_dropWhile r]; simp [h]
    · rw [if_neg h]
theorem trim_nil {p : UInt8 → Bool} (s : List UInt8) : ((trimR p s).dropWhile p = []) ↔ s.all p = true := by
  rw [dropWhile_nil, trimR, List.all_reverse, all_dropWhile, List.all_reverse]

def letters : List UInt8 := [97, 98, 99, 100, 101, 102, 103, 104, 105, 106, 107, 108, 109, 110, 111, 112, 113, 114, 115, 116, 117, 118, 119, 120, 121, 122, 48, 49, 50, 51, 52, 53, 54, 55, 56, 57]
def setN (i : Nat) : List Bool := (letters.take i).foldl (fun av c => av.set c.toNat true) (List.replicate 256 false)
theorem setN_is : ∀ m : Fin 256, (setN 36).getD m.val false = ((decide (97 ≤ m.val) && decide (m.val ≤ 122)) || (decide (48 ≤ m.val) && decide (m.val ≤ 57))) := by decide +kernel
theorem letters_small : ∀ c ∈ letters, c.toNat < 128 := by decide +kernel
theorem inSet_eq (c : UInt8) : inSet (setN 36) c = (lower c || digit c) := by
  rw [inSet, byteI_nat, lget_def, Int.toNat_natCast]
  exact setN_is ⟨c.toNat, c.toNat_lt⟩
theorem makeSet_eq (N : Nat) (hN : 40 < N) : F_strings_makeASCIISet N (letters, ()) = some ((setN 36, (true, ())), ()) := by
  simp only [F_strings_makeASCIISet]
  refine iterF_seq (S := (List Bool) × (Int × Unit)) (fun i => (setN i, ((i : Int), ()))) 36 _ rfl ?_ ?_ (by omega)
  · intro i hi ih
    have hl : i < letters.length := hi
    have hg : lget letters (i : Int) 0 = letters[i] := lget_nat (List.getElem?_eq_getElem hl)
    have hs := letters_small letters[i] (List.getElem_mem hl)
    rw [cond_pos (lt_len hl), cond_pos (inB_len hl), hg, cond_neg (by rw [leI_def, byteI_nat]; simp; omega), cond_pos (by rw [byteI_nat, inB_def]; simp; omega), iadd_nat (by omega)]
    have e : setN (i + 1) = (setN i).set letters[i].toNat true := by
      rw [setN, take_snoc hl, List.foldl_append]; rfl
    simp only [e, lset_def, byteI_nat, Int.toNat_natCast]
  · intro ih
    rw [cond_neg (nlt_len (show ¬ 36 < letters.length by decide))]

theorem trim_eq (N : Nat) (s : List UInt8) (hs : s ≠ []) (hl : s.length < 4000000000000000000) (hN : s.length + 40 < N) : F_strings_Trim N (s, (letters, ())) = some (((trimR (inSet (setN 36)) s).dropWhile (inSet (setN 36)), ()), ()) := by
  have hrl : (trimR (inSet (setN 36)) s).length ≤ s.length := by
    have : ∀ (p : UInt8 → Bool) (l : List UInt8), (l.dropWhile p).length ≤ l.length := fun p l => (List.dropWhile_sublist p).length_le
    rw [trimR, List.length_reverse]
    exact Nat.le_trans (this _ _) (by simp)
  simp only [F_strings_Trim, letJ_def, makeSet_eq N (by omega), oSome_some, oGet_some, cond_true, trimRight_eq N _ s (by omega) hl, trimLeft_eq N _ (trimR (inSet (setN 36)) s) (by omega), Bool.and_self]
  rw [cond_neg (by rw [eqS_dec, eqS_dec]; simp [hs, letters]), cond_pos (by rw [show eqI (lenI letters) 1 = false from by rw [eqI_dec, lenI_def]; rfl]; rfl), cond_neg (by rw [show eqI (lenI letters) 1 = false from by rw [eqI_dec, lenI_def]; rfl]; rfl)]


def az : List UInt8 := [97, 98, 99, 100, 101, 102, 103, 104, 105, 106, 107, 108, 109, 110, 111, 112, 113, 114, 115, 116, 117, 118, 119, 120, 121, 122]
theorem az_is : ∀ m : Fin 256, decide (0 ≤ Lib.indexByte az (UInt8.ofNat m.val)) = (decide (97 ≤ m.val) && decide (m.val ≤ 122)) := by decide +kernel
theorem az_index (c : UInt8) : leI 0 (Lib.indexByte az c) = lower c := by
  have := az_is ⟨c.toNat, c.toNat_lt⟩
  simp only [UInt8.ofNat_toNat] at this
  rw [leI_def, this, lower]
theorem contains_az (N : Nat) (c : UInt8) : F_strings_Contains N (az, ([c], ())) = some ((lower c, ()), ()) := by
  simp only [F_strings_Contains, F_strings_Index, F_internal_stringslite_Index, index1F, oSome_some, oGet_some, cond_true, az_index]

theorem refName_eq (N : Nat) (s : List UInt8) (hN : 100 < N) : F_stemref2_ValidName N (s, ()) = some ((nameOk s, ()), ()) := by
  simp only [F_stemref2_ValidName]
  cases s with
  | nil =>
    have e : eqS ([] : List UInt8) [] = true := by rw [eqS_dec]; simp
    simp only [e]
    rfl
  | cons c r =>
    have e1 : eqS (c :: r) [] = false := by rw [eqS_dec]; simp
    have e2 : leI (lenI (c :: r)) 12 = decide ((c :: r).length ≤ 12) := by rw [leI_def, lenI_def]; exact decide_eq_decide.2 (by omega)
    have e3 : inS 0 1 (lenI (c :: r)) = true := by rw [inS_dec, lenI_def]; simp; omega
    have e4 : lslice (c :: r) 0 1 = [c] := by rw [lslice_def]; rfl
    have e5 := contains_az N c
    unfold az at e5
    rw [e1, e2, e3, e4, e5]
    by_cases h : (c :: r).length ≤ 12
    · have e6 := trim_eq N (c :: r) (by simp) (by omega) (by omega)
      unfold letters at e6
      rw [e6]
      simp only [h, decide_true, Bool.not_false, Bool.true_and, Bool.and_true, Bool.not_true, Bool.false_or, oSome_some, oGet_some, Bool.or_true, cond_true]
      congr 3
      rw [eqS_dec, nameOk]
      simp only [h, decide_true, Bool.true_and]
      have key : decide ((trimR (inSet (setN 36)) (c :: r)).dropWhile (inSet (setN 36)) = []) = (c :: r).all (fun c => lower c || digit c) := by
        rw [Bool.eq_iff_iff, decide_eq_true_iff, trim_nil]
        simp only [List.all_eq_true, inSet_eq]
      rw [key, List.all_cons]
      cases lower c <;> simp
    · have h' : decide ((c :: r).length ≤ 12) = false := decide_eq_false h
      rw [nameOk]
      simp only [h', Bool.and_false, Bool.false_and, Bool.not_false, Bool.true_or, Bool.and_self, cond_true]

theorem validName_eq (N : Nat) (s : List UInt8) (hl : s.length ≤ 4000000000000000000) (hN : s.length < N) : F_schema_ValidName N (s, ()) = some ((nameOk s, ()), ()) := by
  simp only [F_schema_ValidName, letJ_def]
  cases s with
  | nil =>
    have e1 : ltI (lenI ([] : List UInt8)) 1 = true := by rw [ltI_def, lenI_def]; rfl
    simp [e1, nameOk]
  | cons c r =>
    have hg : lget (c :: r) 0 0 = c := lget_nat (i := 0) rfl
    have e1 : ltI (lenI (c :: r)) 1 = false := by rw [ltI_def, lenI_def]; simp; omega
    have e2 : ltI 12 (lenI (c :: r)) = !decide ((c :: r).length ≤ 12) := by
      rw [ltI_def, lenI_def]
      by_cases h : (c :: r).length ≤ 12
      · simp only [h, decide_true, Bool.not_true, decide_eq_false_iff_not]; omega
      · simp only [h, decide_false, Bool.not_false, decide_eq_true_eq]; omega
    have e3 : inB 0 (lenI (c :: r)) = true := inB_len (i := 0) (by simp)
    have e4 : (leI 48 (byteI c) && leI (byteI c) 57) = digit c := by
      rw [byteI_nat, leI_def, leI_def, digit]
      congr 1 <;> exact decide_eq_decide.2 (by omega)
    rw [e1, e2, e3, hg, e4]
    simp only [Bool.or_true, Bool.and_self, cond_true]
    by_cases h : (c :: r).length ≤ 12
    · simp only [h, decide_true, Bool.not_true, Bool.or_self, Bool.false_or]
      by_cases hd : digit c = true
      · have hlow : lower c = false := by
          simp only [digit, lower, Bool.and_eq_true, decide_eq_true_eq] at hd ⊢
          simp; omega
        rw [hd, cond_true, nameOk, hlow]
        simp
      · have hd : digit c = false := by simpa using hd
        rw [hd, cond_false]
        refine (iterF_first (S := Int × Unit) (R := (Bool × Unit) × Unit) (fun i => ((i : Int), ())) (c :: r).length (fun i => if h : i < (c :: r).length then (if lower (c :: r)[i] || digit (c :: r)[i] then none else some ()) else none) (fun _ => some ((false, ()), ())) (some ((true, ()), ())) rfl (fun i hi _ ih => ?_) (fun _ ih => ?_) hN).trans ?_
        rotate_left
        rotate_left
        · have key : (firstE (fun i => if h : i < (c :: r).length then (if lower (c :: r)[i] || digit (c :: r)[i] then none else some ()) else none) (c :: r).length).isNone = (c :: r).all (fun c => lower c || digit c) := by
            rw [Bool.eq_iff_iff, List.all_eq_true]
            constructor
            · intro hn x hx
              obtain ⟨i, hi, rfl⟩ := List.getElem_of_mem hx
              have := firstE_none (Option.isNone_iff_eq_none.1 hn) i hi
              rw [dif_pos hi] at this
              by_cases hb : (lower (c :: r)[i] || digit (c :: r)[i]) = true
              · exact hb
              · rw [if_neg hb] at this; cases this
            · intro ha
              rw [Option.isNone_iff_eq_none]
              cases hf : firstE (fun i => if h : i < (c :: r).length then (if lower (c :: r)[i] || digit (c :: r)[i] then none else some ()) else none) (c :: r).length with
              | none => rfl
              | some u =>
                obtain ⟨i, hi, hg, _⟩ := firstE_some hf
                rw [dif_pos hi, if_pos (ha _ (List.getElem_mem hi))] at hg
                cases hg
          rw [nameOk]
          simp only [h, decide_true, Bool.true_and]
          rw [List.all_cons, hd, Bool.or_false] at key
          rw [← key]
          cases firstE (fun i => if h : i < (c :: r).length then (if lower (c :: r)[i] || digit (c :: r)[i] then none else some ()) else none) (c :: r).length <;> rfl
        · have hlb : lenI (bytesI (c :: r)) = lenI (c :: r) := by rw [lenI_def, lenI_def, bytesI_def, List.length_map]
          have hgi : lget (bytesI (c :: r)) (i : Int) 0 = byteI (c :: r)[i] := by
            rw [bytesI_def]
            exact lget_nat (by rw [List.getElem?_map, List.getElem?_eq_getElem hi]; rfl)
          simp only
          rw [hlb, cond_pos (lt_len hi), cond_pos (inB_len hi), hgi, lower_iff, digit_iff, iadd_nat (by omega), dif_pos hi]
          cases lower (c :: r)[i] <;> cases digit (c :: r)[i] <;> rfl
        · have hlb : lenI (bytesI (c :: r)) = lenI (c :: r) := by rw [lenI_def, lenI_def, bytesI_def, List.length_map]
          simp only
          rw [hlb, cond_neg (nlt_len (Nat.lt_irrefl _))]
    · have h' : decide ((c :: r).length ≤ 12) = false := decide_eq_false h
      rw [nameOk]
      simp only [h', Bool.not_false, Bool.false_and, Bool.false_or, Bool.true_or, cond_true]

end
end Go.Proofs.YtjjfjgpjbhjpfaaGreatDoor

/- Schemas: the codes, the copies, the comparisons. -/
namespace Go.Proofs.YtjjfjgpjbhjpfaaGreatDoor
open Go.Vi
noncomputable section

theorem sized_eq (N : Nat) (s : List UInt8) (h : (sizedC s).length ≤ 1099511627776) : F_stemref2_sized N (s, ()) = some ((sizedC s, ()), ()) := by
  have hl : (Lib.itoa (s.length : Int)).length + 1 + s.length ≤ 1099511627776 := by
    unfold sizedC at h
    simp only [List.length_append, List.length_cons] at h
    omega
  simp only [F_stemref2_sized, F_strconv_Itoa, oSome_some, oGet_some, Bool.true_and, lenI_def s, lapp_def]
  rw [roomS (by omega) (by simp)]
  rw [← lenI_def s, roomS (by rw [lenI_def]; simp only [List.length_append, List.length_cons, List.length_nil]; omega) (by omega)]
  rw [lenI_def]
  simp [sizedC]

theorem formatBool_eq (N : Nat) (b : Bool) : F_strconv_FormatBool N (b, ()) = some ((boolC b, ()), ()) := by
  cases b <;> simp [F_strconv_FormatBool, F_internal_strconv_FormatBool, oSome_some, oGet_some, boolC]

theorem take_flat_len {α : Type} (f : α → List UInt8) (l : List α) (i : Nat) : (((l.take i).map f).flatten).length ≤ ((l.map f).flatten).length := by
  have e : l.map f = (l.take i).map f ++ (l.drop i).map f := by rw [← List.map_append, List.take_append_drop]
  rw [e, List.flatten_append, List.length_append]
  omega

theorem flat_snoc {α : Type} (f : α → List UInt8) (l : List α) {i : Nat} (hi : i < l.length) : ((l.take (i + 1)).map f).flatten = ((l.take i).map f).flatten ++ f l[i] := by
  rw [take_snoc hi, List.map_append, List.flatten_append, List.map_cons, List.map_nil, List.flatten_cons, List.flatten_nil, List.append_nil]

theorem foreignKeyID_eq (N : Nat) (f : D_api_ForeignKey) (hN : f.2.1.length < N) (h : (fkC f).length ≤ 1099511627776) (hb : f.2.1.length ≤ 1099511627776) : F_stemref2_foreignKeyID N (f, ()) = some ((fkC f, ()), ()) := by
  obtain ⟨t, cs, r, ⟨⟩⟩ := f
  simp only at hN hb
  have h0 : (sizedC t).length + (sizedC r).length + (colsC cs).length ≤ 1099511627776 := by
    unfold fkC at h
    simp only [List.length_append] at h
    omega
  simp only [F_stemref2_foreignKeyID, letJ_def]
  rw [sized_eq N t (by omega), sized_eq N r (by omega)]
  simp only [oSome_some, oGet_some, Bool.true_and]
  rw [cond_pos (roomS (by omega) (by omega))]
  refine iterF_seq (S := D_runtime_errorAddressString) (fun i => (sizedC t ++ (sizedC r ++ colsC (cs.take i)), ((i : Int), ()))) cs.length _ (by simp [lapp_def, colsC]) (fun i hi ih => ?_) (fun ih => ?_) hN
  · have h1 : (colsC (cs.take (i + 1))).length ≤ (colsC cs).length := take_flat_len _ _ _
    have e1 : colsC (cs.take (i + 1)) = colsC (cs.take i) ++ 44 :: Lib.itoa cs[i] := flat_snoc _ _ hi
    rw [e1, List.length_append, List.length_cons] at h1
    simp only
    rw [cond_pos (lt_len hi), inB_len hi, cond_true, lget_at _ hi]
    simp only [F_strconv_Itoa, oSome_some, oGet_some, Bool.true_and, lapp_def]
    rw [roomS (by simp) (by omega), roomS (by simp only [List.length_append]; omega) (by simp only [List.length_append, List.length_cons, List.length_nil]; omega)]
    simp only [Bool.and_self, cond_true]
    rw [iadd_nat (by omega), e1]
    simp
  · simp only
    rw [cond_neg (nlt_len (Nat.lt_irrefl _)), List.take_length]
    rfl

theorem tableID_eq (N : Nat) (t : D_api_Table) (hN : t.2.1.length < N) (hN2 : t.2.2.1.length < N) (h : (tabC t).length ≤ 1099511627776) (hb : t.2.1.length ≤ 1099511627776) (hb2 : t.2.2.1.length ≤ 1099511627776) : F_stemref2_TableID N (t, ()) = some ((tabC t, ()), ()) := by
  obtain ⟨n, cs, ks, ⟨⟩⟩ := t
  simp only at hN hN2 hb hb2
  have h0 : (sizedC n).length + 1 + (Lib.itoa (cs.length : Int)).length + 1 + ((cs.map colC).flatten).length + (pkC ks).length + 1 ≤ 1099511627776 := by
    unfold tabC at h
    simp only [List.length_append, List.length_cons, List.length_nil] at h
    omega
  simp only [F_stemref2_TableID, letJ_def]
  rw [sized_eq N n (by omega)]
  simp only [oSome_some, oGet_some, Bool.true_and, F_strconv_Itoa, lapp_def]
  have hI : lenI cs = (cs.length : Int) := lenI_def cs
  rw [roomS (a := sizedC n) (by omega) (by simp), roomS (a := sizedC n ++ [40]) (by simp only [List.length_append, List.length_cons, List.length_nil]; omega) (by rw [hI]; omega),
    roomS (a := sizedC n ++ [40] ++ Lib.itoa (lenI cs)) (by rw [hI]; simp only [List.length_append, List.length_cons, List.length_nil]; omega) (by simp)]
  simp only [Bool.and_self, cond_true]
  generalize hp : sizedC n ++ [40] ++ Lib.itoa (lenI cs) ++ [44] = pre
  have hpl : pre.length = (sizedC n).length + 1 + (Lib.itoa (cs.length : Int)).length + 1 := by
    rw [← hp, hI]; simp only [List.length_append, List.length_cons, List.length_nil]
  refine iterF_run (S := D_runtime_errorAddressString) (fun i => (pre ++ ((cs.take i).map colC).flatten, ((i : Int), ()))) cs.length _ (by simp) (fun i hi ih => ?_) (fun ih => ?_) hN
  · have h1 : (((cs.take (i + 1)).map colC).flatten).length ≤ ((cs.map colC).flatten).length := take_flat_len _ _ _
    have e1 : ((cs.take (i + 1)).map colC).flatten = ((cs.take i).map colC).flatten ++ colC cs[i] := flat_snoc _ _ hi
    have e2 : (colC cs[i]).length = (sizedC cs[i].1).length + (Lib.itoa cs[i].2.1).length + (boolC cs[i].2.2.1).length + 1 := by
      simp only [colC, List.length_append, List.length_cons, List.length_nil]; omega
    rw [e1, List.length_append] at h1
    simp only
    rw [cond_pos (lt_len hi), inB_len hi, cond_true, lget_at _ hi]
    rw [sized_eq N cs[i].1 (by omega), formatBool_eq]
    simp only [oSome_some, oGet_some, Bool.true_and]
    rw [roomS (a := sizedC cs[i].1) (by omega) (by omega), roomS (a := sizedC cs[i].1 ++ Lib.itoa cs[i].2.1) (by simp only [List.length_append]; omega) (by omega),
      roomS (a := sizedC cs[i].1 ++ Lib.itoa cs[i].2.1 ++ boolC cs[i].2.2.1) (by simp only [List.length_append]; omega) (by simp),
      roomS (a := pre ++ ((cs.take i).map colC).flatten) (by simp only [List.length_append]; omega) (by simp only [List.length_append, List.length_cons, List.length_nil]; omega)]
    simp only [Bool.and_self, cond_true]
    rw [iadd_nat (by omega), e1]
    simp [colC]
  · simp only
    rw [cond_neg (nlt_len (Nat.lt_irrefl _)), List.take_length]
    refine iterF_run (S := D_runtime_errorAddressString) (fun i => (pre ++ (cs.map colC).flatten ++ pkC (ks.take i), ((i : Int), ()))) ks.length _ (by simp [pkC]) (fun i hi ih => ?_) (fun ih => ?_) hN2
    · have h1 : (pkC (ks.take (i + 1))).length ≤ (pkC ks).length := take_flat_len _ _ _
      have e1 : pkC (ks.take (i + 1)) = pkC (ks.take i) ++ (Lib.itoa ks[i] ++ [44]) := flat_snoc _ _ hi
      rw [e1, List.length_append, List.length_append, List.length_cons] at h1
      simp only
      rw [cond_pos (lt_len hi), inB_len hi, cond_true, lget_at _ hi]
      rw [roomS (a := Lib.itoa ks[i]) (by omega) (by simp), roomS (a := pre ++ (cs.map colC).flatten ++ pkC (ks.take i)) (by simp only [List.length_append]; omega) (by simp only [List.length_append, List.length_cons, List.length_nil]; omega)]
      simp only [Bool.and_self, cond_true]
      rw [iadd_nat (by omega), e1]
      simp
    · simp only
      rw [cond_neg (nlt_len (Nat.lt_irrefl _)), List.take_length, roomS (by simp only [List.length_append]; omega) (by simp), cond_true, ← hp, hI]
      simp [tabC]

theorem encode_eq (N : Nat) (r : List D_api_Value) (h : (encR r).length ≤ 1099511627776) : F_stemref2_Encode N (r, ()) = some ((encR r, ()), ()) := by
  rw [F_stemref2_Encode, if_pos h]

theorem clone_int (N : Nat) (xs : List Int) (h : xs.length ≤ 1099511627776) : F_slices_Clone_int N (xs, ()) = some ((xs, ()), ()) := cloneForm xs 8 (by omega)

theorem clone_col (N : Nat) (xs : List D_api_Column) (h : xs.length ≤ 1099511627776) : F_slices_Clone_api_Column N (xs, ()) = some ((xs, ()), ()) := cloneForm xs 32 (by omega)

theorem cloneTable_eq (N : Nat) (t : D_api_Table) (h1 : t.2.1.length ≤ 1099511627776) (h2 : t.2.2.1.length ≤ 1099511627776) : F_schema_CloneTable N (t, ()) = some ((t, ()), ()) := by
  simp only [F_schema_CloneTable, clone_int N t.2.2.1 h2, clone_col N t.2.1 h1, oSome_some, oGet_some, Bool.and_self, cond_true]

set_option synthInstance.maxHeartbeats 400000 in
set_option synthInstance.maxSize 4000 in
instance decTable : DecidableEq D_api_Table := inferInstance
set_option synthInstance.maxHeartbeats 400000 in
set_option synthInstance.maxSize 4000 in
instance dec0 : DecidableEq D_api_Value := inferInstance
set_option synthInstance.maxHeartbeats 400000 in
set_option synthInstance.maxSize 4000 in
instance dec1 : DecidableEq D_api_Constraint := inferInstance
instance dec2 : DecidableEq D_api_ForeignKey := inferInstance
instance dec3 : DecidableEq (List D_api_Constraint × Unit) := instDecidableEqProd
instance dec4 : DecidableEq (List D_api_ForeignKey × (List D_api_Constraint × Unit)) := instDecidableEqProd
instance decSch : DecidableEq D_api_Schema := instDecidableEqProd

theorem equal_int (N : Nat) (xs ys : List Int) (hN : xs.length < N) (hb : xs.length ≤ 1099511627776) : F_slices_Equal_int N (xs, (ys, ())) = some ((decide (xs = ys), ()), ()) := by
  simp only [F_slices_Equal_int]
  by_cases hl : xs.length = ys.length
  · rw [cond_neg (by rw [neI_dec, lenI_def, lenI_def, hl]; simp)]
    exact equalLoop (ne := neI) (fun a b => neI_dec a b) xs ys 0 hl hb hN
  · rw [cond_pos (by rw [neI_dec, lenI_def, lenI_def]; simp; omega)]
    have : xs ≠ ys := fun h => hl (by rw [h])
    simp [this]

theorem equalFk_eq (N : Nat) (a b : D_api_ForeignKey) (hN : a.2.1.length < N) (hB : N ≤ 1099511627776) : F_schema_EqualForeignKeys N (a, (b, ())) = some ((decide (a = b), ()), ()) := by
  obtain ⟨a1, a2, a3, ⟨⟩⟩ := a
  obtain ⟨b1, b2, b3, ⟨⟩⟩ := b
  simp only at hN
  simp only [F_schema_EqualForeignKeys, equal_int N a2 b2 hN (by omega), oSome_some, oGet_some, eqS_dec, Bool.or_true, cond_true, Prod.mk.injEq, and_true, Bool.decide_and, Bool.and_assoc]
/-! ## Schemas -/
/-- Lists held against each other by a function. -/
theorem equalFunc_form {α : Type} [DecidableEq α] (f : (α × (α × Unit)) → Option (Bool × Unit)) (xs ys : List α) (d : α) (hf : ∀ a ∈ xs, ∀ b, f (a, (b, ())) = some (decide (a = b), ())) (N : Nat) (hN : xs.length < N) (hb : xs.length ≤ 1099511627776) :
    (bif (neI (lenI xs) (lenI ys)) then (some ((false, ()), ())) else (iterF (S := (Int × Unit)) (R := ((Bool × Unit) × Unit)) N (fun ih0 => (fun p1 => (bif (ltI p1.1 (lenI xs)) then (bif (inB p1.1 (lenI xs)) then (bif (inB p1.1 (lenI ys)) then (bif (oSome (f ((lget xs p1.1 d), ((lget ys p1.1 d), ())))) then (bif (!(oGet (f ((lget xs p1.1 d), ((lget ys p1.1 d), ()))) (false, ())).1) then (some ((false, ()), ())) else (ih0 ((iadd .i64 p1.1 1), ()))) else none) else none) else none) else (some ((true, ()), ()))))) (0, ()))) = some ((decide (xs = ys), ()), ()) := by
  by_cases hl : xs.length = ys.length
  · rw [cond_neg (by rw [neI_dec, lenI_def, lenI_def, hl]; simp)]
    have := equalLoop (ne := fun (a b : α) => !decide (a = b)) (fun a b => rfl) xs ys d hl hb hN
    rw [← this]
    congr 1
    funext ih p
    by_cases hlt : ltI p.1 (lenI xs) = true
    · rw [hlt]
      simp only [cond_true]
      by_cases hin : inB p.1 (lenI xs) = true
      · have hin2 : inB p.1 (lenI ys) = true := by rw [lenI_def] at hin ⊢; rw [← hl]; exact hin
        rw [hin, hin2]
        have hm : lget xs p.1 d ∈ xs := by
          rw [inB_dec, decide_eq_true_iff, lenI_def] at hin
          rw [lget_def, List.getD_eq_getElem?_getD, List.getElem?_eq_getElem (show p.1.toNat < xs.length by omega)]
          exact List.getElem_mem _
        simp only [cond_true, hf _ hm, oSome_some, oGet_some, Bool.and_self]
      · simp [hin]
    · simp [hlt]
  · rw [cond_pos (by rw [neI_dec, lenI_def, lenI_def]; simp; omega)]
    have : xs ≠ ys := fun h => hl (by rw [h])
    simp [this]

/-- What a schema holds is not too much. -/
structure Small (N : Nat) (s : D_api_Schema) : Prop where
  n : N ≤ 1099511627776
  t : s.1.length < N
  f : s.2.1.length < N
  c : s.2.2.1.length < N
  tc : ∀ t ∈ s.1, t.2.1.length < N
  tk : ∀ t ∈ s.1, t.2.2.1.length < N
  fc : ∀ f ∈ s.2.1, f.2.1.length < N
  tn : ∀ t ∈ s.1, t.1.length < N
  cn : ∀ t ∈ s.1, ∀ c ∈ t.2.1, c.1.length < N

end
end Go.Proofs.YtjjfjgpjbhjpfaaGreatDoor

/- Tables, foreign keys, constraints, schemas: both checks say the same. -/
namespace Go.Proofs.YtjjfjgpjbhjpfaaGreatDoor
open Go.Vi
noncomputable section

/-! ## The first place -/
def atE {α : Type} (q : α → Bool) (xs : List α) (i : Nat) : Option Nat := match xs[i]? with
  | some x => if q x = true then some i else none
  | none => none
def idxE {α : Type} (q : α → Bool) (xs : List α) : Option Nat := firstE (atE q xs) xs.length
theorem idxE_some {α : Type} {q : α → Bool} {xs : List α} {i : Nat} (h : idxE q xs = some i) : ∃ hi : i < xs.length, q xs[i] = true ∧ ∀ j (hj : j < i), q (xs[j]'(by omega)) = false := by
  obtain ⟨k, h1, h2, h3⟩ := firstE_some h
  have hk : xs[k]? = some xs[k] := List.getElem?_eq_getElem h1
  simp only [atE, hk] at h2
  split at h2
  · rename_i hq
    injection h2 with h2
    subst h2
    refine ⟨h1, hq, fun j hj => ?_⟩
    have := firstE_none h3 j hj
    simp only [atE, List.getElem?_eq_getElem (show j < xs.length by omega)] at this
    split at this
    · cases this
    · rename_i hn; simpa using hn
  · cases h2
theorem idxE_none {α : Type} {q : α → Bool} {xs : List α} (h : idxE q xs = none) : ∀ x ∈ xs, q x = false := fun x hx => by
  obtain ⟨i, hi, rfl⟩ := List.getElem_of_mem hx
  have := firstE_none h i hi
  simp only [atE, List.getElem?_eq_getElem hi] at this
  split at this
  · cases this
  · rename_i hn; simpa using hn
def idxI {α : Type} (q : α → Bool) (xs : List α) : Int := match idxE q xs with
  | some i => (i : Int)
  | none => -1

theorem indexFunc_form {α : Type} (f : (α × Unit) → Option (Bool × Unit)) (q : α → Bool) (xs : List α) (hf : ∀ a ∈ xs, f (a, ()) = some (q a, ())) (d : α) (N : Nat) (hN : xs.length < N) (hb : xs.length ≤ 1099511627776) :
    (iterF (S := (Int × Unit)) (R := ((Int × Unit) × Unit)) N (fun ih0 => (fun p1 => (bif (ltI p1.1 (lenI xs)) then (bif ((inB p1.1 (lenI xs)) && (oSome (f ((lget xs p1.1 d), ())))) then (letJ (oGet (f ((lget xs p1.1 d), ())) (false, ())).1 (fun y2 => (bif y2 then (some ((p1.1, ()), ())) else (ih0 ((iadd .i64 p1.1 1), ()))))) else none) else (some (((-1), ()), ()))))) (0, ())) = some ((idxI q xs, ()), ()) := by
  refine (iterF_first (S := Int × Unit) (fun i => ((i : Int), ())) xs.length (atE q xs) (fun i => some (((i : Int), ()), ())) (some ((-1, ()), ())) rfl (fun i hi _ ih => ?_) (fun _ ih => ?_) hN).trans ?_
  · simp only [letJ_def]
    rw [cond_pos (lt_len hi), lget_at _ hi, hf _ (List.getElem_mem hi), oSome_some, oGet_some, Bool.and_true, cond_pos (inB_len hi), iadd_nat (by omega)]
    simp only [atE, List.getElem?_eq_getElem hi]
    cases q xs[i] <;> rfl
  · simp only
    rw [cond_neg (nlt_len (Nat.lt_irrefl _))]
  · rw [idxI, idxE]
    cases firstE (atE q xs) xs.length <;> rfl

theorem maxI_idx {α : Type} (q : α → Bool) (xs : List α) : maxI (idxI q xs) 0 = (((idxE q xs).getD 0 : Nat) : Int) := by
  rw [idxI, maxI_def]
  cases idxE q xs with
  | none => rfl
  | some i => simp only [Option.getD_some]; split <;> omega
theorem leI_idx {α : Type} (q : α → Bool) (xs : List α) : leI 0 (idxI q xs) = (idxE q xs).isSome := by
  rw [idxI, leI_def]
  cases idxE q xs with
  | none => rfl
  | some i => simp

/-! ## Tables -/
def isCol (n : List UInt8) (c : D_api_Column) : Bool := decide (c.1 = n)
def isTab (n : List UInt8) (t : D_api_Table) : Bool := decide (t.1 = n)
theorem findColumn_eq (N : Nat) (t : D_api_Table) (n : List UInt8) (hN : t.2.1.length < N) (hB : N ≤ 1099511627776) : F_schema_FindColumn N (t, (n, ())) = some (((((idxE (isCol n) t.2.1).getD 0 : Nat) : Int), ((idxE (isCol n) t.2.1).isSome, ())), ()) := by
  simp only [F_schema_FindColumn, letJ_def]
  have h := indexFunc_form (fun x0 => (omap (fun y1 : ((Bool × Unit) × Unit) => (y1.1.1, ())) (F_schema_FindColumn_1 N (x0.1, (n, ()))))) (isCol n) t.2.1 (fun a _ => by simp only [F_schema_FindColumn_1, omap_def, Option.map_some, eqS_dec, isCol]) (([] : List UInt8), (0, (false, ()))) N hN (by omega)
  rw [show F_slices_IndexFunc_api_Column N (t.2.1, ((fun x0 => (omap (fun y1 => (y1.1.1, ())) (F_schema_FindColumn_1 N (x0.1, (n, ()))))), ())) = some ((idxI (isCol n) t.2.1, ()), ()) from h]
  simp only [oSome_some, oGet_some, cond_true, maxI_idx, leI_idx]
theorem findTable_eq (N : Nat) (s : D_api_Schema) (n : List UInt8) (hN : s.1.length < N) (hB : N ≤ 1099511627776) : F_schema_FindTable N (s, (n, ())) = some (((((idxE (isTab n) s.1).getD 0 : Nat) : Int), ((idxE (isTab n) s.1).isSome, ())), ()) := by
  simp only [F_schema_FindTable, letJ_def]
  have h := indexFunc_form (fun x0 => (omap (fun y1 : ((Bool × Unit) × Unit) => (y1.1.1, ())) (F_schema_FindTable_1 N (x0.1, (n, ()))))) (isTab n) s.1 (fun a _ => by simp only [F_schema_FindTable_1, omap_def, Option.map_some, eqS_dec, isTab]) (([] : List UInt8), (([] : List D_api_Column), (([] : List Int), ()))) N hN (by omega)
  rw [show F_slices_IndexFunc_api_Table N (s.1, ((fun x0 => (omap (fun y1 => (y1.1.1, ())) (F_schema_FindTable_1 N (x0.1, (n, ()))))), ())) = some ((idxI (isTab n) s.1, ()), ()) from h]
  simp only [oSome_some, oGet_some, cond_true, maxI_idx, leI_idx]
/-- The table found. -/
def tabOf (s : D_api_Schema) (n : List UInt8) : Option D_api_Table := (idxE (isTab n) s.1).bind fun i => s.1[i]?
theorem refFind_eq (N : Nat) (s : D_api_Schema) (n : List UInt8) (hN : s.1.length < N) (hB : N ≤ 1099511627776) : F_stemref2_FindTable N (s, (n, ())) = some ((tabOf s n, ()), ()) := by
  simp only [F_stemref2_FindTable]
  refine (iterF_first (S := Int × Unit) (fun i => ((i : Int), ())) s.1.length (atE (isTab n) s.1) (fun i => some ((s.1[i]?, ()), ())) (some ((none, ()), ())) rfl (fun i hi _ ih => ?_) (fun _ ih => ?_) hN).trans ?_
  · simp only
    rw [cond_pos (lt_len hi), inB_len hi, lget_at _ hi, iadd_nat (by omega), eqS_dec]
    simp only [atE, List.getElem?_eq_getElem hi, isTab, cond_true, decide_eq_true_eq]
    by_cases hq : (s.1[i]).1 = n <;> simp [hq]
  · simp only
    rw [cond_neg (nlt_len (Nat.lt_irrefl _))]
  · rw [tabOf, idxE]
    cases firstE (atE (isTab n) s.1) s.1.length <;> rfl

structure TSmall (N : Nat) (t : D_api_Table) : Prop where
  n : N ≤ 1099511627776
  m : 100 < N
  nm : t.1.length < N
  c : t.2.1.length < N
  k : t.2.2.1.length < N
  cn : ∀ c ∈ t.2.1, c.1.length < N

open Classical in
def colE (cs : List D_api_Column) (i : Nat) : Option Int := match cs[i]? with
  | none => none
  | some c => if nameOk c.1 = false then some 23 else if c.1 ∈ (cs.take i).map (fun c => c.1) then some 5 else if c.2.1 < 1 ∨ 3 < c.2.1 then some 7 else none
def colD : D_api_Column := (([] : List UInt8), (0, (false, ())))
def pkE (cs : List D_api_Column) (ks : List Int) (i : Nat) : Option Int := match ks[i]? with
  | none => none
  | some k => if k < 0 ∨ (cs.length : Int) ≤ k ∨ (lget cs k colD).2.2.1 = true ∨ (0 < i ∧ k ≤ ks.getD (i - 1) 0) then some 9 else none
def vTab (t : D_api_Table) : Int := if nameOk t.1 = false then 23 else if t.2.1.length = 0 then 3 else if 6 < t.2.1.length then 2 else match firstE (colE t.2.1) t.2.1.length with
  | some e => e
  | none => match firstE (pkE t.2.1 t.2.2.1) t.2.2.1.length with
    | some e => e
    | none => if t.2.2.1.length = 0 then 9 else 0

theorem first_lt {cs : List D_api_Column} {i : Nat} (hi : i < cs.length) : ltI (((idxE (isCol (cs[i]).1) cs).getD 0 : Nat) : Int) (i : Int) = open Classical in decide ((cs[i]).1 ∈ (cs.take i).map (fun c => c.1)) := by
  rw [ltI_dec]
  apply decide_eq_decide.2
  cases h : idxE (isCol (cs[i]).1) cs with
  | none =>
    have := idxE_none h cs[i] (List.getElem_mem hi)
    simp [isCol] at this
  | some j =>
    obtain ⟨hj, h1, h2⟩ := idxE_some h
    simp only [Option.getD_some]
    constructor
    · intro hlt
      refine List.mem_map.2 ⟨cs[j], ?_, by simpa [isCol] using h1⟩
      exact List.mem_take_iff_getElem.2 ⟨j, by omega, rfl⟩
    · intro hm
      obtain ⟨c, hc, he⟩ := List.mem_map.1 hm
      obtain ⟨k, hk, rfl⟩ := List.mem_take_iff_getElem.1 hc
      have hki : k < i := by omega
      by_cases hjk : k < j
      · have := h2 k hjk
        simp [isCol, he] at this
      · omega

theorem len_dec {α : Type} (xs : List α) : eqI (lenI xs) 0 = decide (xs.length = 0) := by
  rw [eqI_dec, lenI_def]; exact decide_eq_decide.2 (by omega)
theorem gt_dec {α : Type} (xs : List α) (n : Nat) : ltI (n : Int) (lenI xs) = decide (n < xs.length) := by
  rw [ltI_def, lenI_def]; exact decide_eq_decide.2 (by omega)

theorem schTable_eq (N : Nat) (t : D_api_Table) (h : TSmall N t) : F_schema_ValidateTable N (t, ()) = some ((vTab t, ()), ()) := by
  have hn := h.n
  have hc := h.c
  have hk := h.k
  simp only [F_schema_ValidateTable, letJ_def]
  rw [validName_eq N t.1 (by have := h.nm; omega) h.nm]
  simp only [oSome_some, oGet_some, cond_true, len_dec, show ltI 6 (lenI t.2.1) = decide (6 < t.2.1.length) from gt_dec _ 6]
  unfold vTab
  cases h1 : nameOk t.1 with
  | false => rfl
  | true =>
    simp only [Bool.not_true, cond_false, if_false, Bool.true_eq_false]
    by_cases h2 : t.2.1.length = 0
    · simp [h2]
    by_cases h3 : 6 < t.2.1.length
    · simp [h2, h3]
    simp only [h2, h3, decide_false, cond_false, if_false]
    refine (iterF_first (S := Int × Unit) (fun i => ((i : Int), ())) t.2.1.length (colE t.2.1) (fun e => some ((e, ()), ())) (match firstE (pkE t.2.1 t.2.2.1) t.2.2.1.length with
      | some e => some ((e, ()), ())
      | none => some ((if t.2.2.1.length = 0 then 9 else 0, ()), ())) rfl (fun i hi _ ih => ?_) (fun _ ih => ?_) hc).trans ?_
    · simp only
      have hm : (t.2.1[i]).1.length < N := h.cn _ (List.getElem_mem hi)
      rw [cond_pos (lt_len hi), cond_pos (inB_len hi), lget_at _ hi, validName_eq N _ (by omega) hm, findColumn_eq N t _ hc hn, iadd_nat (by omega)]
      simp only [oSome_some, oGet_some, cond_true, first_lt hi, colE, List.getElem?_eq_getElem hi]
      cases nameOk (t.2.1[i]).1 with
      | false => rfl
      | true =>
        simp only [Bool.not_true, cond_false, if_false, Bool.true_eq_false]
        by_cases h4 : (t.2.1[i]).1 ∈ (t.2.1.take i).map (fun c => c.1)
        · simp only [h4, decide_true, cond_true, if_true]
        · simp only [h4, decide_false, cond_false, if_false]
          rw [ltI_dec, ltI_dec, ← Bool.decide_or, cond_dec]
          split <;> rfl
    · simp only
      rw [cond_neg (nlt_len (Nat.lt_irrefl _))]
      refine (iterF_first (S := Int × Unit) (fun i => ((i : Int), ())) t.2.2.1.length (pkE t.2.1 t.2.2.1) (fun e => some ((e, ()), ())) (some ((if t.2.2.1.length = 0 then 9 else 0, ()), ())) rfl (fun i hi _ ih => ?_) (fun _ ih => ?_) hk).trans ?_
      · simp only
        rw [cond_pos (lt_len hi), cond_pos (inB_len hi), lget_at _ hi, iadd_nat (by omega)]
        simp only [pkE, List.getElem?_eq_getElem hi]
        have e1 : ltI (t.2.2.1[i]) 0 = decide (t.2.2.1[i] < 0) := ltI_dec _ _
        have e2 : leI (lenI t.2.1) (t.2.2.1[i]) = decide ((t.2.1.length : Int) ≤ t.2.2.1[i]) := by rw [leI_dec, lenI_def]
        have e3 : inB (t.2.2.1[i]) (lenI t.2.1) = (decide (0 ≤ t.2.2.1[i]) && decide (t.2.2.1[i] < (t.2.1.length : Int))) := by rw [inB_def, lenI_def]
        have e4 : ltI 0 (i : Int) = decide (0 < i) := by rw [ltI_dec]; exact decide_eq_decide.2 (by omega)
        rw [e1, e2, e3, e4]
        change (bif _ then (bif ((_ || (lget t.2.1 (t.2.2.1[i]) colD).2.2.1) || _) then _ else _) else _) = _
        by_cases h4 : t.2.2.1[i] < 0
        · simp [h4]
        by_cases h5 : (t.2.1.length : Int) ≤ t.2.2.1[i]
        · simp [h4, h5]
        have h6 : 0 ≤ t.2.2.1[i] := by omega
        have h7 : t.2.2.1[i] < (t.2.1.length : Int) := by omega
        by_cases h8 : 0 < i
        · have e5 : inB (isub .i64 (i : Int) 1) (lenI t.2.2.1) = true := by rw [isub64 (by omega) (by omega), inB_dec, lenI_def]; simp; omega
          have e6 : lget t.2.2.1 (isub .i64 (i : Int) 1) 0 = t.2.2.1.getD (i - 1) 0 := by
            rw [isub64 (by omega) (by omega), lget_def, show ((i : Int) - 1).toNat = i - 1 by omega]
          rw [e5, e6, leI_dec]
          generalize (lget t.2.1 (t.2.2.1[i]) colD).2.2.1 = bb
          generalize t.2.2.1.getD (i - 1) 0 = pv
          cases bb <;> by_cases h9 : t.2.2.1[i] ≤ pv <;> simp [h4, h5, h6, h7, h8, h9]
        · generalize (lget t.2.1 (t.2.2.1[i]) colD).2.2.1 = bb
          cases bb <;> simp [h4, h5, h6, h7, h8]
      · simp only
        rw [cond_neg (nlt_len (Nat.lt_irrefl _)), cond_dec]
        split <;> rfl
      · cases firstE (pkE t.2.1 t.2.2.1) t.2.2.1.length <;> rfl
    · cases firstE (colE t.2.1) t.2.1.length with
      | some e => rfl
      | none => cases firstE (pkE t.2.1 t.2.2.1) t.2.2.1.length <;> rfl

theorem refTable_eq (N : Nat) (t : D_api_Table) (h : TSmall N t) : F_stemref2_ValidateTable N (t, ()) = some ((vTab t, ()), ()) := by
  have hn := h.n
  have hc := h.c
  have hk := h.k
  have hm0 := h.m
  simp only [F_stemref2_ValidateTable, letJ_def]
  rw [refName_eq N t.1 hm0]
  simp only [oSome_some, oGet_some, cond_true, len_dec, show ltI 6 (lenI t.2.1) = decide (6 < t.2.1.length) from gt_dec _ 6]
  unfold vTab
  cases h1 : nameOk t.1 with
  | false => rfl
  | true =>
    simp only [Bool.not_true, cond_false, if_false, Bool.true_eq_false]
    by_cases h2 : t.2.1.length = 0
    · simp [h2]
    by_cases h3 : 6 < t.2.1.length
    · simp [h2, h3]
    simp only [h2, h3, decide_false, cond_false, if_false]
    refine (iterF_first (S := (List ((List UInt8) × Int)) × (Int × Unit)) (fun i => (cntM ((t.2.1.take i).map (fun c => c.1)), ((i : Int), ()))) t.2.1.length (colE t.2.1) (fun e => some ((e, ()), ())) (match firstE (pkE t.2.1 t.2.2.1) t.2.2.1.length with
      | some e => some ((e, ()), ())
      | none => some ((if t.2.2.1.length = 0 then 9 else 0, ()), ())) rfl (fun i hi _ ih => ?_) (fun _ ih => ?_) hc).trans ?_
    · simp only
      have hm : (t.2.1[i]).1.length < N := h.cn _ (List.getElem_mem hi)
      have hlen : ((t.2.1.take i).map (fun c => c.1)).length < 4611686018427387904 := by
        rw [List.length_map, List.length_take]; omega
      rw [cond_pos (lt_len hi), cond_pos (inB_len hi), lget_at _ hi, refName_eq N _ hm0, cntM_twice _ hlen, iadd_nat (by omega), ← cntM_snoc]
      have e0 : (t.2.1.take i).map (fun c => c.1) ++ [(t.2.1[i]).1] = (t.2.1.take (i + 1)).map (fun c => c.1) := by rw [take_snoc hi, List.map_append]; rfl
      simp only [oSome_some, oGet_some, cond_true, colE, List.getElem?_eq_getElem hi, e0]
      cases nameOk (t.2.1[i]).1 with
      | false => rfl
      | true =>
        simp only [Bool.not_true, cond_false, if_false, Bool.true_eq_false]
        by_cases h4 : (t.2.1[i]).1 ∈ (t.2.1.take i).map (fun c => c.1)
        · simp only [h4, decide_true, cond_true, if_true]
        · simp only [h4, decide_false, cond_false, if_false]
          rw [ltI_dec, ltI_dec, ← Bool.decide_or, cond_dec]
          split <;> rfl
    · simp only
      rw [cond_neg (nlt_len (Nat.lt_irrefl _))]
      have hprev : ∀ i, i ≤ t.2.2.1.length → firstE (pkE t.2.1 t.2.2.1) i = none → 0 < i → 0 ≤ t.2.2.1.getD (i - 1) 0 := fun i hi hf h0 => by
        have hlt : i - 1 < t.2.2.1.length := by omega
        have := firstE_none hf (i - 1) (by omega)
        simp only [pkE, List.getElem?_eq_getElem hlt] at this
        split at this
        · cases this
        · rename_i hc
          simp only [not_or] at hc
          rw [List.getD_eq_getElem?_getD, List.getElem?_eq_getElem hlt]
          simp only [Option.getD_some]
          omega
      refine (iterF_first (S := D_unicode_utf8_acceptRange) (fun i => (if i = 0 then -1 else t.2.2.1.getD (i - 1) 0, ((i : Int), ()))) t.2.2.1.length (pkE t.2.1 t.2.2.1) (fun e => some ((e, ()), ())) (some ((if t.2.2.1.length = 0 then 9 else 0, ()), ())) rfl (fun i hi hf ih => ?_) (fun hf ih => ?_) hk).trans ?_
      · simp only
        rw [cond_pos (lt_len hi), cond_pos (inB_len hi), lget_at _ hi, iadd_nat (by omega)]
        simp only [pkE, List.getElem?_eq_getElem hi]
        have e2 : leI (lenI t.2.1) (t.2.2.1[i]) = decide ((t.2.1.length : Int) ≤ t.2.2.1[i]) := by rw [leI_dec, lenI_def]
        have e3 : inB (t.2.2.1[i]) (lenI t.2.1) = (decide (0 ≤ t.2.2.1[i]) && decide (t.2.2.1[i] < (t.2.1.length : Int))) := by rw [inB_def, lenI_def]
        have e5 : t.2.2.1.getD (i + 1 - 1) 0 = t.2.2.1[i] := by
          rw [List.getD_eq_getElem?_getD, Nat.add_sub_cancel, List.getElem?_eq_getElem hi]; rfl
        rw [e2, e3, leI_dec]
        have hp := hprev i (Nat.le_of_lt hi) hf
        simp only [show ¬ (i + 1 = 0) by omega, if_false, e5]
        change (bif _ then (bif (_ || (lget t.2.1 (t.2.2.1[i]) colD).2.2.1) then _ else _) else _) = _
        generalize (lget t.2.1 (t.2.2.1[i]) colD).2.2.1 = bb
        by_cases h8 : i = 0
        · subst h8
          by_cases h4 : t.2.2.1[0] < 0
          · have h6 : t.2.2.1[0] ≤ -1 := by omega
            simp [h4, h6]
          · have h6 : ¬ t.2.2.1[0] ≤ -1 := by omega
            have h7 : (0 : Int) ≤ t.2.2.1[0] := by omega
            by_cases h5 : (t.2.1.length : Int) ≤ t.2.2.1[0]
            · simp [h4, h5]
            · have h9 : t.2.2.1[0] < (t.2.1.length : Int) := by omega
              cases bb <;> simp [h4, h5, h6, h7, h9]
        · have h0 : 0 < i := by omega
          have hp := hp h0
          generalize t.2.2.1.getD (i - 1) 0 = pv at *
          by_cases h4 : t.2.2.1[i] ≤ pv
          · simp [h4, h8, h0]
          · have h6 : ¬ t.2.2.1[i] < 0 := by omega
            have h7 : 0 ≤ t.2.2.1[i] := by omega
            by_cases h5 : (t.2.1.length : Int) ≤ t.2.2.1[i]
            · simp [h4, h5, h8]
            · have h9 : t.2.2.1[i] < (t.2.1.length : Int) := by omega
              cases bb <;> simp [h4, h5, h6, h7, h8, h9]
      · simp only
        rw [cond_neg (nlt_len (Nat.lt_irrefl _)), ltI_dec, cond_dec]
        by_cases h0 : t.2.2.1.length = 0
        · simp [h0]
        · have := hprev _ (Nat.le_refl _) hf (by omega)
          rw [if_neg h0, if_neg h0, if_neg (by omega)]
      · cases firstE (pkE t.2.1 t.2.2.1) t.2.2.1.length <;> rfl
    · cases firstE (colE t.2.1) t.2.1.length with
      | some e => rfl
      | none => cases firstE (pkE t.2.1 t.2.2.1) t.2.2.1.length <;> rfl

end
end Go.Proofs.YtjjfjgpjbhjpfaaGreatDoor

/- Foreign keys, constraints, schemas: both checks say the same. -/
namespace Go.Proofs.YtjjfjgpjbhjpfaaGreatDoor
open Go.Vi
noncomputable section

theorem idxE_any {α : Type} (q : α → Bool) (xs : List α) : (idxE q xs).isSome = xs.any q := by
  cases h : idxE q xs with
  | none =>
    have := idxE_none h
    rw [Option.isSome_none, eq_comm, Bool.eq_false_iff]
    simp only [ne_eq, List.any_eq_true, not_exists, not_and]
    intro x hx
    rw [this x hx]
    simp
  | some i =>
    obtain ⟨hi, h1, _⟩ := idxE_some h
    rw [Option.isSome_some, eq_comm, List.any_eq_true]
    exact ⟨_, List.getElem_mem hi, h1⟩

/-- The tables' keys lie among their columns. -/
def KeysIn (s : D_api_Schema) : Prop := ∀ t ∈ s.1, ∀ k ∈ t.2.2.1, 0 ≤ k ∧ k < (t.2.1.length : Int)

theorem tabOf_some {s : D_api_Schema} {n : List UInt8} {t : D_api_Table} (h : tabOf s n = some t) : t ∈ s.1 := by
  unfold tabOf at h
  cases hi : idxE (isTab n) s.1 with
  | none => rw [hi] at h; cases h
  | some i =>
    rw [hi] at h
    exact List.mem_of_getElem? h
theorem tabOf_idx (s : D_api_Schema) (n : List UInt8) : (idxE (isTab n) s.1 = none ∧ tabOf s n = none) ∨ ∃ i t, idxE (isTab n) s.1 = some i ∧ tabOf s n = some t ∧ i < s.1.length ∧ ∀ d, lget s.1 (i : Int) d = t := by
  unfold tabOf
  cases h : idxE (isTab n) s.1 with
  | none => exact .inl ⟨rfl, rfl⟩
  | some i =>
    obtain ⟨hi, _⟩ := idxE_some h
    exact .inr ⟨i, s.1[i], rfl, by simp [hi], hi, fun d => lget_at d hi⟩

/-! ## Foreign keys -/
def fkE (t r : D_api_Table) (cs : List Int) (j : Nat) : Option Int := match cs[j]? with
  | none => none
  | some c => if c < 0 ∨ (t.2.1.length : Int) ≤ c then some 3 else if (lget t.2.1 c colD).2.1 ≠ (lget r.2.1 (r.2.2.1.getD j 0) colD).2.1 then some 7 else none
def vFk (s : D_api_Schema) (f : D_api_ForeignKey) : Int := match tabOf s f.1, tabOf s f.2.2.1 with
  | some t, some r => if f.2.1.length ≠ r.2.2.1.length then 3 else match firstE (fkE t r f.2.1) f.2.1.length with
    | some e => e
    | none => 0
  | _, _ => 4

theorem ne_len {α β : Type} (xs : List α) (ys : List β) : neI (lenI xs) (lenI ys) = decide (xs.length ≠ ys.length) := by
  rw [neI_dec, lenI_def, lenI_def, ← decide_not]; exact decide_eq_decide.2 (by omega)

theorem schFk_eq (N : Nat) (s : D_api_Schema) (f : D_api_ForeignKey) (hB : N ≤ 1099511627776) (ht : s.1.length < N) (hf : f.2.1.length < N) (hv : KeysIn s) : F_schema_validateForeignKey N (s, (f, ())) = some ((vFk s f, ()), ()) := by
  simp only [F_schema_validateForeignKey, letJ_def]
  rw [findTable_eq N s f.1 ht hB, findTable_eq N s f.2.2.1 ht hB]
  simp only [oSome_some, oGet_some, cond_true, vFk]
  rcases tabOf_idx s f.1 with ⟨h1, h2⟩ | ⟨i, t, h1, h2, h3, h4⟩
  · rw [h1, h2]; rfl
  rcases tabOf_idx s f.2.2.1 with ⟨g1, g2⟩ | ⟨k, r, g1, g2, g3, g4⟩
  · rw [g1, g2, h1, h2]; rfl
  rw [h1, h2, g1, g2]
  simp only [Option.isSome_some, Bool.not_true, Bool.or_self, cond_false, Option.getD_some, inB_len h3, inB_len g3, Bool.and_self, cond_true, h4, g4, ne_len, cond_dec]
  by_cases hl : f.2.1.length ≠ r.2.2.1.length
  · rw [if_pos hl, if_pos hl]
  rw [if_neg hl, if_neg hl]
  have hl : f.2.1.length = r.2.2.1.length := by omega
  have hr := hv r (tabOf_some g2)
  refine (iterF_first (S := Int × Unit) (fun i => ((i : Int), ())) f.2.1.length (fkE t r f.2.1) (fun e => some ((e, ()), ())) (some ((0, ()), ())) rfl (fun j hj _ ih => ?_) (fun _ ih => ?_) hf).trans ?_
  · simp only
    have hjr : j < r.2.2.1.length := by omega
    have e0 : r.2.2.1.getD j 0 = r.2.2.1[j] := by rw [List.getD_eq_getElem?_getD, List.getElem?_eq_getElem hjr]; rfl
    rw [cond_pos (lt_len hj), cond_pos (inB_len hj), lget_at _ hj, iadd_nat (by omega), inB_len hjr, lget_at _ hjr]
    simp only [fkE, List.getElem?_eq_getElem hj, e0]
    obtain ⟨q1, q2⟩ := hr _ (List.getElem_mem hjr)
    have e1 : ltI (f.2.1[j]) 0 = decide (f.2.1[j] < 0) := ltI_dec _ _
    have e2 : leI (lenI t.2.1) (f.2.1[j]) = decide ((t.2.1.length : Int) ≤ f.2.1[j]) := by rw [leI_dec, lenI_def]
    have e3 : inB (f.2.1[j]) (lenI t.2.1) = (decide (0 ≤ f.2.1[j]) && decide (f.2.1[j] < (t.2.1.length : Int))) := by rw [inB_def, lenI_def]
    have e4 : inB (r.2.2.1[j]) (lenI r.2.1) = true := by rw [inB_dec, lenI_def]; simp [q1, q2]
    rw [e1, e2, e3, e4]
    change (bif _ then _ else (bif _ then (bif neI (lget t.2.1 (f.2.1[j]) colD).2.1 (lget r.2.1 (r.2.2.1[j]) colD).2.1 then _ else _) else _)) = _
    by_cases h5 : f.2.1[j] < 0
    · simp [h5]
    by_cases h6 : (t.2.1.length : Int) ≤ f.2.1[j]
    · simp [h6]
    have h7 : 0 ≤ f.2.1[j] := by omega
    have h8 : f.2.1[j] < (t.2.1.length : Int) := by omega
    simp only [h5, h6, h7, h8, decide_false, decide_true, Bool.or_self, Bool.and_self, cond_false, cond_true, or_self, if_false, neI_dec, ← decide_not, cond_dec]
    split <;> rename_i hq <;> simp [hq]
  · simp only
    rw [cond_neg (nlt_len (Nat.lt_irrefl _))]
  · cases firstE (fkE t r f.2.1) f.2.1.length <;> rfl

theorem refFk_eq (N : Nat) (s : D_api_Schema) (f : D_api_ForeignKey) (hB : N ≤ 1099511627776) (ht : s.1.length < N) (hf : f.2.1.length < N) (hv : KeysIn s) : F_stemref2_validateForeignKey N (s, (f, ())) = some ((vFk s f, ()), ()) := by
  simp only [F_stemref2_validateForeignKey, letJ_def]
  rw [refFind_eq N s f.1 ht hB, refFind_eq N s f.2.2.1 ht hB]
  simp only [oSome_some, oGet_some, Bool.and_self, cond_true, vFk]
  cases h2 : tabOf s f.1 with
  | none => rw [oSome_none]; rfl
  | some t =>
  cases g2 : tabOf s f.2.2.1 with
  | none => rw [oSome_none, oSome_some]; rfl
  | some r =>
  simp only [oSome_some, oGet_some, Bool.not_true, Bool.or_self, cond_false, cond_true, ne_len, cond_dec]
  by_cases hl : f.2.1.length ≠ r.2.2.1.length
  · rw [if_pos hl, if_pos hl]
  rw [if_neg hl, if_neg hl]
  have hl : f.2.1.length = r.2.2.1.length := by omega
  have hr := hv r (tabOf_some g2)
  refine (iterF_first (S := Int × Unit) (fun i => ((i : Int), ())) f.2.1.length (fkE t r f.2.1) (fun e => some ((e, ()), ())) (some ((0, ()), ())) rfl (fun j hj _ ih => ?_) (fun _ ih => ?_) hf).trans ?_
  · simp only
    have hjr : j < r.2.2.1.length := by omega
    have e0 : r.2.2.1.getD j 0 = r.2.2.1[j] := by rw [List.getD_eq_getElem?_getD, List.getElem?_eq_getElem hjr]; rfl
    rw [cond_pos (lt_len hj), cond_pos (inB_len hj), lget_at _ hj, iadd_nat (by omega), inB_len hjr, lget_at _ hjr]
    simp only [fkE, List.getElem?_eq_getElem hj, e0]
    obtain ⟨q1, q2⟩ := hr _ (List.getElem_mem hjr)
    have e1 : ltI (f.2.1[j]) 0 = decide (f.2.1[j] < 0) := ltI_dec _ _
    have e2 : leI (lenI t.2.1) (f.2.1[j]) = decide ((t.2.1.length : Int) ≤ f.2.1[j]) := by rw [leI_dec, lenI_def]
    have e3 : inB (f.2.1[j]) (lenI t.2.1) = (decide (0 ≤ f.2.1[j]) && decide (f.2.1[j] < (t.2.1.length : Int))) := by rw [inB_def, lenI_def]
    have e4 : inB (r.2.2.1[j]) (lenI r.2.1) = true := by rw [inB_dec, lenI_def]; simp [q1, q2]
    rw [e1, e2, e3, e4]
    change (bif _ then (bif _ then _ else (bif _ then (bif neI (lget t.2.1 (f.2.1[j]) colD).2.1 (lget r.2.1 (r.2.2.1[j]) colD).2.1 then _ else _) else _)) else _) = _
    by_cases h5 : f.2.1[j] < 0
    · simp [h5]
    by_cases h6 : (t.2.1.length : Int) ≤ f.2.1[j]
    · simp [h6]
    have h7 : 0 ≤ f.2.1[j] := by omega
    have h8 : f.2.1[j] < (t.2.1.length : Int) := by omega
    simp only [h5, h6, h7, h8, decide_false, decide_true, Bool.or_self, Bool.and_self, Bool.or_true, cond_false, cond_true, or_self, if_false, neI_dec, ← decide_not, cond_dec]
    split <;> rename_i hq <;> simp [hq]
  · simp only
    rw [cond_neg (nlt_len (Nat.lt_irrefl _))]
  · cases firstE (fkE t r f.2.1) f.2.1.length <;> rfl

/-! ## Values -/
def vVal (v : D_api_Value) : Int :=
  if v.1 < 0 ∨ 3 < v.1 then 7 else if (v.1 ≠ 3 ∧ v.2.2.1 ≠ []) ∨ ((v.1 = 0 ∨ v.1 = 3) ∧ v.2.1 ≠ 0) then 3
  else if (v.1 = 2 ∧ (v.2.1 < 0 ∨ 1 < v.2.1)) ∨ 1000000000000 < v.2.1 ∨ v.2.1 < -1000000000000 then 1 else if 24 < v.2.2.1.length then 2 else 0
theorem len24 (s : List UInt8) : ltI 24 (lenI s) = decide (24 < s.length) := gt_dec s 24
theorem refVal_eq (N : Nat) (v : D_api_Value) : F_stemref2_ValidateValue N (v, ()) = some ((vVal v, ()), ()) := by
  obtain ⟨k, n, s, ⟨⟩⟩ := v
  simp only [F_stemref2_ValidateValue, letJ_def, vVal, ltI_dec, neI_dec, eqI_dec, eqS_dec, lenI_def]
  simp only [condI, Bool.or_eq_true, Bool.and_eq_true, decide_eq_true_eq, Bool.not_eq_true', decide_eq_false_iff_not]
  grind
theorem schVal_eq (N : Nat) (v : D_api_Value) : F_value_Validate N (v, ()) = some ((vVal v, ()), ()) := by
  obtain ⟨k, n, s, ⟨⟩⟩ := v
  simp only [F_value_Validate, letJ_def, vVal, ltI_dec, neI_dec, eqI_dec, eqS_dec, lenI_def]
  simp only [condI, Bool.or_eq_true, Bool.and_eq_true, decide_eq_true_eq, Bool.not_eq_true', decide_eq_false_iff_not]
  by_cases k0 : k = 0
  · subst k0; grind
  by_cases k1 : k = 1
  · subst k1; grind
  by_cases k2 : k = 2
  · subst k2; grind
  by_cases k3 : k = 3
  · subst k3; grind
  grind

/-! ## Constraints -/
def opOk (o : List UInt8) : Bool := decide (o = [61]) || (decide (o = [60]) || decide (o = [60, 61]))
def vZero (v : D_api_Value) : Bool := decide (v.1 = 0) && (decide (v.2.1 = 0) && decide (v.2.2.1 = []))
def vCon (s : D_api_Schema) (c : D_api_Constraint) : Int := match tabOf s c.1 with
  | none => 4
  | some t => if c.2.1 < 0 ∨ (t.2.1.length : Int) ≤ c.2.1 ∨ opOk c.2.2.1 = false ∨ c.2.2.2.1 < -1 ∨ (t.2.1.length : Int) ≤ c.2.2.2.1 ∨ (0 ≤ c.2.2.2.1 ∧ vZero c.2.2.2.2.1 = false) then 3
    else if 0 ≤ c.2.2.2.1 then (if (lget t.2.1 c.2.1 colD).2.1 ≠ (lget t.2.1 c.2.2.2.1 colD).2.1 then 7 else 0)
    else if c.2.2.2.2.1.1 ≠ (lget t.2.1 c.2.1 colD).2.1 then 7 else vVal c.2.2.2.2.1

theorem satisfies_op (N : Nat) (o : List UInt8) : ∃ b, F_value_Satisfies N ((0, (0, (([] : List UInt8), ()))), (o, ((0, (0, (([] : List UInt8), ()))), ()))) = some ((b, (if opOk o = true then 0 else 3, ())), ()) := by
  simp only [F_value_Satisfies, letJ_def, eqS_dec, eqI_dec, opOk]
  by_cases h1 : o = [61]
  · exact ⟨true, by simp [h1]⟩
  by_cases h2 : o = [60]
  · exact ⟨true, by simp [h2]⟩
  by_cases h3 : o = [60, 61]
  · exact ⟨true, by simp [h3]⟩
  · exact ⟨false, by simp [h1, h2, h3]⟩

theorem schCon_eq (N : Nat) (s : D_api_Schema) (c : D_api_Constraint) (hB : N ≤ 1099511627776) (ht : s.1.length < N) : F_schema_validateConstraint N (s, (c, ())) = some ((vCon s c, ()), ()) := by
  obtain ⟨b, hb⟩ := satisfies_op N c.2.2.1
  simp only [F_schema_validateConstraint, letJ_def]
  rw [findTable_eq N s c.1 ht hB, hb, schVal_eq]
  simp only [oSome_some, oGet_some, cond_true, vCon]
  rcases tabOf_idx s c.1 with ⟨h1, h2⟩ | ⟨i, t, h1, h2, h3, h4⟩
  · rw [h1, h2]; rfl
  rw [h1, h2]
  simp only [Option.isSome_some, Bool.not_true, cond_false, Option.getD_some, inB_len h3, cond_true, h4]
  obtain ⟨c1, l, o, r, v, ⟨⟩⟩ := c
  simp only at *
  have e1 : ltI l 0 = decide (l < 0) := ltI_dec _ _
  have e2 : leI (lenI t.2.1) l = decide ((t.2.1.length : Int) ≤ l) := by rw [leI_dec, lenI_def]
  have e3 : neI (if opOk o = true then 0 else 3) 0 = !opOk o := by rw [neI_dec]; cases opOk o <;> simp
  have e4 : ltI r (-1) = decide (r < -1) := ltI_dec _ _
  have e5 : leI (lenI t.2.1) r = decide ((t.2.1.length : Int) ≤ r) := by rw [leI_dec, lenI_def]
  have e6 : leI 0 r = decide (0 ≤ r) := leI_dec _ _
  have e7 : (eqI v.1 0 && (eqI v.2.1 0 && eqS v.2.2.1 [])) = vZero v := by simp only [eqI_dec, eqS_dec, vZero]
  have e8 : inB l (lenI t.2.1) = (decide (0 ≤ l) && decide (l < (t.2.1.length : Int))) := by rw [inB_def, lenI_def]
  have e9 : inB r (lenI t.2.1) = (decide (0 ≤ r) && decide (r < (t.2.1.length : Int))) := by rw [inB_def, lenI_def]
  rw [e1, e2, e3, e4, e5, e6, e7, e8, e9]
  change (bif _ then _ else (bif _ then (bif _ then (bif neI (lget t.2.1 l colD).2.1 (lget t.2.1 r colD).2.1 then _ else _) else _) else (bif _ then (bif neI v.1 (lget t.2.1 l colD).2.1 then _ else _) else _))) = _
  rw [neI_dec, neI_dec]
  generalize (lget t.2.1 l colD).2.1 = kl
  generalize (lget t.2.1 r colD).2.1 = kr
  simp only [condI, Bool.or_eq_true, Bool.and_eq_true, decide_eq_true_eq, Bool.not_eq_true', decide_eq_false_iff_not]
  generalize vVal v = vv
  generalize vZero v = vz
  generalize opOk o = oo
  cases vz <;> cases oo <;> grind

theorem refCon_eq (N : Nat) (s : D_api_Schema) (c : D_api_Constraint) (hB : N ≤ 1099511627776) (ht : s.1.length < N) : F_stemref2_validateConstraint N (s, (c, ())) = some ((vCon s c, ()), ()) := by
  have hop : F_stemref2_ValidOp N (c.2.2.1, ()) = some ((opOk c.2.2.1, ()), ()) := by
    simp only [F_stemref2_ValidOp, eqS_dec, opOk, Bool.or_assoc]
  simp only [F_stemref2_validateConstraint, letJ_def]
  rw [refFind_eq N s c.1 ht hB, hop, refVal_eq]
  simp only [oSome_some, oGet_some, cond_true, vCon]
  cases h2 : tabOf s c.1 with
  | none => rw [oSome_none]; rfl
  | some t =>
  simp only [oSome_some, oGet_some, Bool.not_true, cond_false, cond_true, Bool.or_true]
  obtain ⟨c1, l, o, r, v, ⟨⟩⟩ := c
  simp only at *
  have e1 : ltI l 0 = decide (l < 0) := ltI_dec _ _
  have e2 : leI (lenI t.2.1) l = decide ((t.2.1.length : Int) ≤ l) := by rw [leI_dec, lenI_def]
  have e4 : ltI r (-1) = decide (r < -1) := ltI_dec _ _
  have e5 : leI (lenI t.2.1) r = decide ((t.2.1.length : Int) ≤ r) := by rw [leI_dec, lenI_def]
  have e6 : neI r (-1) = !decide (r = -1) := neI_dec _ _
  have e7 : (eqI v.1 0 && (eqI v.2.1 0 && eqS v.2.2.1 [])) = vZero v := by simp only [eqI_dec, eqS_dec, vZero]
  have e8 : inB l (lenI t.2.1) = (decide (0 ≤ l) && decide (l < (t.2.1.length : Int))) := by rw [inB_def, lenI_def]
  have e9 : inB r (lenI t.2.1) = (decide (0 ≤ r) && decide (r < (t.2.1.length : Int))) := by rw [inB_def, lenI_def]
  rw [e1, e2, e4, e5, e6, e7, e8, e9]
  change (bif _ then _ else (bif _ then (bif _ then (bif neI (bif _ then (lget t.2.1 r colD).2.1 else v.1) (lget t.2.1 l colD).2.1 then _ else _) else _) else _)) = _
  rw [neI_dec]
  generalize (lget t.2.1 l colD).2.1 = kl
  generalize (lget t.2.1 r colD).2.1 = kr
  simp only [condI, Bool.or_eq_true, Bool.and_eq_true, decide_eq_true_eq, Bool.not_eq_true', decide_eq_false_iff_not]
  generalize vVal v = vv
  generalize vZero v = vz
  generalize opOk o = oo
  cases vz <;> cases oo <;> grind

/-! ## Schemas -/
def tabL (ts : List D_api_Table) (i : Nat) : Option Int := match ts[i]? with
  | none => none
  | some t => if vTab t ≠ 0 then some (vTab t) else if 0 < i ∧ bless (lget ts ((i : Int) - 1) (([] : List UInt8), (([] : List D_api_Column), (([] : List Int), ())))).1 t.1 = false then some 6 else none
open Classical in
def fkL (s : D_api_Schema) (i : Nat) : Option Int := match s.2.1[i]? with
  | none => none
  | some f => if vFk s f ≠ 0 then some (vFk s f) else if f ∈ s.2.1.take i then some 5 else none
open Classical in
def conL (s : D_api_Schema) (i : Nat) : Option Int := match s.2.2.1[i]? with
  | none => none
  | some c => if vCon s c ≠ 0 then some (vCon s c) else if c ∈ s.2.2.1.take i then some 5 else none
def vSch (s : D_api_Schema) : Int := if 6 < s.1.length ∨ 8 < s.2.1.length ∨ 8 < s.2.2.1.length then 2 else match firstE (tabL s.1) s.1.length with
  | some e => e
  | none => match firstE (fkL s) s.2.1.length with
    | some e => e
    | none => match firstE (conL s) s.2.2.1.length with
      | some e => e
      | none => 0

theorem keysIn_of {s : D_api_Schema} (h : firstE (tabL s.1) s.1.length = none) : KeysIn s := fun t ht k hk => by
  obtain ⟨i, hi, rfl⟩ := List.getElem_of_mem ht
  have := firstE_none h i hi
  simp only [tabL, List.getElem?_eq_getElem hi] at this
  split at this
  · cases this
  rename_i hv
  have hv : vTab s.1[i] = 0 := by simpa using hv
  unfold vTab at hv
  split at hv
  · cases hv
  split at hv
  · cases hv
  split at hv
  · cases hv
  split at hv
  · rename_i e he
    obtain ⟨j, h1, h2, _⟩ := firstE_some he
    simp only [colE, List.getElem?_eq_getElem h1] at h2
    subst hv
    split at h2
    · cases h2
    split at h2
    · cases h2
    split at h2 <;> cases h2
  split at hv
  · rename_i e he
    obtain ⟨j, h1, h2, _⟩ := firstE_some he
    simp only [pkE, List.getElem?_eq_getElem h1] at h2
    subst hv
    split at h2 <;> cases h2
  rename_i hpk
  obtain ⟨j, hj, rfl⟩ := List.getElem_of_mem hk
  have := firstE_none hpk j hj
  simp only [pkE, List.getElem?_eq_getElem hj] at this
  split at this
  · cases this
  · rename_i hc
    simp only [not_or] at hc
    omega

structure SSmall (N : Nat) (s : D_api_Schema) : Prop where
  sm : Small N s
  m : 100 < N
theorem SSmall.tab {N : Nat} {s : D_api_Schema} (h : SSmall N s) {t : D_api_Table} (ht : t ∈ s.1) : TSmall N t :=
  ⟨h.sm.n, h.m, h.sm.tn t ht, h.sm.tc t ht, h.sm.tk t ht, h.sm.cn t ht⟩

theorem gt3 (s : D_api_Schema) : ((ltI 6 (lenI s.1) || ltI 8 (lenI s.2.1)) || ltI 8 (lenI s.2.2.1)) = decide (6 < s.1.length ∨ 8 < s.2.1.length ∨ 8 < s.2.2.1.length) := by
  rw [show ltI 6 (lenI s.1) = decide (6 < s.1.length) from gt_dec _ 6, show ltI 8 (lenI s.2.1) = decide (8 < s.2.1.length) from gt_dec _ 8, show ltI 8 (lenI s.2.2.1) = decide (8 < s.2.2.1.length) from gt_dec _ 8, ← Bool.decide_or, ← Bool.decide_or]
  exact decide_eq_decide.2 or_assoc

/-- Is it among the first? -/
theorem index_con (N : Nat) (xs : List D_api_Constraint) (c : D_api_Constraint) (hN : xs.length < N) (hb : xs.length ≤ 1099511627776) : F_slices_Index_api_Constraint N (xs, (c, ())) = some ((idxI (fun x => decide (c = x)) xs, ()), ()) := by
  simp only [F_slices_Index_api_Constraint]
  refine (iterF_first (S := Int × Unit) (fun i => ((i : Int), ())) xs.length (atE (fun x => decide (c = x)) xs) (fun i => some (((i : Int), ()), ())) (some ((-1, ()), ())) rfl (fun i hi _ ih => ?_) (fun _ ih => ?_) hN).trans ?_
  · simp only
    rw [cond_pos (lt_len hi), cond_pos (inB_len hi), lget_at _ hi, iadd_nat (by omega)]
    simp only [atE, List.getElem?_eq_getElem hi]
    generalize xs[i] = x
    obtain ⟨a1, a2, a3, a4, ⟨a5, a6, a7, ⟨⟩⟩, ⟨⟩⟩ := c
    obtain ⟨b1, b2, b3, b4, ⟨b5, b6, b7, ⟨⟩⟩, ⟨⟩⟩ := x
    simp only [eqS_dec, eqI_dec, Prod.mk.injEq, and_true, ← Bool.decide_and, cond_dec, decide_eq_true_eq]
    split <;> rename_i hq <;> simp [hq]
  · simp only
    rw [cond_neg (nlt_len (Nat.lt_irrefl _))]
  · rw [idxI, idxE]
    cases firstE (atE (fun x => decide (c = x)) xs) xs.length <;> rfl
theorem contains_con (N : Nat) (xs : List D_api_Constraint) (c : D_api_Constraint) (hN : xs.length < N) (hb : xs.length ≤ 1099511627776) : F_slices_Contains_api_Constraint N (xs, (c, ())) = some ((decide (c ∈ xs), ()), ()) := by
  simp only [F_slices_Contains_api_Constraint, index_con N xs c hN hb, oSome_some, oGet_some, cond_true, leI_idx, idxE_any]
  congr 3
  rw [Bool.eq_iff_iff]
  simp
theorem contains_fk (N : Nat) (xs : List D_api_ForeignKey) (f : D_api_ForeignKey) (hN : xs.length < N) (hB : N ≤ 1099511627776) (hc : ∀ x ∈ xs, x.2.1.length < N) :
    F_slices_ContainsFunc_api_ForeignKey N (xs, ((fun x6 => (omap (fun y7 => (y7.1.1, ())) (F_schema_Validate_1 N (x6.1, (f, ()))))), ())) = some ((decide (f ∈ xs), ()), ()) := by
  simp only [F_slices_ContainsFunc_api_ForeignKey]
  have h := indexFunc_form (fun x6 => (omap (fun y7 : ((Bool × Unit) × Unit) => (y7.1.1, ())) (F_schema_Validate_1 N (x6.1, (f, ()))))) (fun x => decide (x = f)) xs (fun a ha => by simp only [F_schema_Validate_1, equalFk_eq N a f (hc a ha) hB, oSome_some, oGet_some, cond_true, omap_def, Option.map_some]) (([] : List UInt8), (([] : List Int), (([] : List UInt8), ()))) N hN (by omega)
  rw [show F_slices_IndexFunc_api_ForeignKey N (xs, ((fun x6 => (omap (fun y7 => (y7.1.1, ())) (F_schema_Validate_1 N (x6.1, (f, ()))))), ())) = some ((idxI (fun x => decide (x = f)) xs, ()), ()) from h]
  simp only [oSome_some, oGet_some, cond_true, leI_idx, idxE_any]
  congr 3
  rw [Bool.eq_iff_iff]
  simp

theorem schSch_eq (N : Nat) (s : D_api_Schema) (h : SSmall N s) : F_schema_Validate N (s, ()) = some ((vSch s, ()), ()) := by
  have hn := h.sm.n
  have ht := h.sm.t
  have hf := h.sm.f
  have hc := h.sm.c
  simp only [F_schema_Validate, letJ_def, gt3, cond_dec]
  unfold vSch
  by_cases h0 : 6 < s.1.length ∨ 8 < s.2.1.length ∨ 8 < s.2.2.1.length
  · rw [if_pos h0, if_pos h0]
  rw [if_neg h0, if_neg h0]
  refine (iterF_first (S := Int × Unit) (fun i => ((i : Int), ())) s.1.length (tabL s.1) (fun e => some ((e, ()), ())) (some ((match firstE (fkL s) s.2.1.length with
    | some e => e
    | none => match firstE (conL s) s.2.2.1.length with
      | some e => e
      | none => 0, ()), ())) rfl (fun i hi _ ih => ?_) (fun hk ih => ?_) ht).trans ?_
  · simp only
    rw [cond_pos (lt_len hi), cond_pos (inB_len hi), lget_at _ hi, schTable_eq N _ (h.tab (List.getElem_mem hi)), iadd_nat (by omega)]
    simp only [oSome_some, oGet_some, cond_true, tabL, List.getElem?_eq_getElem hi, neI_dec, ← decide_not, cond_dec]
    by_cases h1 : vTab s.1[i] = 0
    · have e4 : ltI 0 (i : Int) = decide (0 < i) := by rw [ltI_dec]; exact decide_eq_decide.2 (by omega)
      rw [if_neg (by simp [h1]), if_neg (by simp [h1]), e4]
      by_cases h8 : 0 < i
      · have e5 : isub .i64 (i : Int) 1 = (i : Int) - 1 := isub64 (by omega) (by omega)
        have e6 : inB ((i : Int) - 1) (lenI s.1) = true := by rw [inB_dec, lenI_def]; simp; omega
        rw [e5, e6, bless_total]
        cases bless (lget s.1 ((i : Int) - 1) (([] : List UInt8), (([] : List D_api_Column), (([] : List Int), ())))).1 (s.1[i]).1 <;> simp [h8]
      · simp [h8]
    · rw [if_pos h1, if_pos h1]
  · simp only
    have hv := keysIn_of hk
    rw [cond_neg (nlt_len (Nat.lt_irrefl _))]
    refine (iterF_first (S := Int × Unit) (fun i => ((i : Int), ())) s.2.1.length (fkL s) (fun e => some ((e, ()), ())) (some ((match firstE (conL s) s.2.2.1.length with
      | some e => e
      | none => 0, ()), ())) rfl (fun i hi _ ih => ?_) (fun _ ih => ?_) hf).trans ?_
    · simp only
      rw [cond_pos (lt_len hi), cond_pos (inB_len hi), lget_at _ hi, schFk_eq N s _ hn ht (h.sm.fc _ (List.getElem_mem hi)) hv, iadd_nat (by omega), slice_to, contains_fk N (s.2.1.take i) _ (by rw [List.length_take]; omega) hn (fun x hx => h.sm.fc x (List.mem_of_mem_take hx))]
      have e5 : inS 0 (i : Int) (lenI s.2.1) = true := by rw [inS_dec, lenI_def]; simp; omega
      simp only [oSome_some, oGet_some, cond_true, fkL, List.getElem?_eq_getElem hi, neI_dec, ← decide_not, cond_dec, e5, Bool.and_self]
      by_cases h1 : vFk s s.2.1[i] = 0
      · simp only [h1, ne_eq, not_true_eq_false, if_false]
        by_cases h2 : s.2.1[i] ∈ s.2.1.take i
        · rw [if_pos h2, if_pos h2]
        · rw [if_neg h2, if_neg h2]
      · rw [if_pos h1, if_pos h1]
    · simp only
      rw [cond_neg (nlt_len (Nat.lt_irrefl _))]
      refine (iterF_first (S := Int × Unit) (fun i => ((i : Int), ())) s.2.2.1.length (conL s) (fun e => some ((e, ()), ())) (some ((0, ()), ())) rfl (fun i hi _ ih => ?_) (fun _ ih => ?_) hc).trans ?_
      · simp only
        rw [cond_pos (lt_len hi), cond_pos (inB_len hi), lget_at _ hi, schCon_eq N s _ hn ht, iadd_nat (by omega), slice_to, contains_con N (s.2.2.1.take i) _ (by rw [List.length_take]; omega) (by rw [List.length_take]; omega)]
        have e5 : inS 0 (i : Int) (lenI s.2.2.1) = true := by rw [inS_dec, lenI_def]; simp; omega
        simp only [oSome_some, oGet_some, cond_true, conL, List.getElem?_eq_getElem hi, neI_dec, ← decide_not, cond_dec, e5, Bool.and_self]
        by_cases h1 : vCon s s.2.2.1[i] = 0
        · simp only [h1, ne_eq, not_true_eq_false, if_false]
          by_cases h2 : s.2.2.1[i] ∈ s.2.2.1.take i
          · rw [if_pos h2, if_pos h2]
          · rw [if_neg h2, if_neg h2]
        · rw [if_pos h1, if_pos h1]
      · simp only
        rw [cond_neg (nlt_len (Nat.lt_irrefl _))]
      · cases firstE (conL s) s.2.2.1.length <;> rfl
    · cases firstE (fkL s) s.2.1.length <;> rfl
  · cases firstE (tabL s.1) s.1.length <;> rfl

theorem fk_ids (xs : List D_api_ForeignKey) (f : D_api_ForeignKey) : fkC f ∈ xs.map fkC ↔ f ∈ xs := by
  constructor
  · intro h
    obtain ⟨x, hx, he⟩ := List.mem_map.1 h
    rw [fkC_inj he] at hx
    exact hx
  · exact fun h => List.mem_map_of_mem h

theorem refSch_eq (N : Nat) (s : D_api_Schema) (h : SSmall N s) (hid : ∀ f ∈ s.2.1, (fkC f).length ≤ 1099511627776) : F_stemref2_ValidateSchema N (s, ()) = some ((vSch s, ()), ()) := by
  have hn := h.sm.n
  have ht := h.sm.t
  have hf := h.sm.f
  have hc := h.sm.c
  simp only [F_stemref2_ValidateSchema, letJ_def, gt3, cond_dec]
  unfold vSch
  by_cases h0 : 6 < s.1.length ∨ 8 < s.2.1.length ∨ 8 < s.2.2.1.length
  · rw [if_pos h0, if_pos h0]
  rw [if_neg h0, if_neg h0]
  refine (iterF_first (S := Int × Unit) (fun i => ((i : Int), ())) s.1.length (tabL s.1) (fun e => some ((e, ()), ())) (some ((match firstE (fkL s) s.2.1.length with
    | some e => e
    | none => match firstE (conL s) s.2.2.1.length with
      | some e => e
      | none => 0, ()), ())) rfl (fun i hi _ ih => ?_) (fun hk ih => ?_) ht).trans ?_
  · simp only
    rw [cond_pos (lt_len hi), cond_pos (inB_len hi), lget_at _ hi, refTable_eq N _ (h.tab (List.getElem_mem hi)), iadd_nat (by omega)]
    simp only [oSome_some, oGet_some, cond_true, tabL, List.getElem?_eq_getElem hi, neI_dec, ← decide_not, cond_dec]
    by_cases h1 : vTab s.1[i] = 0
    · have e4 : ltI 0 (i : Int) = decide (0 < i) := by rw [ltI_dec]; exact decide_eq_decide.2 (by omega)
      rw [if_neg (by simp [h1]), if_neg (by simp [h1]), e4]
      by_cases h8 : 0 < i
      · have e5 : isub .i64 (i : Int) 1 = (i : Int) - 1 := isub64 (by omega) (by omega)
        have e6 : inB ((i : Int) - 1) (lenI s.1) = true := by rw [inB_dec, lenI_def]; simp; omega
        rw [e5, e6]
        cases bless (lget s.1 ((i : Int) - 1) (([] : List UInt8), (([] : List D_api_Column), (([] : List Int), ())))).1 (s.1[i]).1 <;> simp [h8]
      · simp [h8]
    · rw [if_pos h1, if_pos h1]
  · simp only
    have hv := keysIn_of hk
    rw [cond_neg (nlt_len (Nat.lt_irrefl _))]
    refine (iterF_first (S := (List ((List UInt8) × Int)) × (Int × Unit)) (fun i => (cntM ((s.2.1.take i).map fkC), ((i : Int), ()))) s.2.1.length (fkL s) (fun e => some ((e, ()), ())) (some ((match firstE (conL s) s.2.2.1.length with
      | some e => e
      | none => 0, ()), ())) rfl (fun i hi _ ih => ?_) (fun _ ih => ?_) hf).trans ?_
    · simp only
      have hm := List.getElem_mem hi
      have hlen : ((s.2.1.take i).map fkC).length < 4611686018427387904 := by rw [List.length_map, List.length_take]; omega
      have q := h.sm.fc _ hm
      rw [cond_pos (lt_len hi), cond_pos (inB_len hi), lget_at _ hi, refFk_eq N s _ hn ht q hv, iadd_nat (by omega), foreignKeyID_eq N _ q (hid _ hm) (by omega)]
      simp only [oSome_some, oGet_some, cond_true]
      rw [cntM_twice _ hlen, ← cntM_snoc]
      have e0 : (s.2.1.take i).map fkC ++ [fkC s.2.1[i]] = (s.2.1.take (i + 1)).map fkC := by rw [take_snoc hi, List.map_append]; rfl
      simp only [fkL, List.getElem?_eq_getElem hi, neI_dec, ← decide_not, cond_dec, e0, fk_ids]
      by_cases h1 : vFk s s.2.1[i] = 0
      · simp only [h1, ne_eq, not_true_eq_false, if_false]
        by_cases h2 : s.2.1[i] ∈ s.2.1.take i
        · rw [if_pos h2, if_pos h2]
        · rw [if_neg h2, if_neg h2]
      · rw [if_pos h1, if_pos h1]
    · simp only
      rw [cond_neg (nlt_len (Nat.lt_irrefl _))]
      refine (iterF_first (S := Int × Unit) (fun i => ((i : Int), ())) s.2.2.1.length (conL s) (fun e => some ((e, ()), ())) (some ((0, ()), ())) rfl (fun i hi _ ih => ?_) (fun _ ih => ?_) hc).trans ?_
      · simp only
        rw [cond_pos (lt_len hi), cond_pos (inB_len hi), lget_at _ hi, refCon_eq N s _ hn ht, iadd_nat (by omega), slice_to]
        have e5 : inS 0 (i : Int) (lenI s.2.2.1) = true := by rw [inS_dec, lenI_def]; simp; omega
        simp only [oSome_some, oGet_some, cond_true, conL, List.getElem?_eq_getElem hi, neI_dec, ← decide_not, cond_dec, e5]
        by_cases h1 : vCon s s.2.2.1[i] = 0
        · simp only [h1, ne_eq, not_true_eq_false, if_false]
          have hlt : (s.2.2.1.take i).length < N := by rw [List.length_take]; omega
          refine (iterF_first (S := Int × Unit) (fun j => ((j : Int), ())) (s.2.2.1.take i).length (atE (fun x => decide (x = s.2.2.1[i])) (s.2.2.1.take i)) (fun _ => some ((5, ()), ())) (ih (((i + 1 : Nat) : Int), ())) rfl (fun j hj _ ih2 => ?_) (fun _ ih2 => ?_) hlt).trans ?_
          · simp only
            rw [cond_pos (lt_len hj), cond_pos (inB_len hj), lget_at _ hj, iadd_nat (by omega)]
            simp only [atE, List.getElem?_eq_getElem hj]
            generalize (s.2.2.1.take i)[j] = x
            generalize s.2.2.1[i] = c
            obtain ⟨a1, a2, a3, a4, ⟨a5, a6, a7, ⟨⟩⟩, ⟨⟩⟩ := c
            obtain ⟨b1, b2, b3, b4, ⟨b5, b6, b7, ⟨⟩⟩, ⟨⟩⟩ := x
            simp only [eqS_dec, eqI_dec, Prod.mk.injEq, and_true, ← Bool.decide_and, cond_dec, decide_eq_true_eq]
            split <;> rename_i hq <;> simp [hq]
          · simp only
            rw [cond_neg (nlt_len (Nat.lt_irrefl _))]
          · have e6 := idxE_any (fun x => decide (x = s.2.2.1[i])) (s.2.2.1.take i)
            unfold idxE at e6
            by_cases h2 : s.2.2.1[i] ∈ s.2.2.1.take i
            · have : (s.2.2.1.take i).any (fun x => decide (x = s.2.2.1[i])) = true := by simp only [List.any_eq_true, decide_eq_true_eq]; exact ⟨_, h2, rfl⟩
              rw [this] at e6
              obtain ⟨k, hk⟩ := Option.isSome_iff_exists.1 e6
              rw [hk, if_pos h2]
            · have : (s.2.2.1.take i).any (fun x => decide (x = s.2.2.1[i])) = false := by
                rw [List.any_eq_false]
                intro x hx he
                rw [decide_eq_true_eq] at he
                subst he
                exact h2 hx
              rw [this] at e6
              have hk : firstE (atE (fun x => decide (x = s.2.2.1[i])) (s.2.2.1.take i)) (s.2.2.1.take i).length = none := by simpa using e6
              rw [hk, if_neg h2]
        · rw [if_pos h1, if_pos h1]
      · simp only
        rw [cond_neg (nlt_len (Nat.lt_irrefl _))]
      · cases firstE (conL s) s.2.2.1.length <;> rfl
    · cases firstE (fkL s) s.2.1.length <;> rfl
  · cases firstE (tabL s.1) s.1.length <;> rfl

end
end Go.Proofs.YtjjfjgpjbhjpfaaGreatDoor

/- Rows in order, keys, finding. -/
namespace Go.Proofs.YtjjfjgpjbhjpfaaGreatDoor
open Go.Vi
noncomputable section

theorem compareInts_eq (N : Nat) (x y : Int) : F_value_compareInts N (x, (y, ())) = some ((ic x y, ()), ()) := by
  simp only [F_value_compareInts, letJ_def, ltI_def, condO, decide_eq_true_eq, ic]
  split
  · rfl
  · split <;> rfl
theorem strings_eq (N : Nat) (a b : List UInt8) : F_strings_Compare N (a, (b, ())) = some ((Lib.compareBytes a b, ()), ()) := by
  simp only [F_strings_Compare, F_internal_bytealg_CompareString, letJ_def, oSome_some, oGet_some, cond_true]
theorem compare_eq (N : Nat) (a b : D_api_Value) : F_value_Compare N (a, (b, ())) = some ((vc a b, ()), ()) := by
  simp only [F_value_Compare, letJ_def, compareInts_eq, strings_eq, oSome_some, oGet_some, cond_true, neI_dec, condO, Bool.not_eq_true', decide_eq_false_iff_not, vc]
  split
  · rfl
  · split <;> rfl
theorem less_eq (N : Nat) (a b : D_api_Value) : F_stemref2_LessValue N (a, (b, ())) = some ((decide (vc a b < 0), ()), ()) := by
  simp only [F_stemref2_LessValue, letJ_def, neI_dec, ltI_def, bless_cb]
  have h1 := ic_cases a.1 b.1
  have h2 := ic_cases a.2.1 b.2.1
  by_cases e1 : a.1 = b.1
  · have f1 : ic a.1 b.1 = 0 := by omega
    by_cases e2 : a.2.1 = b.2.1
    · have f2 : ic a.2.1 b.2.1 = 0 := by omega
      have : vc a b = Lib.compareBytes a.2.2.1 b.2.2.1 := by simp [vc, f1, f2]
      simp [e1, e2, this]
    · have f2 : ic a.2.1 b.2.1 ≠ 0 := by omega
      have h3 : vc a b = ic a.2.1 b.2.1 := by simp [vc, f1, f2]
      have h4 : a.2.1 < b.2.1 ↔ vc a b < 0 := by omega
      simp [e1, e2, h4]
  · have f1 : ic a.1 b.1 ≠ 0 := by omega
    have h3 : vc a b = ic a.1 b.1 := by simp [vc, f1]
    have h4 : a.1 < b.1 ↔ vc a b < 0 := by omega
    simp [e1, h4]

theorem compareRows_eq (N : Nat) (xs ys : Row') (hN : xs.length < N) (hB : N ≤ 1099511627776) : F_value_CompareRows N (xs, (ys, ())) = some ((cmpRow xs ys, ()), ()) := by
  simp only [F_value_CompareRows, letJ_def, compareInts_eq, compare_eq, oSome_some, oGet_some, cond_true, Bool.and_true]
  refine iterF_post (S := Int × Unit) (R := (Int × Unit) × Unit) (fun p => xs.length - p.1.toNat) (fun p => ∃ i : Nat, p.1 = (i : Int) ∧ i ≤ xs.length ∧ i ≤ ys.length ∧ cmpRow (xs.drop i) (ys.drop i) = cmpRow xs ys) (fun _ => ((cmpRow xs ys, ()), ())) ?_ N _ ⟨0, rfl, Nat.zero_le _, Nat.zero_le _, rfl⟩ (by simp; omega)
  rintro ih ⟨_, _⟩ ⟨i, rfl, hx, hy, he⟩ hih
  simp only [Int.toNat_natCast] at hih ⊢
  by_cases h : i < xs.length ∧ i < ys.length
  · obtain ⟨h1, h2⟩ := h
    rw [cond_pos (by rw [ltI_def, minI_def, lenI_def, lenI_def]; simp; omega), inB_len h1, inB_len h2, lget_at _ h1, lget_at _ h2]
    simp only [Bool.and_self, cond_true]
    rw [List.drop_eq_getElem_cons h1, List.drop_eq_getElem_cons h2, cmpRow] at he
    by_cases hv : vc xs[i] ys[i] = 0
    · rw [if_neg (fun h => h hv)] at he
      rw [cond_neg (by rw [neI_dec, hv]; rfl), iadd_nat (by omega)]
      exact hih _ ⟨i + 1, rfl, h1, h2, he⟩ (by simp only [Int.toNat_natCast]; omega)
    · rw [if_pos hv] at he
      rw [cond_pos (by rw [neI_dec]; simp [hv]), he]
  · rw [cond_neg (by rw [ltI_def, minI_def, lenI_def, lenI_def]; simp; omega)]
    rw [cmpRow_end xs ys i h hx hy] at he
    rw [lenI_def, lenI_def, he]

theorem compareRowsR_eq (N : Nat) (xs ys : Row') (hN : xs.length < N) (hB : N ≤ 1099511627776) : F_stemref2_CompareRows N (xs, (ys, ())) = some ((cmpRow xs ys, ()), ()) := by
  simp only [F_stemref2_CompareRows, letJ_def, less_eq, oSome_some, oGet_some, cond_true, Bool.and_true]
  refine iterF_post (S := Int × Unit) (R := (Int × Unit) × Unit) (fun p => xs.length - p.1.toNat) (fun p => ∃ i : Nat, p.1 = (i : Int) ∧ i ≤ xs.length ∧ i ≤ ys.length ∧ cmpRow (xs.drop i) (ys.drop i) = cmpRow xs ys) (fun _ => ((cmpRow xs ys, ()), ())) ?_ N _ ⟨0, rfl, Nat.zero_le _, Nat.zero_le _, rfl⟩ (by simp; omega)
  rintro ih ⟨_, _⟩ ⟨i, rfl, hx, hy, he⟩ hih
  simp only [Int.toNat_natCast] at hih ⊢
  by_cases h : i < xs.length ∧ i < ys.length
  · obtain ⟨h1, h2⟩ := h
    rw [lt_len h1, lt_len h2, inB_len h1, inB_len h2, lget_at _ h1, lget_at _ h2]
    simp only [Bool.and_self, cond_true]
    rw [List.drop_eq_getElem_cons h1, List.drop_eq_getElem_cons h2, cmpRow] at he
    have hs := vc_swap xs[i] ys[i]
    rcases vc_cases xs[i] ys[i] with hv | hv | hv
    · rw [if_pos (by omega)] at he
      rw [cond_pos (by rw [hv]; rfl), ← he, hv]
    · rw [if_neg (fun h => h hv)] at he
      rw [cond_neg (by rw [hv]; rfl), cond_neg (by rw [hs, hv]; rfl), iadd_nat (by omega)]
      exact hih _ ⟨i + 1, rfl, h1, h2, he⟩ (by simp only [Int.toNat_natCast]; omega)
    · rw [if_pos (by omega)] at he
      rw [cond_neg (by rw [hv]; rfl), cond_pos (by rw [hs, hv]; rfl), ← he, hv]
  · rw [cond_neg (by
      rw [ltI_def, ltI_def, lenI_def, lenI_def]
      simp only [Bool.and_eq_false_iff, decide_eq_false_iff_not]
      omega)]
    rw [cmpRow_end xs ys i h hx hy] at he
    rw [lenI_def, lenI_def, ← he]
    have := ic_cases (xs.length : Int) (ys.length : Int)
    rcases this with ⟨h1, h2⟩ | ⟨h1, h2⟩ | ⟨h1, h2⟩
    · rw [cond_pos (by rw [ltI_def]; simp; omega), h2]
    · rw [cond_neg (by rw [ltI_def]; simp; omega), cond_neg (by rw [ltI_def]; simp; omega), h2]
    · rw [cond_neg (by rw [ltI_def]; simp; omega), cond_pos (by rw [ltI_def]; simp; omega), h2]

theorem keyLoop (N : Nat) (pk : List Int) (row : Row') (hN : pk.length < N) (hb : pk.length ≤ 1099511627776) :
    iterF (S := ((List D_api_Value) × (Int × Unit))) (R := (((List D_api_Value) × Unit) × Unit)) N (fun ih0 => (fun p1 => (bif (ltI p1.2.1 (lenI pk)) then (bif (inB p1.2.1 (lenI pk)) then (letJ ((leI 0 (lget pk p1.2.1 0)) && (ltI (lget pk p1.2.1 0) (lenI row))) (fun y2 => (bif (bif y2 then (inB (lget pk p1.2.1 0) (lenI row)) else true) then (letJ (bif y2 then (lget row (lget pk p1.2.1 0) (0, (0, (([] : List UInt8), ())))) else (0, (0, (([] : List UInt8), ())))) (fun y3 => (bif (room2 (lenI p1.1) (lenI ([y3] : List D_api_Value)) 32) then (ih0 ((lapp p1.1 ([y3] : List D_api_Value)), ((iadd .i64 p1.2.1 1), ()))) else none))) else none))) else none) else (some ((p1.1, ()), ()))))) (([] : List D_api_Value), (0, ())) = some ((keyC pk row, ()), ()) := by
  simp only [letJ_def]
  refine iterF_seq (S := ((List D_api_Value) × (Int × Unit))) (fun i => (keyC (pk.take i) row, ((i : Int), ()))) pk.length _ (by simp [keyC]) (fun i hi ih => ?_) (fun ih => ?_) hN
  · have e1 : keyC (pk.take (i + 1)) row = keyC (pk.take i) row ++ [cellV row pk[i]] := by unfold keyC; rw [take_snoc hi, List.map_append]; rfl
    have e2 : (bif (leI 0 pk[i] && ltI pk[i] (lenI row)) then lget row pk[i] (0, (0, (([] : List UInt8), ()))) else (0, (0, (([] : List UInt8), ())))) = cellV row pk[i] := by
      unfold cellV
      by_cases h : 0 ≤ pk[i] ∧ pk[i] < (row.length : Int)
      · rw [dif_pos h, cond_pos (by rw [leI_def, ltI_def, lenI_def]; simp; exact h)]
        obtain ⟨k, hk⟩ : ∃ k : Nat, pk[i] = (k : Int) := ⟨pk[i].toNat, by omega⟩
        have hk' : k < row.length := by omega
        simp only [hk, Int.toNat_natCast]
        exact lget_at _ hk'
      · rw [dif_neg h, cond_neg (by rw [leI_def, ltI_def, lenI_def]; simp; omega)]
    have e3 : (bif (leI 0 pk[i] && ltI pk[i] (lenI row)) then inB pk[i] (lenI row) else true) = true := by
      cases hc : (leI 0 pk[i] && ltI pk[i] (lenI row)) with
      | false => rfl
      | true =>
        rw [leI_def, ltI_def, lenI_def] at hc
        rw [cond_true, inB_def, lenI_def]
        simpa using hc
    simp only
    rw [cond_pos (lt_len hi), inB_len hi, cond_true, lget_at _ hi, e3, cond_true, e2, cond_pos (room2_ok (by rw [keyC_len, List.length_take]; simp; omega)), iadd_nat (by omega), lapp_def, e1]
  · simp only
    rw [cond_neg (nlt_len (Nat.lt_irrefl _)), List.take_length]

theorem key_eq (N : Nat) (t : D_api_Table) (row : Row') (hN : t.2.2.1.length < N) (hB : N ≤ 1099511627776) : F_relation_Key N (t, (row, ())) = some ((keyC t.2.2.1 row, ()), ()) := keyLoop N t.2.2.1 row hN (by omega)
theorem keyOf_eq (N : Nat) (t : D_api_Table) (row : Row') (hN : t.2.2.1.length < N) (hB : N ≤ 1099511627776) : F_stemref2_KeyOf N (t, (row, ())) = some ((keyC t.2.2.1 row, ()), ()) := by
  have h : F_stemref2_project N (row, (t.2.2.1, ())) = some ((keyC t.2.2.1 row, ()), ()) := keyLoop N t.2.2.1 row hN (by omega)
  simp only [F_stemref2_KeyOf, h, oSome_some, oGet_some, cond_true]

theorem find_eq (N : Nat) (t : D_api_Table) (rows : List Row') (key : Row') (hN : t.2.2.1.length < N) (hN2 : rows.length < N) (hB : N ≤ 1099511627776) :
    F_relation_Find N (t, (rows, (key, ()))) = some ((((findC (fun r => cmpRow (keyC t.2.2.1 r) key) rows).1 : Int), ((findC (fun r => cmpRow (keyC t.2.2.1 r) key) rows).2, ())), ()) := by
  have hk : ∀ r, F_relation_Key N (t, (r, ())) = some ((keyC t.2.2.1 r, ()), ()) := fun r => key_eq N t r hN hB
  have hc : ∀ r, F_value_CompareRows N (keyC t.2.2.1 r, (key, ())) = some ((cmpRow (keyC t.2.2.1 r) key, ()), ()) := fun r => compareRows_eq N _ _ (by rw [keyC_len]; exact hN) hB
  generalize hf : (fun r => cmpRow (keyC t.2.2.1 r) key) = f
  have hfr : ∀ r, cmpRow (keyC t.2.2.1 r) key = f r := fun r => by rw [← hf]
  simp only [F_relation_Find, letJ_def, hk, hc, hfr, oSome_some, oGet_some, cond_true, Bool.and_self]
  refine iterF_post (S := Int × Unit) (R := (Int × (Bool × Unit)) × Unit) (fun p => rows.length - p.1.toNat) (fun p => ∃ i : Nat, p.1 = (i : Int) ∧ i ≤ rows.length ∧ findC f rows = (i + (findC f (rows.drop i)).1, (findC f (rows.drop i)).2)) (fun _ => ((((findC f rows).1 : Int), ((findC f rows).2, ())), ())) ?_ N _ ⟨0, rfl, Nat.zero_le _, by simp⟩ (by simp; omega)
  rintro ih ⟨_, _⟩ ⟨i, rfl, h2, h3⟩ hih
  simp only [Int.toNat_natCast] at hih ⊢
  by_cases hi : i < rows.length
  · rw [cond_pos (lt_len hi), inB_len hi, cond_true, lget_at _ hi]
    rw [List.drop_eq_getElem_cons hi, findC] at h3
    by_cases h : 0 ≤ f rows[i]
    · rw [if_pos h] at h3
      rw [cond_pos (by rw [leI_def]; simp [h]), h3, eqI_dec]
      simp
    · rw [if_neg h] at h3
      rw [cond_neg (by rw [leI_def]; simp; omega), iadd_nat (by omega)]
      exact hih _ ⟨i + 1, rfl, hi, by rw [h3]; simp; omega⟩ (by simp only [Int.toNat_natCast]; omega)
  · rw [cond_neg (nlt_len hi), lenI_def]
    rw [List.drop_of_length_le (by omega)] at h3
    rw [h3]
    simp [findC]
    omega

theorem indexFunc_eq (N : Nat) (rows : List Row') (f : Row' → Int) (φ : (Row' × Unit) → Option (Bool × Unit)) (hφ : ∀ r, φ (r, ()) = some (decide (0 ≤ f r), ())) (hN2 : rows.length < N) (hB : N ≤ 1099511627776) :
    F_slices_IndexFunc_api_Row N (rows, (φ, ())) = some (((if (findC f rows).1 < rows.length then ((findC f rows).1 : Int) else -1), ()), ()) := by
  simp only [F_slices_IndexFunc_api_Row, letJ_def, hφ, oSome_some, oGet_some, Bool.and_true]
  refine iterF_post (S := Int × Unit) (R := (Int × Unit) × Unit) (fun p => rows.length - p.1.toNat) (fun p => ∃ i : Nat, p.1 = (i : Int) ∧ i ≤ rows.length ∧ findC f rows = (i + (findC f (rows.drop i)).1, (findC f (rows.drop i)).2)) (fun _ => (((if (findC f rows).1 < rows.length then ((findC f rows).1 : Int) else -1), ()), ())) ?_ N _ ⟨0, rfl, Nat.zero_le _, by simp⟩ (by simp; omega)
  rintro ih ⟨_, _⟩ ⟨i, rfl, h2, h3⟩ hih
  simp only [Int.toNat_natCast] at hih ⊢
  by_cases hi : i < rows.length
  · rw [cond_pos (lt_len hi), inB_len hi, cond_true, lget_at _ hi]
    rw [List.drop_eq_getElem_cons hi, findC] at h3
    by_cases h : 0 ≤ f rows[i]
    · rw [if_pos h] at h3
      rw [cond_pos (by simp [h]), h3]
      simp [hi]
    · rw [if_neg h] at h3
      rw [cond_neg (by simp [h]), iadd_nat (by omega)]
      exact hih _ ⟨i + 1, rfl, hi, by rw [h3]; simp; omega⟩ (by simp only [Int.toNat_natCast]; omega)
  · rw [cond_neg (nlt_len hi)]
    rw [List.drop_of_length_le (by omega)] at h3
    rw [h3]
    have : ¬ (i + (findC f []).1 < rows.length) := by simp [findC]; omega
    simp [this]

/-! ## Lists of rows -/
theorem clone_row (N : Nat) (xs : Row') (h : xs.length ≤ 1099511627776) : F_slices_Clone_api_Value N (xs, ()) = some ((xs, ()), ()) := cloneForm xs 32 (by omega)
theorem relClone_eq (N : Nat) (rows : List Row') (hN : rows.length < N) (hB : N ≤ 1099511627776) (hr : ∀ r ∈ rows, r.length ≤ 1099511627776) : F_relation_Clone N (rows, ()) = some ((rows, ()), ()) := by
  simp only [F_relation_Clone]
  refine iterF_seq (S := ((List Row') × (Int × Unit))) (fun i => (rows.take i, ((i : Int), ()))) rows.length _ (by simp) (fun i hi ih => ?_) (fun ih => ?_) hN
  · simp only
    rw [cond_pos (lt_len hi), inB_len hi, cond_true, lget_at _ hi, clone_row N _ (hr _ (List.getElem_mem hi))]
    simp only [oSome_some, oGet_some, Bool.true_and]
    rw [cond_pos (room2_ok (by rw [List.length_take]; simp; omega)), iadd_nat (by omega), lapp_def, take_snoc hi]
  · simp only
    rw [cond_neg (nlt_len (Nat.lt_irrefl _)), List.take_length]

theorem equalFunc_eq (N : Nat) (xs ys : List Row') (φ : (Row' × (Row' × Unit)) → Option (Bool × Unit)) (hφ : ∀ a ∈ xs, ∀ b ∈ ys, φ (a, (b, ())) = some (decide (a = b), ())) (hN : xs.length < N) (hB : N ≤ 1099511627776) :
    F_slices_EqualFunc_api_Row N (xs, (ys, (φ, ()))) = some ((decide (xs = ys), ()), ()) := by
  simp only [F_slices_EqualFunc_api_Row]
  by_cases hl : xs.length = ys.length
  · rw [cond_neg (by rw [neI_dec, lenI_def, lenI_def, hl]; simp)]
    refine iterF_post (S := Int × Unit) (R := (Bool × Unit) × Unit) (fun p => xs.length - p.1.toNat) (fun p => ∃ i : Nat, p.1 = (i : Int) ∧ i ≤ xs.length ∧ xs.take i = ys.take i) (fun _ => ((decide (xs = ys), ()), ())) ?_ N _ ⟨0, rfl, Nat.zero_le _, by simp⟩ (by simp; omega)
    rintro ih ⟨_, _⟩ ⟨i, rfl, h2, h3⟩ hih
    simp only [Int.toNat_natCast] at hih ⊢
    by_cases hi : i < xs.length
    · have hj : i < ys.length := by omega
      rw [cond_pos (lt_len hi), inB_len hi, inB_len hj, lget_at _ hi, lget_at _ hj, hφ _ (List.getElem_mem hi) _ (List.getElem_mem hj)]
      simp only [oSome_some, oGet_some, cond_true]
      by_cases e : xs[i] = ys[i]
      · rw [cond_neg (by simp [e]), iadd_nat (by omega), hih _ ⟨i + 1, rfl, by omega, by rw [take_snoc hi, take_snoc hj, h3, e]⟩ (by simp only [Int.toNat_natCast]; omega)]
      · rw [cond_pos (by simp [e])]
        have : xs ≠ ys := fun h => e (by subst h; rfl)
        simp [this]
    · rw [cond_neg (nlt_len hi)]
      have e1 : i = xs.length := by omega
      subst e1
      have : xs = ys := by
        have := h3
        rwa [List.take_length, hl, List.take_length] at this
      simp [this]
  · rw [cond_pos (by rw [neI_dec, lenI_def, lenI_def]; simp; omega)]
    have : xs ≠ ys := fun h => hl (by rw [h])
    simp [this]

theorem equalRows_eq (N : Nat) (xs ys : List Row') (hN : xs.length < N) (hB : N ≤ 1099511627776) (hx : ∀ r ∈ xs, (encR r).length ≤ 1099511627776) (hy : ∀ r ∈ ys, (encR r).length ≤ 1099511627776) : F_stemref2_EqualRows N (xs, (ys, ())) = some ((decide (xs = ys), ()), ()) := by
  have := equalFunc_eq N xs ys (fun x0 => (omap (fun y1 => (y1.1.1, ())) (F_stemref2_EqualRows_1 N (x0.1, (x0.2.1, ()))))) (fun a ha b hb => by
    simp only [F_stemref2_EqualRows_1, encode_eq N a (hx a ha), encode_eq N b (hy b hb), oSome_some, oGet_some, Bool.and_self, cond_true, eqS_dec, omap_def, Option.map_some]
    by_cases h : a = b
    · simp [h]
    · have : encR a ≠ encR b := fun e => h (encR_inj e)
      simp [h, this]) hN hB
  simp only [F_stemref2_EqualRows, this, oSome_some, oGet_some, cond_true]
theorem equalVal (N : Nat) (xs ys : Row') (hN : xs.length < N) (hb : xs.length ≤ 1099511627776) : F_slices_Equal_api_Value N (xs, (ys, ())) = some ((decide (xs = ys), ()), ()) := by
  simp only [F_slices_Equal_api_Value]
  by_cases hl : xs.length = ys.length
  · rw [cond_neg (by rw [neI_dec, lenI_def, lenI_def, hl]; simp)]
    refine equalLoop (ne := fun (a b : D_api_Value) => !((eqI a.1 b.1) && ((eqI a.2.1 b.2.1) && (eqS a.2.2.1 b.2.2.1)))) (fun a b => ?_) xs ys (0, (0, (([] : List UInt8), ()))) hl hb hN
    obtain ⟨a1, a2, a3, ⟨⟩⟩ := a
    obtain ⟨b1, b2, b3, ⟨⟩⟩ := b
    simp only [eqS_dec, eqI_dec, Prod.mk.injEq, and_true, Bool.decide_and]
  · rw [cond_pos (by rw [neI_dec, lenI_def, lenI_def]; simp; omega)]
    have : xs ≠ ys := fun h => hl (by rw [h])
    simp [this]
theorem relEqual_eq (N : Nat) (xs ys : List Row') (hN : xs.length < N) (hB : N ≤ 1099511627776) (hx : ∀ r ∈ xs, r.length < N) : F_relation_Equal N (xs, (ys, ())) = some ((decide (xs = ys), ()), ()) := by
  have := equalFunc_eq N xs ys (fun x0 => (omap (fun y1 => (y1.1.1, ())) (F_relation_Equal_1 N (x0.1, (x0.2.1, ()))))) (fun a ha b hb => by
    simp only [F_relation_Equal_1, equalVal N a b (hx a ha) (by have := hx a ha; omega), oSome_some, oGet_some, cond_true, omap_def, Option.map_some]) hN hB
  simp only [F_relation_Equal, this, oSome_some, oGet_some, cond_true]


end
end Go.Proofs.YtjjfjgpjbhjpfaaGreatDoor

