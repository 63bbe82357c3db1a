/- Instances: the checks, the encoders, the decoders, the law. -/
import Derived.Test.YtigjpdkeijcabaaDoorNam
set_option linter.unusedVariables false
set_option linter.unusedSimpArgs false
set_option linter.unnecessarySimpa false
set_option linter.unusedSectionVars false
set_option linter.unusedSimpArgs false
set_option maxRecDepth 100000
namespace Go.Proofs.YtigjpdkeijcabaaDoor
open Go.Vi
noncomputable section

abbrev relD : Rel' := (([] : List UInt8), (([] : List Row'), ()))

theorem lt_lit {α : Type} (xs : List α) (n : Nat) : ltI (n : Int) (lenI xs) = decide (n < xs.length) := by
  rw [ltI_def, lenI_def]; exact decide_eq_decide.2 (by omega)

/-! ## The checks -/
theorem checkInstance_eq (N : Nat) (s : List Rel') (hs : ∀ t ∈ s, t.1.length ≤ 9223372036854775807 ∧ t.1.length < N) (hN : 1000 < N) : F_encoding_CheckInstance N (s, ()) = some ((instErr s, ()), ()) := by
  simp only [F_encoding_CheckInstance, letJ_def, instErr]
  by_cases h : 6 < s.length
  · rw [if_pos h, cond_pos (by rw [show (6 : Int) = ((6 : Nat) : Int) from rfl, lt_lit]; simpa using h)]
  · rw [if_neg h, cond_neg (by rw [show (6 : Int) = ((6 : Nat) : Int) from rfl, lt_lit]; simpa using h)]
    refine iterF_post (S := Int × Unit) (R := (Int × Unit) × Unit) (fun p => s.length - p.1.toNat) (fun p => ∃ i : Nat, p.1 = (i : Int) ∧ i ≤ s.length) (fun p => ((relsErr (s.drop p.1.toNat), ()), ())) ?_ N _ ⟨0, rfl, Nat.zero_le _⟩ (by simp; omega)
    rintro ih ⟨_, _⟩ ⟨i, rfl, h2⟩ hih
    simp only [Int.toNat_natCast] at hih ⊢
    by_cases hi : i < s.length
    · have hg : lget s (i : Int) relD = s[i] := lget_nat (List.getElem?_eq_getElem hi)
      have hsi := hs s[i] (List.getElem_mem hi)
      rw [cond_pos (lt_len hi), cond_pos (inB_len hi)]
      simp only [hg, validName_eq N _ hsi.1 hsi.2, oSome_some, oGet_some, cond_true]
      rw [drop_cons' hi, relsErr]
      unfold relErr
      by_cases hn : nameOk s[i].1 = true
      · rw [if_pos hn, cond_neg (by simp [hn])]
        by_cases hl : 24 < s[i].2.1.length
        · rw [if_pos hl, cond_pos (by rw [show (24 : Int) = ((24 : Nat) : Int) from rfl, lt_lit]; simpa using hl)]; rfl
        · rw [if_neg hl, cond_neg (by rw [show (24 : Int) = ((24 : Nat) : Int) from rfl, lt_lit]; simpa using hl)]
          refine iterF_post (S := Int × Unit) (R := (Int × Unit) × Unit) (fun p => s[i].2.1.length - p.1.toNat) (fun p => ∃ j : Nat, p.1 = (j : Int) ∧ j ≤ s[i].2.1.length) (fun p => (((if rowsErr (s[i].2.1.drop p.1.toNat) ≠ 0 then rowsErr (s[i].2.1.drop p.1.toNat) else relsErr (s.drop (i + 1))), ()), ())) ?_ N _ ⟨0, rfl, Nat.zero_le _⟩ (by simp; omega)
          rintro ih2 ⟨_, _⟩ ⟨j, rfl, h3⟩ hih2
          simp only [Int.toNat_natCast] at hih2 ⊢
          by_cases hj : j < s[i].2.1.length
          · have hgj : lget s[i].2.1 (j : Int) ([] : Row') = s[i].2.1[j] := lget_nat (List.getElem?_eq_getElem hj)
            rw [cond_pos (lt_len hj), cond_pos (inB_len hj)]
            simp only [hgj, checkRow_eq N _ (show 20 < N by omega), oSome_some, oGet_some, cond_true, neI_dec]
            rw [drop_cons' hj, rowsErr]
            by_cases he : rowErr s[i].2.1[j] = 0
            · rw [cond_neg (by simp [he]), iadd_nat (by omega), hih2 _ ⟨j + 1, rfl, by omega⟩ (by simp only [Int.toNat_natCast]; omega)]
              simp only [Int.toNat_natCast, he, ne_eq, not_true_eq_false, if_false]
            · rw [cond_pos (by simp [he])]
              simp only [ne_eq, he, not_false_eq_true, if_true]
          · have hj' : j = s[i].2.1.length := by omega
            rw [cond_neg (nlt_len hj), iadd_nat (by omega), hih _ ⟨i + 1, rfl, by omega⟩ (by simp only [Int.toNat_natCast]; omega)]
            subst hj'
            simp only [List.drop_length, rowsErr, Int.toNat_natCast, ne_eq, not_true_eq_false, if_false]
      · rw [if_neg hn, cond_pos (by simp [hn])]; rfl
    · have hi' : i = s.length := by omega
      rw [cond_neg (nlt_len hi)]
      subst hi'
      simp only [List.drop_length, relsErr]

theorem refCheckInstance_eq (N : Nat) (s : List Rel') (hN : 1000 < N) : F_stemref4_CheckInstance N (s, ()) = some ((instErr s, ()), ()) := by
  simp only [F_stemref4_CheckInstance, letJ_def, instErr]
  by_cases h : 6 < s.length
  · rw [if_pos h, cond_pos (by rw [show (6 : Int) = ((6 : Nat) : Int) from rfl, lt_lit]; simpa using h)]
  · rw [if_neg h, cond_neg (by rw [show (6 : Int) = ((6 : Nat) : Int) from rfl, lt_lit]; simpa using h)]
    refine iterF_post (S := Int × Unit) (R := (Int × Unit) × Unit) (fun p => s.length - p.1.toNat) (fun p => ∃ i : Nat, p.1 = (i : Int) ∧ i ≤ s.length) (fun p => ((relsErr (s.drop p.1.toNat), ()), ())) ?_ N _ ⟨0, rfl, Nat.zero_le _⟩ (by simp; omega)
    rintro ih ⟨_, _⟩ ⟨i, rfl, h2⟩ hih
    simp only [Int.toNat_natCast] at hih ⊢
    by_cases hi : i < s.length
    · have hg : lget s (i : Int) relD = s[i] := lget_nat (List.getElem?_eq_getElem hi)
      rw [cond_pos (lt_len hi), cond_pos (inB_len hi)]
      simp only [hg, validTableName_eq N _ (show 100 < N by omega), oSome_some, oGet_some, cond_true]
      rw [drop_cons' hi, relsErr]
      unfold relErr
      by_cases hn : nameOk s[i].1 = true
      · rw [if_pos hn, cond_neg (by simp [hn])]
        by_cases hl : 24 < s[i].2.1.length
        · rw [if_pos hl, cond_pos (by rw [show (24 : Int) = ((24 : Nat) : Int) from rfl, lt_lit]; simpa using hl)]; rfl
        · rw [if_neg hl, cond_neg (by rw [show (24 : Int) = ((24 : Nat) : Int) from rfl, lt_lit]; simpa using hl)]
          refine iterF_post (S := Int × Unit) (R := (Int × Unit) × Unit) (fun p => s[i].2.1.length - p.1.toNat) (fun p => ∃ j : Nat, p.1 = (j : Int) ∧ j ≤ s[i].2.1.length) (fun p => (((if rowsErr (s[i].2.1.drop p.1.toNat) ≠ 0 then rowsErr (s[i].2.1.drop p.1.toNat) else relsErr (s.drop (i + 1))), ()), ())) ?_ N _ ⟨0, rfl, Nat.zero_le _⟩ (by simp; omega)
          rintro ih2 ⟨_, _⟩ ⟨j, rfl, h3⟩ hih2
          simp only [Int.toNat_natCast] at hih2 ⊢
          by_cases hj : j < s[i].2.1.length
          · have hgj : lget s[i].2.1 (j : Int) ([] : Row') = s[i].2.1[j] := lget_nat (List.getElem?_eq_getElem hj)
            rw [cond_pos (lt_len hj), cond_pos (inB_len hj)]
            simp only [hgj, refCheckRow_eq N _ (show 20 < N by omega), oSome_some, oGet_some, cond_true, neI_dec]
            rw [drop_cons' hj, rowsErr]
            by_cases he : rowErr s[i].2.1[j] = 0
            · rw [cond_neg (by simp [he]), iadd_nat (by omega), hih2 _ ⟨j + 1, rfl, by omega⟩ (by simp only [Int.toNat_natCast]; omega)]
              simp only [Int.toNat_natCast, he, ne_eq, not_true_eq_false, if_false]
            · rw [cond_pos (by simp [he])]
              simp only [ne_eq, he, not_false_eq_true, if_true]
          · have hj' : j = s[i].2.1.length := by omega
            rw [cond_neg (nlt_len hj), iadd_nat (by omega), hih _ ⟨i + 1, rfl, by omega⟩ (by simp only [Int.toNat_natCast]; omega)]
            subst hj'
            simp only [List.drop_length, rowsErr, Int.toNat_natCast, ne_eq, not_true_eq_false, if_false]
      · rw [if_neg hn, cond_pos (by simp [hn])]; rfl
    · have hi' : i = s.length := by omega
      rw [cond_neg (nlt_len hi)]
      subst hi'
      simp only [List.drop_length, relsErr]

/-! ## The encoders -/
theorem appendString_eq (N : Nat) (dst : List Int) (hd : dst.length ≤ 10000000) (s : List UInt8) (hs : s.length < 256) : F_encoding_appendString N (dst, (s, ())) = some ((dst ++ encS s, ()), ()) := by
  have e : iwrap .u8 (lenI s) = (s.length : Int) := by rw [lenI_def]; exact wrap8_id (by omega) (by omega)
  simp only [F_encoding_appendString, e, lapp_def]
  rw [cond_pos (by rw [room_one _ _ (by omega), room2_ok (by simp only [List.length_append, List.length_cons, List.length_nil]; omega)]; rfl), bytesI_eq, List.append_assoc]
  rfl

theorem encodeInstance_eq (N : Nat) (s : List Rel') (hs : ∀ t ∈ s, t.1.length ≤ 9223372036854775807 ∧ t.1.length < N) (hN : 1000 < N) : F_encoding_EncodeInstance N (s, ()) = some ((if instErr s = 0 then (encI s, (0, ())) else ([], (instErr s, ()))), ()) := by
  simp only [F_encoding_EncodeInstance, letJ_def, checkInstance_eq N s hs hN, oSome_some, oGet_some, cond_true, neI_dec]
  by_cases h : instErr s = 0
  · obtain ⟨hl, hv⟩ := instErr_zero h
    rw [cond_neg (by simp [h]), if_pos h]
    have e : iwrap .u8 (lenI s) = (s.length : Int) := by rw [lenI_def]; exact wrap8_id (by omega) (by omega)
    rw [e]
    refine iterF_post (S := (List Int) × (Int × Unit)) (R := ((List Int) × (Int × Unit)) × Unit) (fun p => s.length - p.2.1.toNat) (fun p => ∃ i : Nat, p.2.1 = (i : Int) ∧ i ≤ s.length ∧ p.1 = (s.length : Int) :: (s.take i).flatMap encT) (fun p => ((encI s, (0, ())), ())) ?_ N _ ⟨0, rfl, Nat.zero_le _, by simp⟩ (by simp; omega)
    rintro ih ⟨o, _, _⟩ ⟨i, rfl, h2, ho⟩ hih
    simp only [Int.toNat_natCast] at hih ho ⊢
    by_cases hi : i < s.length
    · have hg : lget s (i : Int) relD = s[i] := lget_nat (List.getElem?_eq_getElem hi)
      obtain ⟨k1, k2, k3⟩ := relErr_zero (hv s[i] (List.getElem_mem hi))
      have k4 := (nameOk_len k1).1
      have hol : o.length ≤ 70000 := by
        have h5 : ((s.take i).flatMap encT).length ≤ 10000 * (s.take i).length := rels_len fun t ht => hv t (List.mem_of_mem_take ht)
        have h6 : (s.take i).length ≤ 6 := by rw [List.length_take]; omega
        rw [ho, List.length_cons]; omega
      have e2 : iwrap .u8 (lenI s[i].2.1) = (s[i].2.1.length : Int) := by rw [lenI_def]; exact wrap8_id (by omega) (by omega)
      have hsl : (o ++ encS s[i].1).length ≤ 70100 := by simp only [List.length_append, encS, List.length_cons, bytesOf_len]; omega
      rw [cond_pos (lt_len hi), cond_pos (inB_len hi)]
      simp only [hg, appendString_eq N o (by omega) s[i].1 (by omega), oSome_some, oGet_some, Bool.true_and, e2, lapp_def]
      rw [cond_pos (room_one _ _ (by omega))]
      refine iterF_post (S := (List Int) × (Int × Unit)) (R := ((List Int) × (Int × Unit)) × Unit) (fun p => s[i].2.1.length - p.2.1.toNat) (fun p => ∃ j : Nat, p.2.1 = (j : Int) ∧ j ≤ s[i].2.1.length ∧ p.1 = o ++ encS s[i].1 ++ [(s[i].2.1.length : Int)] ++ (s[i].2.1.take j).flatMap encR) (fun p => ((encI s, (0, ())), ())) ?_ N _ ⟨0, rfl, Nat.zero_le _, by simp⟩ (by simp; omega)
      rintro ih2 ⟨o2, _, _⟩ ⟨j, rfl, h3, ho2⟩ hih2
      simp only [Int.toNat_natCast] at hih2 ho2 ⊢
      by_cases hj : j < s[i].2.1.length
      · have hgj : lget s[i].2.1 (j : Int) ([] : Row') = s[i].2.1[j] := lget_nat (List.getElem?_eq_getElem hj)
        obtain ⟨r1, r2⟩ := rowErr_zero (k3 s[i].2.1[j] (List.getElem_mem hj))
        have ho2l : o2.length ≤ 900000 := by
          have h5 : ((s[i].2.1.take j).flatMap encR).length ≤ 400 * (s[i].2.1.take j).length := rows_len fun t ht => k3 t (List.mem_of_mem_take ht)
          have h6 : (s[i].2.1.take j).length ≤ 24 := by rw [List.length_take]; omega
          rw [ho2, List.length_append, List.length_append]; simp only [List.length_cons, List.length_nil]; omega
        rw [cond_pos (lt_len hj), cond_pos (inB_len hj)]
        simp only [hgj, appendRow_eq N o2 ho2l _ r1 r2 (show 20 < N by omega), oSome_some, oGet_some, cond_true]
        rw [iadd_nat (by omega), hih2 _ ⟨j + 1, rfl, by omega, by rw [ho2, flatMap_take hj, List.append_assoc]⟩ (by simp only [Int.toNat_natCast]; omega)]
      · have hj' : j = s[i].2.1.length := by omega
        rw [cond_neg (nlt_len hj), iadd_nat (by omega), hih _ ⟨i + 1, rfl, by omega, by
          subst hj'
          rw [ho2, ho, flatMap_take hi, List.take_length, encT]
          simp⟩ (by simp only [Int.toNat_natCast]; omega)]
    · have hi' : i = s.length := by omega
      rw [cond_neg (nlt_len hi), ho]
      subst hi'
      rw [List.take_length]
      rfl
  · rw [cond_pos (by simp [h]), if_neg h]

theorem prefixed_eq (N : Nat) (s : List UInt8) (hs : s.length < 256) : F_stemref4_prefixed N (s, ()) = some ((intsB (encS s), ()), ()) := by
  have e : iwrap .u8 (lenI s) = (s.length : Int) := by rw [lenI_def]; exact wrap8_id (by omega) (by omega)
  simp only [F_stemref4_prefixed, e, lapp_def]
  rw [cond_pos (room_str _ _ (by rw [intsB_length]; simp only [List.length_cons, List.length_nil]; omega))]
  have : intsB [(s.length : Int)] ++ s = intsB (encS s) := by
    conv => lhs; rhs; rw [← intsB_bytesOf s]
    rw [intsB_app]; rfl
  rw [this]

theorem refEncodeInstance_eq (N : Nat) (s : List Rel') (hN : 1000 < N) : F_stemref4_EncodeInstance N (s, ()) = some ((if instErr s = 0 then (encI s, (0, ())) else ([], (instErr s, ()))), ()) := by
  simp only [F_stemref4_EncodeInstance, letJ_def, refCheckInstance_eq N s hN, oSome_some, oGet_some, cond_true, neI_dec]
  by_cases h : instErr s = 0
  · obtain ⟨hl, hv⟩ := instErr_zero h
    rw [cond_neg (by simp [h]), if_pos h]
    have e : iwrap .u8 (lenI s) = (s.length : Int) := by rw [lenI_def]; exact wrap8_id (by omega) (by omega)
    rw [e]
    refine iterF_post (S := (List UInt8) × (Int × Unit)) (R := ((List Int) × (Int × Unit)) × Unit) (fun p => s.length - p.2.1.toNat) (fun p => ∃ i : Nat, p.2.1 = (i : Int) ∧ i ≤ s.length ∧ p.1 = intsB ((s.length : Int) :: (s.take i).flatMap encT)) (fun p => ((encI s, (0, ())), ())) ?_ N _ ⟨0, rfl, Nat.zero_le _, by simp⟩ (by simp; omega)
    rintro ih ⟨o, _, _⟩ ⟨i, rfl, h2, ho⟩ hih
    simp only [Int.toNat_natCast] at hih ho ⊢
    by_cases hi : i < s.length
    · have hg : lget s (i : Int) relD = s[i] := lget_nat (List.getElem?_eq_getElem hi)
      obtain ⟨k1, k2, k3⟩ := relErr_zero (hv s[i] (List.getElem_mem hi))
      have k4 := (nameOk_len k1).1
      have hol : o.length ≤ 70000 := by
        have h5 : ((s.take i).flatMap encT).length ≤ 10000 * (s.take i).length := rels_len fun t ht => hv t (List.mem_of_mem_take ht)
        have h6 : (s.take i).length ≤ 6 := by rw [List.length_take]; omega
        rw [ho, intsB_length, List.length_cons]; omega
      have e2 : iwrap .u8 (lenI s[i].2.1) = (s[i].2.1.length : Int) := by rw [lenI_def]; exact wrap8_id (by omega) (by omega)
      have hsl : (encS s[i].1).length ≤ 100 := by simp only [encS, List.length_cons, bytesOf_len]; omega
      rw [cond_pos (lt_len hi), cond_pos (inB_len hi)]
      simp only [hg, prefixed_eq N s[i].1 (by omega), oSome_some, oGet_some, Bool.true_and, e2, lapp_def, intsB_app]
      rw [cond_pos (by
        rw [room_str _ _ (by rw [intsB_length, intsB_length]; simp only [List.length_cons, List.length_nil]; omega), room_str _ _ (by rw [intsB_length, List.length_append]; simp only [List.length_cons, List.length_nil]; omega)]; rfl)]
      refine iterF_post (S := (List UInt8) × (Int × Unit)) (R := ((List Int) × (Int × Unit)) × Unit) (fun p => s[i].2.1.length - p.2.1.toNat) (fun p => ∃ j : Nat, p.2.1 = (j : Int) ∧ j ≤ s[i].2.1.length ∧ p.1 = o ++ intsB (encS s[i].1 ++ [(s[i].2.1.length : Int)] ++ (s[i].2.1.take j).flatMap encR)) (fun p => ((encI s, (0, ())), ())) ?_ N _ ⟨0, rfl, Nat.zero_le _, by simp⟩ (by simp; omega)
      rintro ih2 ⟨o2, _, _⟩ ⟨j, rfl, h3, ho2⟩ hih2
      simp only [Int.toNat_natCast] at hih2 ho2 ⊢
      by_cases hj : j < s[i].2.1.length
      · have hgj : lget s[i].2.1 (j : Int) ([] : Row') = s[i].2.1[j] := lget_nat (List.getElem?_eq_getElem hj)
        have hre := k3 s[i].2.1[j] (List.getElem_mem hj)
        obtain ⟨r1, r2⟩ := rowErr_zero hre
        have r3 := encR_len hre
        have ho2l : o2.length ≤ 900000 := by
          have h5 : ((s[i].2.1.take j).flatMap encR).length ≤ 400 * (s[i].2.1.take j).length := rows_len fun t ht => k3 t (List.mem_of_mem_take ht)
          have h6 : (s[i].2.1.take j).length ≤ 24 := by rw [List.length_take]; omega
          rw [ho2, List.length_append, intsB_length, List.length_append, List.length_append]; simp only [List.length_cons, List.length_nil]; omega
        rw [cond_pos (lt_len hj), cond_pos (inB_len hj)]
        simp only [hgj, rowString_eq N _ r1 r2 (show 20 < N by omega), oSome_some, oGet_some, Bool.true_and]
        rw [cond_pos (room_str _ _ (by rw [intsB_length]; omega)), iadd_nat (by omega), hih2 _ ⟨j + 1, rfl, by omega, by rw [ho2, flatMap_take hj, List.append_assoc, intsB_app, List.append_assoc]⟩ (by simp only [Int.toNat_natCast]; omega)]
      · have hj' : j = s[i].2.1.length := by omega
        rw [cond_neg (nlt_len hj), iadd_nat (by omega), hih _ ⟨i + 1, rfl, by omega, by
          subst hj'
          rw [ho2, ho, intsB_app, flatMap_take hi, List.take_length, encT]
          simp⟩ (by simp only [Int.toNat_natCast]; omega)]
    · have hi' : i = s.length := by omega
      rw [cond_neg (nlt_len hi), ho]
      subst hi'
      rw [List.take_length]
      have : bytesI (intsB ((s.length : Int) :: s.flatMap encT)) = encI s := bytesI_intsB (encI_byt h)
      rw [this]
  · rw [cond_pos (by simp [h]), if_neg h]

end
end Go.Proofs.YtigjpdkeijcabaaDoor
