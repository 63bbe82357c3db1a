/- Change lists: the checks, the encoders, the decoders, the law. -/
import Derived.Test.YtpnklahcegahiaaDoorInd
import Derived.Test.YtpnklahcegahiaaDoorChp
set_option linter.unusedVariables false
set_option linter.unusedSimpArgs false
set_option linter.unnecessarySimpa false
set_option linter.unusedSectionVars false
set_option linter.unusedSimpArgs false
set_option maxRecDepth 100000
namespace Go.Proofs.YtpnklahcegahiaaDoor
open Go.Vi
noncomputable section

abbrev chgD : Chg' := ((0 : Int), (([] : List UInt8), (([] : Row'), (([] : Row'), ()))))

theorem eqLen0 {α : Type} (xs : List α) : eqI (lenI xs) 0 = decide (xs.length = 0) := by rw [eqI_dec, lenI_def]; exact decide_eq_decide.2 (by omega)
theorem len0 {α : Type} (xs : List α) : decide (xs.length = 0) = (match xs with | [] => true | _ :: _ => false) := by cases xs <;> simp
theorem chOk_eq (c : Chg') : chOk c = ((decide (c.1 = 1) && decide (c.2.2.1.length = 0)) || (decide (c.1 = 2) && decide (c.2.2.2.1.length = 0))) := by
  have e : ∀ xs : Row', decide (xs.length = 0) = decide (xs = []) := fun xs => decide_eq_decide.2 List.length_eq_zero_iff
  rw [chOk, e, e]

/-! ## The checks -/
theorem rowsErr_two (a b : Row') : rowsErr [a, b] = if rowErr a ≠ 0 then rowErr a else rowErr b := by
  simp only [rowsErr]
  split
  · rfl
  · split
    · rfl
    · rename_i h; exact (Classical.byContradiction h : rowErr b = 0).symm

theorem checkChanges_eq (N : Nat) (s : List Chg') (hs : ∀ t ∈ s, t.2.1.length ≤ 9223372036854775807 ∧ t.2.1.length < N) (hN : 1000 < N) : F_encoding_CheckChanges N (s, ()) = some ((chgsErr s, ()), ()) := by
  simp only [F_encoding_CheckChanges, letJ_def, chgsErr]
  by_cases h : 24 < s.length
  · rw [if_pos h, cond_pos (by rw [show (24 : Int) = ((24 : Nat) : Int) from rfl, lt_lit]; simpa using h)]
  · rw [if_neg h, cond_neg (by rw [show (24 : Int) = ((24 : Nat) : Int) from rfl, lt_lit]; simpa using h)]
    refine iterF_post (S := Int × Unit) (R := (Int × Unit) × Unit) (fun p => s.length - p.1.toNat) (fun p => ∃ i : Nat, p.1 = (i : Int) ∧ i ≤ s.length) (fun p => ((chsErr (s.drop p.1.toNat), ()), ())) ?_ N _ ⟨0, rfl, Nat.zero_le _⟩ (by simp; omega)
    rintro ih ⟨_, _⟩ ⟨i, rfl, h2⟩ hih
    simp only [Int.toNat_natCast] at hih ⊢
    by_cases hi : i < s.length
    · have hg : lget s (i : Int) chgD = s[i] := lget_nat (List.getElem?_eq_getElem hi)
      have hsi := hs s[i] (List.getElem_mem hi)
      rw [cond_pos (lt_len hi), cond_pos (inB_len hi)]
      simp only [hg, validName_eq N _ hsi.1 hsi.2, oSome_some, oGet_some, Bool.or_true, cond_true, eqLen0, eqI_dec (y := 1), eqI_dec (y := 2)]
      rw [drop_cons' hi, chsErr]
      unfold chErr
      have key : ∀ a b n : Bool, ((!a && !b) || !n) = !((a || b) && n) := by intro a b n; cases a <;> cases b <;> cases n <;> rfl
      rw [key, ← chOk_eq]
      by_cases hn : chOk s[i] = true ∧ nameOk s[i].2.1 = true
      · rw [if_pos hn, cond_neg (by rw [hn.1, hn.2]; rfl), ← rowsErr_two]
        refine iterF_post (S := Int × Unit) (R := (Int × Unit) × Unit) (fun p => 2 - p.1.toNat) (fun p => ∃ j : Nat, p.1 = (j : Int) ∧ j ≤ 2) (fun p => (((if rowsErr ([s[i].2.2.1, s[i].2.2.2.1].drop p.1.toNat) ≠ 0 then rowsErr ([s[i].2.2.1, s[i].2.2.2.1].drop p.1.toNat) else chsErr (s.drop (i + 1))), ()), ())) ?_ N _ ⟨0, rfl, Nat.zero_le _⟩ (by simp; omega)
        rintro ih2 ⟨_, _⟩ ⟨j, rfl, h3⟩ hih2
        simp only [Int.toNat_natCast] at hih2 ⊢
        by_cases hj : j < 2
        · have hj' : j < [s[i].2.2.1, s[i].2.2.2.1].length := hj
          have hgj : lget [s[i].2.2.1, s[i].2.2.2.1] (j : Int) ([] : Row') = [s[i].2.2.1, s[i].2.2.2.1][j] := lget_nat (List.getElem?_eq_getElem hj')
          rw [cond_pos (by rw [ltI_def]; simp; omega), cond_pos (by rw [inB_def]; simp; omega)]
          simp only [hgj, checkRow_eq N _ (show 20 < N by omega), oSome_some, oGet_some, cond_true, neI_dec]
          rw [drop_cons' hj', rowsErr]
          by_cases he : rowErr [s[i].2.2.1, s[i].2.2.2.1][j] = 0
          · rw [cond_neg (by simp [he]), iadd_nat (by omega), hih2 _ ⟨j + 1, rfl, by omega⟩ (by simp only [Int.toNat_natCast]; omega)]
            simp only [Int.toNat_natCast, he, ne_eq, not_true_eq_false, if_false]
          · rw [cond_pos (by simp [he])]
            simp only [ne_eq, he, not_false_eq_true, if_true]
        · have hj' : j = 2 := by omega
          rw [cond_neg (by rw [ltI_def]; simp; omega), iadd_nat (by omega), hih _ ⟨i + 1, rfl, by omega⟩ (by simp only [Int.toNat_natCast]; omega)]
          subst hj'
          simp only [List.drop_succ_cons, List.drop_zero, List.drop_nil, rowsErr, Int.toNat_natCast, ne_eq, not_true_eq_false, if_false]
      · rw [if_neg hn, cond_pos (by
          rw [Bool.not_eq_true', Bool.and_eq_false_iff]
          by_cases h1 : chOk s[i] = true
          · exact .inr (by simpa using fun h2 => hn ⟨h1, h2⟩)
          · exact .inl (by simpa using h1))]
        rfl
    · have hi' : i = s.length := by omega
      rw [cond_neg (nlt_len hi)]
      subst hi'
      simp only [List.drop_length, chsErr]

theorem refCheckChanges_eq (N : Nat) (s : List Chg') (hN : 1000 < N) : F_stemref4_CheckChanges N (s, ()) = some ((chgsErr s, ()), ()) := by
  simp only [F_stemref4_CheckChanges, letJ_def, chgsErr]
  by_cases h : 24 < s.length
  · rw [if_pos h, cond_pos (by rw [show (24 : Int) = ((24 : Nat) : Int) from rfl, lt_lit]; simpa using h)]
  · rw [if_neg h, cond_neg (by rw [show (24 : Int) = ((24 : Nat) : Int) from rfl, lt_lit]; simpa using h)]
    refine iterF_post (S := Int × Unit) (R := (Int × Unit) × Unit) (fun p => s.length - p.1.toNat) (fun p => ∃ i : Nat, p.1 = (i : Int) ∧ i ≤ s.length) (fun p => ((chsErr (s.drop p.1.toNat), ()), ())) ?_ N _ ⟨0, rfl, Nat.zero_le _⟩ (by simp; omega)
    rintro ih ⟨_, _⟩ ⟨i, rfl, h2⟩ hih
    simp only [Int.toNat_natCast] at hih ⊢
    by_cases hi : i < s.length
    · have hg : lget s (i : Int) chgD = s[i] := lget_nat (List.getElem?_eq_getElem hi)
      rw [cond_pos (lt_len hi), cond_pos (inB_len hi)]
      simp only [hg, validTableName_eq N _ (show 100 < N by omega), refCheckRow_eq N _ (show 20 < N by omega), oSome_some, oGet_some, Bool.or_true, cond_true, eqLen0, eqI_dec (y := 1), eqI_dec (y := 2), neI_dec]
      rw [drop_cons' hi, chsErr]
      unfold chErr
      rw [← chOk_eq]
      by_cases hn : chOk s[i] = true ∧ nameOk s[i].2.1 = true
      · rw [if_pos hn, cond_neg (by rw [hn.1, hn.2]; rfl)]
        by_cases he : rowErr s[i].2.2.1 = 0
        · rw [cond_neg (by simp [he]), if_neg (show ¬ (rowErr s[i].2.2.1 ≠ 0) from fun h => h he)]
          by_cases he2 : rowErr s[i].2.2.2.1 = 0
          · rw [cond_neg (by simp [he2]), iadd_nat (by omega), hih _ ⟨i + 1, rfl, by omega⟩ (by simp only [Int.toNat_natCast]; omega), if_neg (show ¬ (rowErr s[i].2.2.2.1 ≠ 0) from fun h => h he2)]
            simp only [Int.toNat_natCast]
          · rw [cond_pos (by simp [he2]), if_pos (show rowErr s[i].2.2.2.1 ≠ 0 from he2)]
        · rw [cond_pos (by simp [he]), if_pos (show rowErr s[i].2.2.1 ≠ 0 from he), if_pos (show rowErr s[i].2.2.1 ≠ 0 from he)]
      · rw [if_neg hn, cond_pos (by
          rw [Bool.or_eq_true, Bool.not_eq_true', Bool.not_eq_true']
          by_cases h1 : chOk s[i] = true
          · exact .inr (by simpa using fun h2 => hn ⟨h1, h2⟩)
          · exact .inl (by simpa using h1))]
        rfl
    · have hi' : i = s.length := by omega
      rw [cond_neg (nlt_len hi)]
      subst hi'
      simp only [List.drop_length, chsErr]

/-! ## The encoders -/
theorem encodeChanges_eq (N : Nat) (s : List Chg') (hs : ∀ t ∈ s, t.2.1.length ≤ 9223372036854775807 ∧ t.2.1.length < N) (hN : 1000 < N) : F_encoding_EncodeChanges N (s, ()) = some ((if chgsErr s = 0 then (encCs s, (0, ())) else ([], (chgsErr s, ()))), ()) := by
  simp only [F_encoding_EncodeChanges, letJ_def, checkChanges_eq N s hs hN, oSome_some, oGet_some, cond_true, neI_dec]
  by_cases h : chgsErr s = 0
  · obtain ⟨hl, hv⟩ := chgsErr_zero h
    rw [cond_neg (by simp [h]), if_pos h]
    have e : iwrap .u8 (lenI s) = (s.length : Int) := by rw [lenI_def]; exact wrap8_id (by omega) (by omega)
    rw [e]
    refine iterF_post (S := (List Int) × (Int × Unit)) (R := ((List Int) × (Int × Unit)) × Unit) (fun p => s.length - p.2.1.toNat) (fun p => ∃ i : Nat, p.2.1 = (i : Int) ∧ i ≤ s.length ∧ p.1 = (s.length : Int) :: (s.take i).flatMap encC) (fun p => ((encCs s, (0, ())), ())) ?_ N _ ⟨0, rfl, Nat.zero_le _, by simp⟩ (by simp; omega)
    rintro ih ⟨o, _, _⟩ ⟨i, rfl, h2, ho⟩ hih
    simp only [Int.toNat_natCast] at hih ho ⊢
    by_cases hi : i < s.length
    · have hg : lget s (i : Int) chgD = s[i] := lget_nat (List.getElem?_eq_getElem hi)
      have hvi := hv s[i] (List.getElem_mem hi)
      obtain ⟨k1, k2, k3, k4⟩ := chErr_zero hvi
      have k5 := (nameOk_len k2).1
      have hol : o.length ≤ 70000 := by
        have h5 : ((s.take i).flatMap encC).length ≤ 1000 * (s.take i).length := chgs_len fun t ht => hv t (List.mem_of_mem_take ht)
        have h6 : (s.take i).length ≤ 24 := by rw [List.length_take]; omega
        rw [ho, List.length_cons]; omega
      have e2 : iwrap .u8 s[i].1 = s[i].1 := wrap8_id (by rcases k1 with ⟨h, _⟩ | ⟨h, _⟩ <;> omega) (by rcases k1 with ⟨h, _⟩ | ⟨h, _⟩ <;> omega)
      have hsl : (o ++ [s[i].1] ++ encS s[i].2.1).length ≤ 70100 := by simp only [List.length_append, encS, List.length_cons, List.length_nil, bytesOf_len]; omega
      obtain ⟨a1, a2⟩ := rowErr_zero k3
      obtain ⟨b1, b2⟩ := rowErr_zero k4
      rw [cond_pos (lt_len hi), cond_pos (inB_len hi)]
      simp only [hg, e2, lapp_def, appendString_eq N (o ++ [s[i].1]) (by simp only [List.length_append, List.length_cons, List.length_nil]; omega) s[i].2.1 (by omega), oSome_some, oGet_some, Bool.and_true, room_one o s[i].1 (by omega), cond_true, appendRow_eq N (o ++ [s[i].1] ++ encS s[i].2.1) (by omega) _ a1 a2 (show 20 < N by omega), appendRow_eq N (o ++ [s[i].1] ++ encS s[i].2.1) (by omega) _ b1 b2 (show 20 < N by omega)]
      have e3 : (bif eqI s[i].1 1 then true else true) = true := by cases eqI s[i].1 1 <;> rfl
      have e4 : (bif eqI s[i].1 1 then o ++ [s[i].1] ++ encS s[i].2.1 ++ encR s[i].2.2.2.1 else o ++ [s[i].1] ++ encS s[i].2.1 ++ encR s[i].2.2.1) = o ++ encC s[i] := by
        rw [eqI_dec, encC, chRow]
        by_cases k : s[i].1 = 1 <;> simp [k]
      rw [e3, cond_true, e4, iadd_nat (by omega), hih _ ⟨i + 1, rfl, by omega, by rw [ho, flatMap_take hi]; rfl⟩ (by simp only [Int.toNat_natCast]; omega)]
    · have hi' : i = s.length := by omega
      rw [cond_neg (nlt_len hi), ho]
      subst hi'
      rw [List.take_length]
      rfl
  · rw [cond_pos (by simp [h]), if_neg h]

theorem refEncodeChanges_eq (N : Nat) (s : List Chg') (hN : 1000 < N) : F_stemref4_EncodeChanges N (s, ()) = some ((if chgsErr s = 0 then (encCs s, (0, ())) else ([], (chgsErr s, ()))), ()) := by
  simp only [F_stemref4_EncodeChanges, letJ_def, refCheckChanges_eq N s hN, oSome_some, oGet_some, cond_true, neI_dec]
  by_cases h : chgsErr s = 0
  · obtain ⟨hl, hv⟩ := chgsErr_zero h
    rw [cond_neg (by simp [h]), if_pos h]
    have e : iwrap .u8 (lenI s) = (s.length : Int) := by rw [lenI_def]; exact wrap8_id (by omega) (by omega)
    rw [e]
    refine iterF_post (S := (List UInt8) × (Int × Unit)) (R := ((List Int) × (Int × Unit)) × Unit) (fun p => s.length - p.2.1.toNat) (fun p => ∃ i : Nat, p.2.1 = (i : Int) ∧ i ≤ s.length ∧ p.1 = intsB ((s.length : Int) :: (s.take i).flatMap encC)) (fun p => ((encCs s, (0, ())), ())) ?_ N _ ⟨0, rfl, Nat.zero_le _, by simp⟩ (by simp; omega)
    rintro ih ⟨o, _, _⟩ ⟨i, rfl, h2, ho⟩ hih
    simp only [Int.toNat_natCast] at hih ho ⊢
    by_cases hi : i < s.length
    · have hg : lget s (i : Int) chgD = s[i] := lget_nat (List.getElem?_eq_getElem hi)
      have hvi := hv s[i] (List.getElem_mem hi)
      obtain ⟨k1, k2, k3, k4⟩ := chErr_zero hvi
      have k5 := (nameOk_len k2).1
      have hol : o.length ≤ 70000 := by
        have h5 : ((s.take i).flatMap encC).length ≤ 1000 * (s.take i).length := chgs_len fun t ht => hv t (List.mem_of_mem_take ht)
        have h6 : (s.take i).length ≤ 24 := by rw [List.length_take]; omega
        rw [ho, intsB_length, List.length_cons]; omega
      have e2 : iwrap .u8 s[i].1 = s[i].1 := wrap8_id (by rcases k1 with ⟨h, _⟩ | ⟨h, _⟩ <;> omega) (by rcases k1 with ⟨h, _⟩ | ⟨h, _⟩ <;> omega)
      have hsl : (encS s[i].2.1).length ≤ 100 := by simp only [encS, List.length_cons, bytesOf_len]; omega
      obtain ⟨a1, a2⟩ := rowErr_zero k3
      obtain ⟨b1, b2⟩ := rowErr_zero k4
      have a3 := encR_len k3
      have b3 := encR_len k4
      rw [cond_pos (lt_len hi), cond_pos (inB_len hi)]
      simp only [hg, e2, lapp_def, prefixed_eq N s[i].2.1 (by omega), oSome_some, oGet_some, Bool.true_and, intsB_app]
      rw [cond_pos (by
        rw [room_str _ _ (by rw [intsB_length, intsB_length]; simp only [List.length_cons, List.length_nil]; omega), room_str _ _ (by rw [intsB_length, List.length_append]; simp only [List.length_cons, List.length_nil]; omega)]; rfl)]
      have hro : ∀ r : Row', (encR r).length ≤ 400 → room2 (lenI (o ++ intsB ([s[i].1] ++ encS s[i].2.1))) (lenI (intsB (encR r))) 1 = true := fun r hr => room_str _ _ (by rw [List.length_append, intsB_length, intsB_length, List.length_append]; simp only [List.length_cons, List.length_nil]; omega)
      simp only [rowString_eq N _ a1 a2 (show 20 < N by omega), rowString_eq N _ b1 b2 (show 20 < N by omega), oSome_some, oGet_some, Bool.true_and, hro _ a3, hro _ b3]
      have e3 : (bif eqI s[i].1 1 then true else true) = true := by cases eqI s[i].1 1 <;> rfl
      have e4 : (bif eqI s[i].1 1 then o ++ intsB ([s[i].1] ++ encS s[i].2.1) ++ intsB (encR s[i].2.2.2.1) else o ++ intsB ([s[i].1] ++ encS s[i].2.1) ++ intsB (encR s[i].2.2.1)) = o ++ intsB (encC s[i]) := by
        rw [eqI_dec, encC, chRow]
        by_cases k : s[i].1 = 1
        · rw [if_pos k, cond_pos (by simp [k]), List.append_assoc, intsB_app]; simp
        · rw [if_neg k, cond_neg (by simp [k]), List.append_assoc, intsB_app]; simp
      rw [e3, cond_true, e4, iadd_nat (by omega), hih _ ⟨i + 1, rfl, by omega, by rw [ho, intsB_app, flatMap_take hi]; rfl⟩ (by simp only [Int.toNat_natCast]; omega)]
    · have hi' : i = s.length := by omega
      rw [cond_neg (nlt_len hi), ho]
      subst hi'
      rw [List.take_length]
      have : bytesI (intsB ((s.length : Int) :: s.flatMap encC)) = encCs s := bytesI_intsB (encCs_byt h)
      rw [this]
  · rw [cond_pos (by simp [h]), if_neg h]

/-! ## The decoders -/
def encCO (s : List Chg') : List Int := if chgsErr s = 0 then encCs s else []
def finC (xs : List Int) (q : List Chg' × Dec') : List Chg' × (Int × Unit) :=
  if (!q.2.2.1 && decide (q.2.1 = []) && decide (chgsErr q.1 = 0) && decide (intsB xs = intsB (encCO q.1))) = true then (q.1, (0, ())) else ([], (3, ()))
def finCR (xs : List Int) (q : Option (List Chg' × List Int)) : List Chg' × (Int × Unit) := match q with
  | some (ts, y) => if y.length = 0 ∧ chgsErr ts = 0 ∧ intsB (encCO ts) = intsB xs then (ts, (0, ())) else ([], (3, ()))
  | none => ([], (3, ()))
theorem room_chgs (out : List Chg') (b : Chg') (h : out.length ≤ 1000000) : room2 (lenI out) (lenI ([b] : List Chg')) 72 = true := room2_ok (by simp only [List.length_cons, List.length_nil]; omega)
theorem chMk_bif (k : Int) (s : List UInt8) (r : Row') : (bif eqI k 1 then (k, (s, (([] : Row'), (r, ())))) else (k, (s, (r, (([] : Row'), ()))))) = chMk k s r := by
  rw [eqI_dec, chMk]
  by_cases h : k = 1 <;> simp [h]

theorem decodeChanges_run (N : Nat) (xs : List Int) (hb : Byt xs) (hN : 1000 < N) (hl : ¬ 65536 < xs.length) : F_encoding_DecodeChanges N (xs, ()) = some (finC xs (pChgList (xs, (false, ()))), ()) := by
  simp only [F_encoding_DecodeChanges, letJ_def]
  rw [cond_neg (by rw [ltI_def, lenI_def]; simp; omega)]
  have h0 := pByte_byt (d := (xs, (false, ()))) hb
  simp only [byte_eq, oSome_some, oGet_some, cond_true]
  refine iterF_post (S := Dec' × ((List Chg') × (Int × Unit))) (R := ((List Chg') × (Int × Unit)) × Unit) (fun p => p.2.2.1.toNat) (fun p => Byt p.1.1 ∧ (∀ t ∈ p.2.1, t.2.1.length ≤ 255) ∧ ∃ i : Nat, p.2.2.1 = (i : Int) ∧ p.2.1.length + i ≤ 255) (fun p => (finC xs (pChgs p.2.2.1.toNat p.1 p.2.1), ())) ?_ N _ ⟨h0.2, fun t ht => (by cases ht), (pByte (xs, (false, ()))).1.1.toNat, by simp only; omega, by simp only [List.length_nil]; omega⟩ (by simp only; omega)
  rintro ih ⟨d, rels, _, _⟩ ⟨hd, hnl, i, rfl, h2⟩ hih
  simp only [Int.toNat_natCast] at hih hd hnl h2 ⊢
  by_cases hc : i = 0 ∨ d.2.1 = true
  · have e0 : pChgs i d rels = (rels, d) := by
      rcases hc with h | h
      · subst h; rfl
      · cases i with
        | zero => rfl
        | succ i => rw [pChgs, if_pos h]
    rw [cond_neg (by
      rcases hc with h | h
      · subst h; rw [ltI_def]; rfl
      · rw [h]; simp), e0]
    have he := encodeChanges_eq N rels (fun t ht => ⟨by have := hnl t ht; omega, by have := hnl t ht; omega⟩) hN
    have hi0 : chgsErr rels = 0 ∨ chgsErr rels ≠ 0 := Classical.em _
    simp only [he, oSome_some, oGet_some, cond_true]
    rcases hi0 with hi0 | hi0
    · obtain ⟨z, hz⟩ := canonical_eq N d xs (encCs rels) 0
      simp only [hi0, if_true, hz, oSome_some, oGet_some, cond_true, finC, encCO]
      cases (!d.2.1 && decide (d.1 = []) && decide True && decide (intsB xs = intsB (encCs rels))) <;> simp
    · obtain ⟨z, hz⟩ := canonical_eq N d xs [] (chgsErr rels)
      simp only [hi0, if_false, hz, oSome_some, oGet_some, cond_true, finC, encCO, decide_false, Bool.and_false, Bool.false_and, Bool.not_false]
      simp
  · obtain ⟨k, hk⟩ : ∃ k, i = k + 1 := ⟨i - 1, by omega⟩
    subst hk
    have hbad : d.2.1 = false := by simpa using (not_or.1 hc).2
    have hb1 := pByte_byt hd
    have hb2 := pByte_byt hb1.2
    have hnm := pName_byt hb1.2
    have hstr := string_eq N (pByte (pByte d).2.1).2.1 (pByte (pByte d).2.1).1.1 hb2.1.1
    have ei : isub .u8 (((k + 1 : Nat)) : Int) 1 = (k : Int) := by rw [isub_def, wrap_u8]; omega
    have hrow := row_eq N (pName (pByte d).2.1).2 hnm hN
    have hrow' : F_decoder_row N ((pStr (pByte (pByte d).2.1).2.1 (pByte (pByte d).2.1).1.1).2.1, ()) = some (((pRow' (pName (pByte d).2.1).2).1, ()), ((pRow' (pName (pByte d).2.1).2).2, ())) := hrow
    have e3 : ∀ c : Bool, (bif c then true else true) = true := by intro c; cases c <;> rfl
    have e4 : ∀ (c : Bool) (z : Dec'), (bif c then z else z) = z := by intro c z; cases c <;> rfl
    rw [cond_pos (by rw [ltI_def, hbad]; simp)]
    simp only [wrapi64_id hb1.1.1 hb1.1.2, wrapi64_id hb2.1.1 hb2.1.2, hstr, hrow', oSome_some, oGet_some, cond_true, Bool.and_self, e3, e4, ei]
    rw [chMk_bif, cond_pos (room_chgs rels _ (by omega)), lapp_def]
    show ih ((pChg d).2, (rels ++ [(pChg d).1], ((k : Int), ()))) = _
    rw [hih _ ⟨pChg_byt hd, fun t ht => ?_, k, rfl, by simp only [List.length_append, List.length_cons, List.length_nil]; omega⟩ (by simp only [Int.toNat_natCast]; omega)]
    · simp only [Int.toNat_natCast]
      rw [pChgs, if_neg (by simp [hbad])]
    · rcases List.mem_append.1 ht with ht | ht
      · exact hnl t ht
      · simp only [List.mem_singleton] at ht
        subst ht
        have := name_len (d := (pByte (pByte d).2.1).2.1) hb2.1
        simp only [pChg, chMk]
        split <;> exact this

theorem decodeChanges_eq (N : Nat) (xs : List Int) (hb : Byt xs) (hN : 1000 < N) : ∃ o, F_encoding_DecodeChanges N (xs, ()) = some (o, ()) ∧ (if 65536 < xs.length then o = ([], (2, ())) else ChgOut xs o) := by
  by_cases hl : 65536 < xs.length
  · refine ⟨([], (2, ())), ?_, by rw [if_pos hl]⟩
    simp only [F_encoding_DecodeChanges, letJ_def]
    rw [cond_pos (by rw [ltI_def, lenI_def]; simp; omega)]
  · refine ⟨_, decodeChanges_run N xs hb hN hl, ?_⟩
    rw [if_neg hl]
    generalize hp : pChgList (xs, (false, ())) = p
    obtain ⟨s, d⟩ := p
    have key : ∀ s', chgsErr s' = 0 → encCs s' = xs → s = s' ∧ d = ([], (false, ())) := fun s' h1 h2 => by
      subst h2
      have := pChgList_enc h1 []
      rw [List.append_nil, hp] at this
      exact ⟨congrArg (fun x => x.1) this, congrArg (fun x => x.2) this⟩
    unfold finC
    split
    · rename_i hc
      simp only [Bool.and_eq_true, decide_eq_true_eq] at hc
      obtain ⟨⟨⟨c1, c2⟩, c3⟩, c4⟩ := hc
      rw [encCO, if_pos c3] at c4
      exact .inl ⟨s, c3, (intsB_inj hb (encCs_byt c3) c4).symm, rfl⟩
    · rename_i hc
      refine .inr ⟨?_, rfl⟩
      rintro ⟨s', h1, h2⟩
      obtain ⟨e1, e2⟩ := key s' h1 h2
      subst e1 e2
      rw [encCO, if_pos h1, h2] at hc
      simp [h1] at hc

theorem refDecodeChanges_run (N : Nat) (xs : List Int) (hb : Byt xs) (hN : 1000 < N) (hl : ¬ 65536 < xs.length) : F_stemref4_DecodeChanges N (xs, ()) = some ((if xs.length = 0 ∨ 24 < lget xs 0 0 then ([], (3, ())) else finCR xs (rChgs (lget xs 0 0).toNat (xs.drop 1) [])), ()) := by
  have g0 : 0 ≤ lget xs 0 0 ∧ lget xs 0 0 < 256 := lget_byt hb 0
  simp only [F_stemref4_DecodeChanges, letJ_def]
  rw [cond_neg (by rw [ltI_def, lenI_def]; simp; omega)]
  simp only [eqLen0, ltI_dec (x := 24)]
  rw [cond_pos (by
    by_cases h : xs.length = 0
    · simp [h]
    · rw [show inB 0 (lenI xs) = true from inB_len (i := 0) (by omega)]; simp)]
  by_cases hc : xs.length = 0 ∨ 24 < lget xs 0 0
  · rw [cond_pos (by simpa using hc), if_pos hc]
  · have b0 : inB 0 (lenI xs) = true := inB_len (i := 0) (by omega)
    have s1 : inS 1 (lenI xs) (lenI xs) = true := inS_from (i := 1) (by omega)
    have l1 : lslice xs 1 (lenI xs) = xs.drop 1 := slice_from xs 1
    rw [cond_neg (by simpa using hc), if_neg hc, b0, s1, l1, wrapi64_id g0.1 g0.2]
    simp only [cond_true]
    obtain ⟨m, hm⟩ := Int.eq_ofNat_of_zero_le g0.1
    have hm6 : m ≤ 24 := by omega
    rw [hm, Int.toNat_natCast]
    refine iterF_post (S := (List Chg') × ((List Int) × (Int × Unit))) (R := ((List Chg') × (Int × Unit)) × Unit) (fun p => m - p.2.2.1.toNat) (fun p => Byt p.2.1 ∧ p.2.1.length ≤ 1000000 ∧ ∃ i : Nat, p.2.2.1 = (i : Int) ∧ i ≤ m ∧ p.1.length = i) (fun p => (finCR xs (rChgs (m - p.2.2.1.toNat) p.2.1 p.1), ())) ?_ N _ ⟨hb.drop 1, by simp only [List.length_drop]; omega, 0, rfl, Nat.zero_le _, rfl⟩ (by simp; omega)
    rintro ih ⟨ts, x, _, _⟩ ⟨hx, hxl, i, rfl, h2, h3⟩ hih
    simp only [Int.toNat_natCast] at hih hx hxl h3 ⊢
    by_cases hi : i < m
    · obtain ⟨k, hk⟩ : ∃ k, m - i = k + 1 := ⟨m - i - 1, by omega⟩
      rw [cond_pos (by rw [ltI_def]; simp; omega), hk, rChgs, rChg]
      by_cases hx0 : x.length = 0
      · rw [cond_pos (by simpa using hx0), if_pos hx0]; rfl
      · have b1 : inB 0 (lenI x) = true := inB_len (i := 0) (by omega)
        have s2 : inS 1 (lenI x) (lenI x) = true := inS_from (i := 1) (by omega)
        have l2 : lslice x 1 (lenI x) = x.drop 1 := slice_from x 1
        have g1 := lget_byt hx 0
        simp only [Int.natCast_zero] at g1
        obtain ⟨n1, n2⟩ := rName_byt (hx.drop 1)
        simp only [List.length_drop] at n2
        rw [cond_neg (by simpa using hx0), if_neg hx0, b1, s2, l2]
        simp only [decodeName_eq N (x.drop 1) (hx.drop 1) (by simp only [List.length_drop]; omega), rDecodeRow_eq N _ n1 (by omega) (show 20 < N by omega), oSome_some, oGet_some, cond_true, Bool.and_self, wrapi64_id g1.1 g1.2]
        by_cases k1 : (rName (x.drop 1)).2.2.1 = true
        · rw [cond_neg (by rw [k1]; rfl), if_pos k1]
          by_cases k2 : (rRow0 (rName (x.drop 1)).2.1).2.2.1 = true
          · obtain ⟨r1, r2⟩ := rRow0_byt n1
            rw [cond_neg (by rw [k2]; rfl), if_pos k2, chMk_bif, cond_pos (room_chgs ts _ (by omega)), iadd_nat (by omega), lapp_def, hih _ ⟨r1, by simp only; omega, i + 1, rfl, by omega, by simp only [List.length_append, List.length_cons, List.length_nil]; omega⟩ (by simp only [Int.toNat_natCast]; omega)]
            simp only [Int.toNat_natCast, show m - (i + 1) = k by omega]
          · rw [if_neg k2, cond_pos (by rw [Bool.not_eq_true] at k2; rw [k2]; rfl)]; rfl
        · rw [if_neg k1, cond_pos (by rw [Bool.not_eq_true] at k1; rw [k1]; rfl)]; rfl
    · rw [cond_neg (by rw [ltI_def]; simp; omega), show m - i = 0 by omega, rChgs]
      simp only [refEncodeChanges_eq N ts hN, oSome_some, oGet_some, cond_true, finCR, eqS_dec, neI_dec, ltI_dec (x := 0)]
      by_cases he : chgsErr ts = 0
      · simp only [he, if_true, encCO]
        by_cases hc2 : x.length = 0 ∧ intsB (encCs ts) = intsB xs
        · rw [cond_neg (by rw [lenI_def]; simp [hc2.1, hc2.2]), if_pos ⟨hc2.1, trivial, hc2.2⟩]
        · rw [if_neg (fun h => hc2 ⟨h.1, h.2.2⟩), cond_pos]
          rw [lenI_def]
          by_cases h1 : x.length = 0
          · have h2 : ¬ intsB (encCs ts) = intsB xs := fun h => hc2 ⟨h1, h⟩
            simp [h1, h2]
          · have : 0 < x.length := by omega
            simp [this]
      · rw [cond_pos (by simp [he]), if_neg (fun h => he h.2.1)]

theorem refDecodeChanges_eq (N : Nat) (xs : List Int) (hb : Byt xs) (hN : 1000 < N) : ∃ o, F_stemref4_DecodeChanges N (xs, ()) = some (o, ()) ∧ (if 65536 < xs.length then o = ([], (2, ())) else ChgOut xs o) := by
  by_cases hl : 65536 < xs.length
  · refine ⟨([], (2, ())), ?_, by rw [if_pos hl]⟩
    simp only [F_stemref4_DecodeChanges, letJ_def]
    rw [cond_pos (by rw [ltI_def, lenI_def]; simp; omega)]
  · refine ⟨_, refDecodeChanges_run N xs hb hN hl, ?_⟩
    rw [if_neg hl]
    have key : ∀ s', chgsErr s' = 0 → encCs s' = xs → ¬ (xs.length = 0 ∨ 24 < lget xs 0 0) ∧ rChgs (lget xs 0 0).toNat (xs.drop 1) [] = some (s', []) := fun s' h1 h2 => by
      subst h2
      obtain ⟨k1, k2⟩ := chgsErr_zero h1
      have g : lget (encCs s') 0 0 = (s'.length : Int) := lget_nat (i := 0) rfl
      have e := rChgs_enc s' k2 [] []
      rw [List.append_nil, List.nil_append] at e
      rw [g, Int.toNat_natCast]
      exact ⟨by simp only [encCs, List.length_cons]; omega, e⟩
    split
    · rename_i hc
      refine .inr ⟨?_, rfl⟩
      rintro ⟨s', h1, h2⟩
      exact (key s' h1 h2).1 hc
    · generalize hp : rChgs (lget xs 0 0).toNat (xs.drop 1) [] = p
      unfold finCR
      split
      · rename_i ts y
        split
        · rename_i hc
          obtain ⟨c1, c2, c3⟩ := hc
          rw [encCO, if_pos c2] at c3
          exact .inl ⟨ts, c2, intsB_inj (encCs_byt c2) hb c3, rfl⟩
        · rename_i hc
          refine .inr ⟨?_, rfl⟩
          rintro ⟨s', h1, h2⟩
          have := (key s' h1 h2).2
          rw [hp] at this
          injection this with this
          injection this with e1 e2
          subst e1 e2
          exact hc ⟨rfl, h1, by rw [encCO, if_pos h1, h2]⟩
      · refine .inr ⟨?_, rfl⟩
        rintro ⟨s', h1, h2⟩
        have := (key s' h1 h2).2
        rw [hp] at this
        cases this

/-! ## The law -/
theorem changesEqual_refl (N : Nat) (s : List Chg') (h : chgsErr s = 0) (hN : 2000 < N) : F_stemref4_ChangesEqual N (s, (s, ())) = some ((true, ()), ()) := by
  obtain ⟨h1, hv⟩ := chgsErr_zero h
  simp only [F_stemref4_ChangesEqual, letJ_def]
  rw [cond_neg (by rw [neI_dec]; simp)]
  refine iterF_post (S := Int × Unit) (R := (Bool × Unit) × Unit) (fun p => s.length - p.1.toNat) (fun p => ∃ i : Nat, p.1 = (i : Int) ∧ i ≤ s.length) (fun p => ((true, ()), ())) ?_ N _ ⟨0, rfl, Nat.zero_le _⟩ (by simp; omega)
  rintro ih ⟨_, _⟩ ⟨i, rfl, h2⟩ hih
  simp only [Int.toNat_natCast] at hih ⊢
  by_cases hi : i < s.length
  · have hg : lget s (i : Int) chgD = s[i] := lget_nat (List.getElem?_eq_getElem hi)
    obtain ⟨k1, k2, k3, k4⟩ := chErr_zero (hv s[i] (List.getElem_mem hi))
    have a := rowsEqual_refl N s[i].2.2.1 (by have := (rowErr_zero k3).1; omega) hN
    have b := rowsEqual_refl N s[i].2.2.2.1 (by have := (rowErr_zero k4).1; omega) hN
    have hne : neI s[i].1 s[i].1 = false := by rw [neI_dec]; simp
    rw [cond_pos (lt_len hi)]
    simp only [hg, a, b, hne, eqS_dec, oSome_some, oGet_some, inB_len hi, decide_true, Bool.not_true, Bool.not_false, Bool.or_true, Bool.false_or, Bool.true_or, Bool.and_self, cond_true, cond_false, Bool.or_self]
    rw [iadd_nat (by omega), hih _ ⟨i + 1, rfl, by omega⟩ (by simp only [Int.toNat_natCast]; omega)]
  · rw [cond_neg (nlt_len hi)]

theorem law12 (x : (List Chg') × ((List Int) × Unit)) (hs : ∀ t ∈ x.1, t.2.1.length ≤ 9223372036854775807) (hb : Byt x.2.1) : ∃ N z, F_stemlaw4_EncodingChangesMatchReference N x = some ((true, ()), z) := by
  obtain ⟨s, xs, _⟩ := x
  obtain ⟨M, hM⟩ : ∃ M : Nat, ∀ t ∈ s, t.2.1.length < M := by
    clear hs hb
    induction s with
    | nil => exact ⟨0, fun t ht => by cases ht⟩
    | cons t s ih =>
      obtain ⟨M, hM⟩ := ih
      refine ⟨max M (t.2.1.length + 1), fun u hu => ?_⟩
      rcases List.mem_cons.1 hu with rfl | hu
      · omega
      · have := hM u hu; omega
  have hs' : ∀ t ∈ s, t.2.1.length ≤ 9223372036854775807 ∧ t.2.1.length < 3000 + M := fun t ht => ⟨hs t ht, by have := hM t ht; omega⟩
  obtain ⟨o, ho1, ho2⟩ := decodeChanges_eq (3000 + M) xs hb (by omega)
  obtain ⟨p, hp1, hp2⟩ := refDecodeChanges_eq (3000 + M) xs hb (by omega)
  have hop : o = p := by
    split at ho2
    · rename_i h
      rw [if_pos h] at hp2
      rw [ho2, hp2]
    · rename_i h
      rw [if_neg h] at hp2
      exact ho2.det hp2
  have hok : chgsErr o.1 = 0 := by
    split at ho2
    · rw [ho2]; rfl
    · rcases ho2 with ⟨r', h1, _, h3⟩ | ⟨_, h3⟩
      · rw [h3]; exact h1
      · rw [h3]; rfl
  subst hop
  refine ⟨3000 + M, (), ?_⟩
  simp only [F_stemlaw4_EncodingChangesMatchReference, letJ_def, ho1, hp1, encodeChanges_eq (3000 + M) s hs' (by omega), refEncodeChanges_eq (3000 + M) s (by omega), works_eq (3000 + M) (by omega), checkChanges_eq (3000 + M) s hs' (by omega), refCheckChanges_eq (3000 + M) s (by omega), oSome_some, oGet_some, cond_true, changesEqual_refl (3000 + M) o.1 hok (by omega)]
  simp [eqI_dec, eqS_dec]

theorem law12Said (x : (List Chg') × ((List Int) × Unit)) (h1 : (Ty.slice T_api_Change).good x.1) (h2 : (Ty.slice (.int .u8)).good x.2.1) : ∃ N z, F_stemlaw4_EncodingChangesMatchReference N x = some ((true, ()), z) :=
  law12 x (fun t ht => (h1 t ht).2.1) (byt_of_good h2)

end
end Go.Proofs.YtpnklahcegahiaaDoor
