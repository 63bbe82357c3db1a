/- Complements: both encoders, both decoders, the law. -/
import Derived.Test.YtigjpdkeijcabaaDoorInd
set_option linter.unusedVariables false
set_option linter.unusedSimpArgs false
set_option linter.unnecessarySimpa false
set_option linter.unusedSectionVars false
set_option linter.unusedSimpArgs false
set_option maxRecDepth 100000
namespace Go.Proofs.YtigjpdkeijcabaaDoor
open Go.Vi
noncomputable section

abbrev Ins' : Type := List Rel'
abbrev Edg' : Type := List Ins'

/-! ## What is valid, how it is encoded -/
def instsErr : List Ins' → Int
  | [] => 0
  | t :: r => if instErr t ≠ 0 then instErr t else instsErr r
def cpErr : List Edg' → Int
  | [] => 0
  | e :: r => if 6 < e.length then 2 else if instsErr e ≠ 0 then instsErr e else cpErr r
def cErr (c : List Edg') : Int := if 8 < c.length then 2 else cpErr c

def len3 (n : Nat) : List Int := [((n / 65536 % 256 : Nat) : Int), ((n / 256 % 256 : Nat) : Int), ((n % 256 : Nat) : Int)]
def encX (i : Ins') : List Int := len3 (encI i).length ++ encI i
def encE (e : Edg') : List Int := (e.length : Int) :: e.flatMap encX
def encM (c : List Edg') : List Int := (c.length : Int) :: c.flatMap encE

theorem encI_len {s : Ins'} (h : instErr s = 0) : (encI s).length ≤ 60001 := by
  obtain ⟨h1, h2⟩ := instErr_zero h
  have h3 := rels_len h2
  have h4 : 10000 * s.length ≤ 60000 := by omega
  simp only [encI, List.length_cons]
  omega
theorem encX_len {s : Ins'} (h : instErr s = 0) : (encX s).length ≤ 60010 := by
  have := encI_len h
  simp only [encX, len3, List.length_append, List.length_cons, List.length_nil]
  omega

/-! ## The encoders -/
def outE (c : List Edg') (o : List Int) (k : Nat) : List Int × (Int × Unit) := if cpErr (c.drop k) = 0 then (o ++ (c.drop k).flatMap encE, (0, ())) else ([], (cpErr (c.drop k), ()))
def outX (c : List Edg') (e : Edg') (i : Nat) (o : List Int) (j : Nat) : List Int × (Int × Unit) := if instsErr (e.drop j) = 0 then outE c (o ++ (e.drop j).flatMap encX) (i + 1) else ([], (instsErr (e.drop j), ()))

theorem shr16 (n : Nat) : iwrap .u8 (shrI .i64 (n : Int) 16) = ((n / 65536 % 256 : Nat) : Int) := by
  rw [show (16 : Int) = ((16 : Nat) : Int) from rfl, shr64 (by omega), iwrap_def, wrap_u8, show (2 : Nat) ^ 16 = 65536 from rfl]; omega
theorem shr8 (n : Nat) : iwrap .u8 (shrI .i64 (n : Int) 8) = ((n / 256 % 256 : Nat) : Int) := by
  rw [show (8 : Int) = ((8 : Nat) : Int) from rfl, shr64 (by omega), iwrap_def, wrap_u8, show (2 : Nat) ^ 8 = 256 from rfl]; omega
theorem low8 (n : Nat) : iwrap .u8 (n : Int) = ((n % 256 : Nat) : Int) := by rw [iwrap_def, wrap_u8]; omega
theorem quo16 (n : Nat) (h : n < 9223372036854775808) : iwrap .u8 (iquo .i64 (n : Int) 65536) = ((n / 65536 % 256 : Nat) : Int) := by
  rw [iquo64 (by omega) (by omega) (by omega), iwrap_def, wrap_u8]; omega
theorem quo8 (n : Nat) (h : n < 9223372036854775808) : iwrap .u8 (iquo .i64 (n : Int) 256) = ((n / 256 % 256 : Nat) : Int) := by
  rw [iquo64 (by omega) (by omega) (by omega), iwrap_def, wrap_u8]; omega

theorem encode_eq (N : Nat) (c : List Edg') (hs : ∀ e ∈ c, ∀ s ∈ e, ∀ t ∈ s, t.1.length ≤ 9223372036854775807 ∧ t.1.length < N) (hN : 1000 < N) : F_complementstore_Encode N (c, ()) = some ((if cErr c = 0 then (encM c, (0, ())) else ([], (cErr c, ()))), ()) := by
  simp only [F_complementstore_Encode, letJ_def]
  by_cases h : 8 < c.length
  · rw [show cErr c = 2 from if_pos h, if_neg (by decide), cond_pos (by rw [show (8 : Int) = ((8 : Nat) : Int) from rfl, lt_lit]; simpa using h)]
  · rw [show cErr c = cpErr c from if_neg h, cond_neg (by rw [show (8 : Int) = ((8 : Nat) : Int) from rfl, lt_lit]; simpa using h)]
    have e0 : iwrap .u8 (lenI c) = (c.length : Int) := by rw [lenI_def]; exact wrap8_id (by omega) (by omega)
    rw [e0]
    have fin : (if cpErr c = 0 then (encM c, (0, ())) else ([], (cpErr c, ()))) = outE c [(c.length : Int)] 0 := rfl
    rw [fin]
    refine iterF_post (S := (List Int) × (Int × Unit)) (R := ((List Int) × (Int × Unit)) × Unit) (fun p => c.length - p.2.1.toNat) (fun p => ∃ i : Nat, p.2.1 = (i : Int) ∧ i ≤ c.length ∧ p.1.length ≤ 10 + 400000 * i) (fun p => (outE c p.1 p.2.1.toNat, ())) ?_ N ([(c.length : Int)], (0, ())) ⟨0, rfl, Nat.zero_le _, by simp⟩ (by simp; omega)
    rintro ih ⟨o, _, _⟩ ⟨i, rfl, h2, ho⟩ hih
    simp only [Int.toNat_natCast] at hih ho ⊢
    by_cases hi : i < c.length
    · have hg : lget c (i : Int) ([] : Edg') = c[i] := lget_nat (List.getElem?_eq_getElem hi)
      have hsi := hs c[i] (List.getElem_mem hi)
      rw [cond_pos (lt_len hi), cond_pos (inB_len hi)]
      simp only [hg]
      by_cases hl : 6 < c[i].length
      · rw [cond_pos (by rw [show (6 : Int) = ((6 : Nat) : Int) from rfl, lt_lit]; simpa using hl), outE, drop_cons' hi, cpErr, if_pos hl]; rfl
      · have e1 : iwrap .u8 (lenI c[i]) = (c[i].length : Int) := by rw [lenI_def]; exact wrap8_id (by omega) (by omega)
        rw [cond_neg (by rw [show (6 : Int) = ((6 : Nat) : Int) from rfl, lt_lit]; simpa using hl), cond_pos (room_one _ _ (by omega)), e1, lapp_def]
        have fin2 : outE c o i = outX c c[i] i (o ++ [(c[i].length : Int)]) 0 := by
          rw [outE, drop_cons' hi, cpErr, if_neg hl, outX, List.drop_zero]
          by_cases he : instsErr c[i] = 0
          · rw [if_neg (show ¬ (instsErr c[i] ≠ 0) from fun h => h he), if_pos he, outE]
            simp only [List.flatMap_cons, encE, List.append_assoc, List.cons_append, List.nil_append]
          · rw [if_pos (show instsErr c[i] ≠ 0 from he), if_neg he, if_neg he]
        rw [fin2]
        refine iterF_post (S := (List Int) × (Int × Unit)) (R := ((List Int) × (Int × Unit)) × Unit) (fun p => c[i].length - p.2.1.toNat) (fun p => ∃ j : Nat, p.2.1 = (j : Int) ∧ j ≤ c[i].length ∧ p.1.length ≤ 20 + 400000 * i + 60010 * j) (fun p => (outX c c[i] i p.1 p.2.1.toNat, ())) ?_ N (o ++ [(c[i].length : Int)], (0, ())) ⟨0, rfl, Nat.zero_le _, by simp only [List.length_append, List.length_cons, List.length_nil]; omega⟩ (by simp; omega)
        rintro ih2 ⟨o2, _, _⟩ ⟨j, rfl, h3, ho2⟩ hih2
        simp only [Int.toNat_natCast] at hih2 ho2 ⊢
        by_cases hj : j < c[i].length
        · have hgj : lget c[i] (j : Int) ([] : Ins') = c[i][j] := lget_nat (List.getElem?_eq_getElem hj)
          rw [cond_pos (lt_len hj), cond_pos (inB_len hj)]
          simp only [hgj, encodeInstance_eq N c[i][j] (hsi _ (List.getElem_mem hj)) hN, oSome_some, oGet_some, cond_true, neI_dec]
          rw [outX, drop_cons' hj, instsErr]
          by_cases he : instErr c[i][j] = 0
          · have hxl := encI_len he
            simp only [he, if_true, ne_eq, not_true_eq_false, if_false]
            rw [cond_neg (by simp)]
            have el : lenI (encI c[i][j]) = ((encI c[i][j]).length : Int) := lenI_def _
            simp only [el, shr16, shr8, low8]
            rw [show ([(((encI c[i][j]).length / 65536 % 256 : Nat) : Int), (((encI c[i][j]).length / 256 % 256 : Nat) : Int), (((encI c[i][j]).length % 256 : Nat) : Int)] : List Int) = len3 (encI c[i][j]).length from rfl, lapp_def, lapp_def]
            have hrm1 : room2 (lenI o2) (lenI (len3 (encI c[i][j]).length)) 1 = true := room2_ok (by simp only [len3, List.length_cons, List.length_nil]; omega)
            have hrm2 : room2 (lenI (o2 ++ len3 (encI c[i][j]).length)) ((encI c[i][j]).length : Int) 1 = true := by
              rw [← el]; exact room2_ok (by simp only [len3, List.length_append, List.length_cons, List.length_nil]; omega)
            rw [cond_pos (by rw [hrm1, hrm2, leI_def, leI_def]; rfl), iadd_nat (by omega), hih2 _ ⟨j + 1, rfl, by omega, by simp only [len3, List.length_append, List.length_cons, List.length_nil]; omega⟩ (by simp only [Int.toNat_natCast]; omega), outX]
            simp only [Int.toNat_natCast, List.flatMap_cons, encX, List.append_assoc]
          · simp only [he, if_false, ne_eq, not_false_eq_true, if_true]
            rw [cond_pos (by simp)]
        · have hj' : j = c[i].length := by omega
          have hx : outX c c[i] i o2 j = outE c o2 (i + 1) := by
            rw [outX, hj', List.drop_length]
            simp [instsErr]
          have hb : 60010 * j ≤ 360060 := by omega
          rw [cond_neg (nlt_len hj), iadd_nat (by omega), hih _ ⟨i + 1, rfl, by omega, by simp only; omega⟩ (by simp only [Int.toNat_natCast]; omega), hx]
          simp only [Int.toNat_natCast]
    · have hi' : i = c.length := by omega
      rw [cond_neg (nlt_len hi), outE, hi', List.drop_length]
      simp [cpErr]

theorem refEncode_eq (N : Nat) (c : List Edg') (hN : 1000 < N) : F_stemref4_EncodeComplements N (c, ()) = some ((if cErr c = 0 then (encM c, (0, ())) else ([], (cErr c, ()))), ()) := by
  simp only [F_stemref4_EncodeComplements, letJ_def]
  by_cases h : 8 < c.length
  · rw [show cErr c = 2 from if_pos h, if_neg (by decide), cond_pos (by rw [show (8 : Int) = ((8 : Nat) : Int) from rfl, lt_lit]; simpa using h)]
  · rw [show cErr c = cpErr c from if_neg h, cond_neg (by rw [show (8 : Int) = ((8 : Nat) : Int) from rfl, lt_lit]; simpa using h)]
    have e0 : iwrap .u8 (lenI c) = (c.length : Int) := by rw [lenI_def]; exact wrap8_id (by omega) (by omega)
    rw [e0]
    have fin : (if cpErr c = 0 then (encM c, (0, ())) else ([], (cpErr c, ()))) = outE c [(c.length : Int)] 0 := rfl
    rw [fin]
    refine iterF_post (S := (List Int) × (Int × Unit)) (R := ((List Int) × (Int × Unit)) × Unit) (fun p => c.length - p.2.1.toNat) (fun p => ∃ i : Nat, p.2.1 = (i : Int) ∧ i ≤ c.length ∧ p.1.length ≤ 10 + 400000 * i) (fun p => (outE c p.1 p.2.1.toNat, ())) ?_ N ([(c.length : Int)], (0, ())) ⟨0, rfl, Nat.zero_le _, by simp⟩ (by simp; omega)
    rintro ih ⟨o, _, _⟩ ⟨i, rfl, h2, ho⟩ hih
    simp only [Int.toNat_natCast] at hih ho ⊢
    by_cases hi : i < c.length
    · have hg : lget c (i : Int) ([] : Edg') = c[i] := lget_nat (List.getElem?_eq_getElem hi)
      rw [cond_pos (lt_len hi), cond_pos (inB_len hi)]
      simp only [hg]
      by_cases hl : 6 < c[i].length
      · rw [cond_pos (by rw [show (6 : Int) = ((6 : Nat) : Int) from rfl, lt_lit]; simpa using hl), outE, drop_cons' hi, cpErr, if_pos hl]; rfl
      · have e1 : iwrap .u8 (lenI c[i]) = (c[i].length : Int) := by rw [lenI_def]; exact wrap8_id (by omega) (by omega)
        rw [cond_neg (by rw [show (6 : Int) = ((6 : Nat) : Int) from rfl, lt_lit]; simpa using hl), cond_pos (room_one _ _ (by omega)), e1, lapp_def]
        have fin2 : outE c o i = outX c c[i] i (o ++ [(c[i].length : Int)]) 0 := by
          rw [outE, drop_cons' hi, cpErr, if_neg hl, outX, List.drop_zero]
          by_cases he : instsErr c[i] = 0
          · rw [if_neg (show ¬ (instsErr c[i] ≠ 0) from fun h => h he), if_pos he, outE]
            simp only [List.flatMap_cons, encE, List.append_assoc, List.cons_append, List.nil_append]
          · rw [if_pos (show instsErr c[i] ≠ 0 from he), if_neg he, if_neg he]
        rw [fin2]
        refine iterF_post (S := (List Int) × (Int × Unit)) (R := ((List Int) × (Int × Unit)) × Unit) (fun p => c[i].length - p.2.1.toNat) (fun p => ∃ j : Nat, p.2.1 = (j : Int) ∧ j ≤ c[i].length ∧ p.1.length ≤ 20 + 400000 * i + 60010 * j) (fun p => (outX c c[i] i p.1 p.2.1.toNat, ())) ?_ N (o ++ [(c[i].length : Int)], (0, ())) ⟨0, rfl, Nat.zero_le _, by simp only [List.length_append, List.length_cons, List.length_nil]; omega⟩ (by simp; omega)
        rintro ih2 ⟨o2, _, _⟩ ⟨j, rfl, h3, ho2⟩ hih2
        simp only [Int.toNat_natCast] at hih2 ho2 ⊢
        by_cases hj : j < c[i].length
        · have hgj : lget c[i] (j : Int) ([] : Ins') = c[i][j] := lget_nat (List.getElem?_eq_getElem hj)
          rw [cond_pos (lt_len hj), cond_pos (inB_len hj)]
          simp only [hgj, refEncodeInstance_eq N c[i][j] hN, oSome_some, oGet_some, cond_true, neI_dec]
          rw [outX, drop_cons' hj, instsErr]
          by_cases he : instErr c[i][j] = 0
          · have hxl := encI_len he
            simp only [he, if_true, ne_eq, not_true_eq_false, if_false]
            rw [cond_neg (by simp)]
            have el : lenI (encI c[i][j]) = ((encI c[i][j]).length : Int) := lenI_def _
            have hlt : (encI c[i][j]).length < 9223372036854775808 := by omega
            simp only [el, quo16 _ hlt, quo8 _ hlt, low8]
            rw [show ([(((encI c[i][j]).length / 65536 % 256 : Nat) : Int), (((encI c[i][j]).length / 256 % 256 : Nat) : Int), (((encI c[i][j]).length % 256 : Nat) : Int)] : List Int) = len3 (encI c[i][j]).length from rfl, lapp_def, lapp_def]
            have hrm1 : room2 (lenI o2) (lenI (len3 (encI c[i][j]).length)) 1 = true := room2_ok (by simp only [len3, List.length_cons, List.length_nil]; omega)
            have hrm2 : room2 (lenI (o2 ++ len3 (encI c[i][j]).length)) ((encI c[i][j]).length : Int) 1 = true := by
              rw [← el]; exact room2_ok (by simp only [len3, List.length_append, List.length_cons, List.length_nil]; omega)
            rw [cond_pos (by rw [hrm1, hrm2]; rfl), iadd_nat (by omega), hih2 _ ⟨j + 1, rfl, by omega, by simp only [len3, List.length_append, List.length_cons, List.length_nil]; omega⟩ (by simp only [Int.toNat_natCast]; omega), outX]
            simp only [Int.toNat_natCast, List.flatMap_cons, encX, List.append_assoc]
          · simp only [he, if_false, ne_eq, not_false_eq_true, if_true]
            rw [cond_pos (by simp)]
        · have hj' : j = c[i].length := by omega
          have hx : outX c c[i] i o2 j = outE c o2 (i + 1) := by
            rw [outX, hj', List.drop_length]
            simp [instsErr]
          have hb : 60010 * j ≤ 360060 := by omega
          rw [cond_neg (nlt_len hj), iadd_nat (by omega), hih _ ⟨i + 1, rfl, by omega, by simp only; omega⟩ (by simp only [Int.toNat_natCast]; omega), hx]
          simp only [Int.toNat_natCast]
    · have hi' : i = c.length := by omega
      rw [cond_neg (nlt_len hi), outE, hi', List.drop_length]
      simp [cpErr]

end
end Go.Proofs.YtigjpdkeijcabaaDoor
