/- Steps: the codes, the copies, the comparisons. -/
import Derived.Test.YtpnklahcegahiaaDoorFnsC
import Derived.Test.YtpnklahcegahiaaDoorViEnc
set_option linter.unusedVariables false
set_option linter.unusedSimpArgs false
set_option linter.unnecessarySimpa false
set_option linter.unusedSectionVars false
set_option linter.unusedSimpArgs false
set_option maxRecDepth 100000
namespace Go.Proofs.YtpnklahcegahiaaDoor
open Go.Vi
noncomputable section

theorem sized_eq (N : Nat) (s : List UInt8) (h : (sizedC s).length ≤ 1099511627776) : F_stemref2_sized N (s, ()) = some ((sizedC s, ()), ()) := by
  have hl : (Lib.itoa (s.length : Int)).length + 1 + s.length ≤ 1099511627776 := by
    unfold sizedC at h
    simp only [List.length_append, List.length_cons] at h
    omega
  simp only [F_stemref2_sized, F_strconv_Itoa, oSome_some, oGet_some, Bool.true_and, lenI_def s, lapp_def]
  rw [roomS (by omega) (by simp)]
  rw [← lenI_def s, roomS (by rw [lenI_def]; simp only [List.length_append, List.length_cons, List.length_nil]; omega) (by omega)]
  rw [lenI_def]
  simp [sizedC]

theorem formatBool_eq (N : Nat) (b : Bool) : F_strconv_FormatBool N (b, ()) = some ((boolC b, ()), ()) := by
  cases b <;> simp [F_strconv_FormatBool, F_internal_strconv_FormatBool, oSome_some, oGet_some, boolC]

theorem take_flat_len {α : Type} (f : α → List UInt8) (l : List α) (i : Nat) : (((l.take i).map f).flatten).length ≤ ((l.map f).flatten).length := by
  have e : l.map f = (l.take i).map f ++ (l.drop i).map f := by rw [← List.map_append, List.take_append_drop]
  rw [e, List.flatten_append, List.length_append]
  omega

theorem flat_snoc {α : Type} (f : α → List UInt8) (l : List α) {i : Nat} (hi : i < l.length) : ((l.take (i + 1)).map f).flatten = ((l.take i).map f).flatten ++ f l[i] := by
  rw [take_snoc hi, List.map_append, List.flatten_append, List.map_cons, List.map_nil, List.flatten_cons, List.flatten_nil, List.append_nil]

theorem foreignKeyID_eq (N : Nat) (f : D_api_ForeignKey) (hN : f.2.1.length < N) (h : (fkC f).length ≤ 1099511627776) (hb : f.2.1.length ≤ 1099511627776) : F_stemref2_foreignKeyID N (f, ()) = some ((fkC f, ()), ()) := by
  obtain ⟨t, cs, r, ⟨⟩⟩ := f
  simp only at hN hb
  have h0 : (sizedC t).length + (sizedC r).length + (colsC cs).length ≤ 1099511627776 := by
    unfold fkC at h
    simp only [List.length_append] at h
    omega
  simp only [F_stemref2_foreignKeyID, letJ_def]
  rw [sized_eq N t (by omega), sized_eq N r (by omega)]
  simp only [oSome_some, oGet_some, Bool.true_and]
  rw [cond_pos (roomS (by omega) (by omega))]
  refine iterF_seq (S := D_runtime_errorAddressString) (fun i => (sizedC t ++ (sizedC r ++ colsC (cs.take i)), ((i : Int), ()))) cs.length _ (by simp [lapp_def, colsC]) (fun i hi ih => ?_) (fun ih => ?_) hN
  · have h1 : (colsC (cs.take (i + 1))).length ≤ (colsC cs).length := take_flat_len _ _ _
    have e1 : colsC (cs.take (i + 1)) = colsC (cs.take i) ++ 44 :: Lib.itoa cs[i] := flat_snoc _ _ hi
    rw [e1, List.length_append, List.length_cons] at h1
    simp only
    rw [cond_pos (lt_len hi), inB_len hi, cond_true, lget_at _ hi]
    simp only [F_strconv_Itoa, oSome_some, oGet_some, Bool.true_and, lapp_def]
    rw [roomS (by simp) (by omega), roomS (by simp only [List.length_append]; omega) (by simp only [List.length_append, List.length_cons, List.length_nil]; omega)]
    simp only [Bool.and_self, cond_true]
    rw [iadd_nat (by omega), e1]
    simp
  · simp only
    rw [cond_neg (nlt_len (Nat.lt_irrefl _)), List.take_length]
    rfl

theorem tableID_eq (N : Nat) (t : D_api_Table) (hN : t.2.1.length < N) (hN2 : t.2.2.1.length < N) (h : (tabC t).length ≤ 1099511627776) (hb : t.2.1.length ≤ 1099511627776) (hb2 : t.2.2.1.length ≤ 1099511627776) : F_stemref2_TableID N (t, ()) = some ((tabC t, ()), ()) := by
  obtain ⟨n, cs, ks, ⟨⟩⟩ := t
  simp only at hN hN2 hb hb2
  have h0 : (sizedC n).length + 1 + (Lib.itoa (cs.length : Int)).length + 1 + ((cs.map colC).flatten).length + (pkC ks).length + 1 ≤ 1099511627776 := by
    unfold tabC at h
    simp only [List.length_append, List.length_cons, List.length_nil] at h
    omega
  simp only [F_stemref2_TableID, letJ_def]
  rw [sized_eq N n (by omega)]
  simp only [oSome_some, oGet_some, Bool.true_and, F_strconv_Itoa, lapp_def]
  have hI : lenI cs = (cs.length : Int) := lenI_def cs
  rw [roomS (a := sizedC n) (by omega) (by simp), roomS (a := sizedC n ++ [40]) (by simp only [List.length_append, List.length_cons, List.length_nil]; omega) (by rw [hI]; omega),
    roomS (a := sizedC n ++ [40] ++ Lib.itoa (lenI cs)) (by rw [hI]; simp only [List.length_append, List.length_cons, List.length_nil]; omega) (by simp)]
  simp only [Bool.and_self, cond_true]
  generalize hp : sizedC n ++ [40] ++ Lib.itoa (lenI cs) ++ [44] = pre
  have hpl : pre.length = (sizedC n).length + 1 + (Lib.itoa (cs.length : Int)).length + 1 := by
    rw [← hp, hI]; simp only [List.length_append, List.length_cons, List.length_nil]
  refine iterF_run (S := D_runtime_errorAddressString) (fun i => (pre ++ ((cs.take i).map colC).flatten, ((i : Int), ()))) cs.length _ (by simp) (fun i hi ih => ?_) (fun ih => ?_) hN
  · have h1 : (((cs.take (i + 1)).map colC).flatten).length ≤ ((cs.map colC).flatten).length := take_flat_len _ _ _
    have e1 : ((cs.take (i + 1)).map colC).flatten = ((cs.take i).map colC).flatten ++ colC cs[i] := flat_snoc _ _ hi
    have e2 : (colC cs[i]).length = (sizedC cs[i].1).length + (Lib.itoa cs[i].2.1).length + (boolC cs[i].2.2.1).length + 1 := by
      simp only [colC, List.length_append, List.length_cons, List.length_nil]; omega
    rw [e1, List.length_append] at h1
    simp only
    rw [cond_pos (lt_len hi), inB_len hi, cond_true, lget_at _ hi]
    rw [sized_eq N cs[i].1 (by omega), formatBool_eq]
    simp only [oSome_some, oGet_some, Bool.true_and]
    rw [roomS (a := sizedC cs[i].1) (by omega) (by omega), roomS (a := sizedC cs[i].1 ++ Lib.itoa cs[i].2.1) (by simp only [List.length_append]; omega) (by omega),
      roomS (a := sizedC cs[i].1 ++ Lib.itoa cs[i].2.1 ++ boolC cs[i].2.2.1) (by simp only [List.length_append]; omega) (by simp),
      roomS (a := pre ++ ((cs.take i).map colC).flatten) (by simp only [List.length_append]; omega) (by simp only [List.length_append, List.length_cons, List.length_nil]; omega)]
    simp only [Bool.and_self, cond_true]
    rw [iadd_nat (by omega), e1]
    simp [colC]
  · simp only
    rw [cond_neg (nlt_len (Nat.lt_irrefl _)), List.take_length]
    refine iterF_run (S := D_runtime_errorAddressString) (fun i => (pre ++ (cs.map colC).flatten ++ pkC (ks.take i), ((i : Int), ()))) ks.length _ (by simp [pkC]) (fun i hi ih => ?_) (fun ih => ?_) hN2
    · have h1 : (pkC (ks.take (i + 1))).length ≤ (pkC ks).length := take_flat_len _ _ _
      have e1 : pkC (ks.take (i + 1)) = pkC (ks.take i) ++ (Lib.itoa ks[i] ++ [44]) := flat_snoc _ _ hi
      rw [e1, List.length_append, List.length_append, List.length_cons] at h1
      simp only
      rw [cond_pos (lt_len hi), inB_len hi, cond_true, lget_at _ hi]
      rw [roomS (a := Lib.itoa ks[i]) (by omega) (by simp), roomS (a := pre ++ (cs.map colC).flatten ++ pkC (ks.take i)) (by simp only [List.length_append]; omega) (by simp only [List.length_append, List.length_cons, List.length_nil]; omega)]
      simp only [Bool.and_self, cond_true]
      rw [iadd_nat (by omega), e1]
      simp
    · simp only
      rw [cond_neg (nlt_len (Nat.lt_irrefl _)), List.take_length, roomS (by simp only [List.length_append]; omega) (by simp), cond_true, ← hp, hI]
      simp [tabC]

theorem encode_eq (N : Nat) (r : List D_api_Value) (h : (encR r).length ≤ 1099511627776) : F_stemref2_Encode N (r, ()) = some ((encR r, ()), ()) := by
  rw [F_stemref2_Encode, if_pos h]

theorem stepID_eq (N : Nat) (x : D_api_Step) (hN : x.2.2.2.2.2.2.1.length < N) (hN1 : x.2.2.2.2.2.2.2.2.2.1.2.1.length < N) (hN2 : x.2.2.2.2.2.2.2.2.2.1.2.2.1.length < N) (hN3 : x.2.2.2.2.2.2.2.2.2.2.2.1.2.1.length < N) (hB : N ≤ 1099511627776) (h : (stepC x).length ≤ 1099511627776) : F_stemref2_StepID N (x, ()) = some ((stepC x, ()), ()) := by
  have hl : (stepC x).length = (encR (stepRow1 x)).length + ((colsC x.2.2.2.2.2.2.1).length + (((tabC x.2.2.2.2.2.2.2.2.2.1).length + ((encR (stepRow2 x)).length + (fkC x.2.2.2.2.2.2.2.2.2.2.2.1).length)) + 1)) := by
    unfold stepC
    simp only [List.length_append, List.length_cons]
  have e1 := encode_eq N (stepRow1 x) (by omega)
  have e2 := encode_eq N (stepRow2 x) (by omega)
  have e3 := tableID_eq N x.2.2.2.2.2.2.2.2.2.1 hN1 hN2 (by omega) (by omega) (by omega)
  have e4 := foreignKeyID_eq N x.2.2.2.2.2.2.2.2.2.2.2.1 hN3 (by omega) (by omega)
  have hs : stepC x = encR (stepRow1 x) ++ (colsC x.2.2.2.2.2.2.1 ++ 59 :: (tabC x.2.2.2.2.2.2.2.2.2.1 ++ (encR (stepRow2 x) ++ fkC x.2.2.2.2.2.2.2.2.2.2.2.1))) := rfl
  rw [hs]
  rw [stepRow1] at e1 hl ⊢
  rw [stepRow2] at e2 hl ⊢
  simp only [F_stemref2_StepID, letJ_def]
  rw [e1, e2, e3, e4]
  clear e1 e2 e3 e4 hs
  generalize encR [(x.1, (x.2.2.2.2.2.1, (x.2.1, ()))), (0, (0, (x.2.2.1, ()))), (0, (0, (x.2.2.2.1, ()))), (0, (0, (x.2.2.2.2.1, ()))), (0, (0, (x.2.2.2.2.2.2.2.1, ()))), x.2.2.2.2.2.2.2.2.1] = r1 at *
  generalize encR [(x.2.2.2.2.2.2.2.2.2.2.1.2.1, (x.2.2.2.2.2.2.2.2.2.2.1.2.2.2.1, (x.2.2.2.2.2.2.2.2.2.2.1.1, ()))), (0, (0, (x.2.2.2.2.2.2.2.2.2.2.1.2.2.1, ()))), x.2.2.2.2.2.2.2.2.2.2.1.2.2.2.2.1] = r2 at *
  generalize tabC x.2.2.2.2.2.2.2.2.2.1 = tc at *
  generalize fkC x.2.2.2.2.2.2.2.2.2.2.2.1 = fc at *
  generalize x.2.2.2.2.2.2.1 = cs at *
  simp only [oSome_some, oGet_some, cond_true, Bool.true_and, lapp_def]
  refine iterF_run (S := D_runtime_errorAddressString) (fun i => (r1 ++ colsC (cs.take i), ((i : Int), ()))) cs.length _ (by simp [colsC]) (fun i hi ih => ?_) (fun ih => ?_) hN
  · have h1 : (colsC (cs.take (i + 1))).length ≤ (colsC cs).length := take_flat_len _ _ _
    have e1 : colsC (cs.take (i + 1)) = colsC (cs.take i) ++ 44 :: Lib.itoa cs[i] := flat_snoc _ _ hi
    rw [e1, List.length_append, List.length_cons] at h1
    simp only
    rw [cond_pos (lt_len hi), inB_len hi, cond_true, lget_at _ hi]
    simp only [F_strconv_Itoa, oSome_some, oGet_some, Bool.true_and]
    rw [roomS (a := [44]) (by simp) (by omega), roomS (a := r1 ++ colsC (cs.take i)) (by simp only [List.length_append]; omega) (by simp only [List.length_append, List.length_cons, List.length_nil]; omega)]
    simp only [Bool.and_self, cond_true]
    rw [iadd_nat (by omega), e1]
    simp
  · simp only
    rw [cond_neg (nlt_len (Nat.lt_irrefl _)), List.take_length]
    rw [roomS (a := [59]) (by simp) (by omega), roomS (a := [59] ++ tc) (by simp only [List.length_append, List.length_cons, List.length_nil]; omega) (by omega), roomS (a := r1 ++ colsC cs) (by simp only [List.length_append]; omega) (by simp only [List.length_append, List.length_cons, List.length_nil]; omega),
      roomS (b := fc) (by simp only [List.length_append, List.length_cons, List.length_nil]; omega) (by omega)]
    simp

/-! ## Copies -/
theorem clone_int (N : Nat) (xs : List Int) (h : xs.length ≤ 1099511627776) : F_slices_Clone_int N (xs, ()) = some ((xs, ()), ()) := cloneForm xs 8 (by omega)
theorem clone_col (N : Nat) (xs : List D_api_Column) (h : xs.length ≤ 1099511627776) : F_slices_Clone_api_Column N (xs, ()) = some ((xs, ()), ()) := cloneForm xs 32 (by omega)
theorem cloneTable_eq (N : Nat) (t : D_api_Table) (h1 : t.2.1.length ≤ 1099511627776) (h2 : t.2.2.1.length ≤ 1099511627776) : F_schema_CloneTable N (t, ()) = some ((t, ()), ()) := by
  simp only [F_schema_CloneTable, clone_int N t.2.2.1 h2, clone_col N t.2.1 h1, oSome_some, oGet_some, Bool.and_self, cond_true]
theorem clone_eq (N : Nat) (x : D_api_Step) (h : x.2.2.2.2.2.2.1.length ≤ 1099511627776) (h1 : x.2.2.2.2.2.2.2.2.2.1.2.1.length ≤ 1099511627776) (h2 : x.2.2.2.2.2.2.2.2.2.1.2.2.1.length ≤ 1099511627776) (h3 : x.2.2.2.2.2.2.2.2.2.2.2.1.2.1.length ≤ 1099511627776) : F_evolution_Clone N (x, ()) = some ((x, ()), ()) := by
  simp only [F_evolution_Clone, clone_int N _ h, clone_int N _ h3, cloneTable_eq N _ h1 h2, oSome_some, oGet_some, cond_true]

/-! ## Comparisons -/
set_option synthInstance.maxHeartbeats 400000 in
set_option synthInstance.maxSize 4000 in
instance decTable : DecidableEq D_api_Table := inferInstance
set_option synthInstance.maxHeartbeats 400000 in
set_option synthInstance.maxSize 4000 in
instance dec0 : DecidableEq D_api_Value := inferInstance
set_option synthInstance.maxHeartbeats 400000 in
set_option synthInstance.maxSize 4000 in
instance dec1 : DecidableEq D_api_Constraint := inferInstance
instance dec2 : DecidableEq (D_api_ForeignKey × Unit) := inferInstance
instance dec3 : DecidableEq (D_api_Constraint × (D_api_ForeignKey × Unit)) := instDecidableEqProd
instance dec4 : DecidableEq (D_api_Table × (D_api_Constraint × (D_api_ForeignKey × Unit))) := instDecidableEqProd
instance dec5 : DecidableEq (D_api_Value × (D_api_Table × (D_api_Constraint × (D_api_ForeignKey × Unit)))) := instDecidableEqProd
instance dec6 : DecidableEq (List UInt8 × (D_api_Value × (D_api_Table × (D_api_Constraint × (D_api_ForeignKey × Unit))))) := instDecidableEqProd
instance dec7 : DecidableEq (List Int × (List UInt8 × (D_api_Value × (D_api_Table × (D_api_Constraint × (D_api_ForeignKey × Unit)))))) := instDecidableEqProd
instance dec8 : DecidableEq (Int × (List Int × (List UInt8 × (D_api_Value × (D_api_Table × (D_api_Constraint × (D_api_ForeignKey × Unit))))))) := instDecidableEqProd
instance dec9 : DecidableEq (List UInt8 × (Int × (List Int × (List UInt8 × (D_api_Value × (D_api_Table × (D_api_Constraint × (D_api_ForeignKey × Unit)))))))) := instDecidableEqProd
instance decA : DecidableEq (List UInt8 × (List UInt8 × (Int × (List Int × (List UInt8 × (D_api_Value × (D_api_Table × (D_api_Constraint × (D_api_ForeignKey × Unit))))))))) := instDecidableEqProd
instance decB : DecidableEq (List UInt8 × (List UInt8 × (List UInt8 × (Int × (List Int × (List UInt8 × (D_api_Value × (D_api_Table × (D_api_Constraint × (D_api_ForeignKey × Unit)))))))))) := instDecidableEqProd
instance decC : DecidableEq (List UInt8 × (List UInt8 × (List UInt8 × (List UInt8 × (Int × (List Int × (List UInt8 × (D_api_Value × (D_api_Table × (D_api_Constraint × (D_api_ForeignKey × Unit))))))))))) := instDecidableEqProd
instance decStep : DecidableEq D_api_Step := instDecidableEqProd
theorem equal_int (N : Nat) (xs ys : List Int) (hN : xs.length < N) (hb : xs.length ≤ 1099511627776) : F_slices_Equal_int N (xs, (ys, ())) = some ((decide (xs = ys), ()), ()) := by
  simp only [F_slices_Equal_int]
  by_cases hl : xs.length = ys.length
  · rw [cond_neg (by rw [neI_dec, lenI_def, lenI_def, hl]; simp)]
    exact equalLoop (ne := neI) (fun a b => neI_dec a b) xs ys 0 hl hb hN
  · rw [cond_pos (by rw [neI_dec, lenI_def, lenI_def]; simp; omega)]
    have : xs ≠ ys := fun h => hl (by rw [h])
    simp [this]
theorem equal_col (N : Nat) (xs ys : List D_api_Column) (hN : xs.length < N) (hb : xs.length ≤ 1099511627776) : F_slices_Equal_api_Column N (xs, (ys, ())) = some ((decide (xs = ys), ()), ()) := by
  simp only [F_slices_Equal_api_Column]
  by_cases hl : xs.length = ys.length
  · rw [cond_neg (by rw [neI_dec, lenI_def, lenI_def, hl]; simp)]
    refine equalLoop (ne := fun (a b : D_api_Column) => !((eqS a.1 b.1) && ((eqI a.2.1 b.2.1) && (eqB a.2.2.1 b.2.2.1)))) (fun a b => ?_) xs ys (([] : List UInt8), (0, (false, ()))) hl hb hN
    obtain ⟨a1, a2, a3, ⟨⟩⟩ := a
    obtain ⟨b1, b2, b3, ⟨⟩⟩ := b
    simp only [eqS_dec, eqI_dec, eqB_dec, Prod.mk.injEq, and_true, Bool.decide_and]
  · rw [cond_pos (by rw [neI_dec, lenI_def, lenI_def]; simp; omega)]
    have : xs ≠ ys := fun h => hl (by rw [h])
    simp [this]
theorem equalTables_eq (N : Nat) (a b : D_api_Table) (hN : a.2.1.length < N) (hN2 : a.2.2.1.length < N) (hB : N ≤ 1099511627776) : F_schema_EqualTables N (a, (b, ())) = some ((decide (a = b), ()), ()) := by
  obtain ⟨a1, a2, a3, ⟨⟩⟩ := a
  obtain ⟨b1, b2, b3, ⟨⟩⟩ := b
  simp only at hN hN2
  simp only [F_schema_EqualTables, F_schema_equalTables, equal_int N a3 b3 hN2 (by omega), equal_col N a2 b2 hN (by omega), oSome_some, oGet_some, eqS_dec, Bool.or_true, Bool.and_self, cond_true, Prod.mk.injEq, and_true, Bool.decide_and, Bool.and_assoc]
theorem equalFk_eq (N : Nat) (a b : D_api_ForeignKey) (hN : a.2.1.length < N) (hB : N ≤ 1099511627776) : F_schema_EqualForeignKeys N (a, (b, ())) = some ((decide (a = b), ()), ()) := by
  obtain ⟨a1, a2, a3, ⟨⟩⟩ := a
  obtain ⟨b1, b2, b3, ⟨⟩⟩ := b
  simp only at hN
  simp only [F_schema_EqualForeignKeys, equal_int N a2 b2 hN (by omega), oSome_some, oGet_some, eqS_dec, Bool.or_true, cond_true, Prod.mk.injEq, and_true, Bool.decide_and, Bool.and_assoc]
theorem equal_eq (N : Nat) (x y : D_api_Step) (hN : x.2.2.2.2.2.2.1.length < N) (hN1 : x.2.2.2.2.2.2.2.2.2.1.2.1.length < N) (hN2 : x.2.2.2.2.2.2.2.2.2.1.2.2.1.length < N) (hN3 : x.2.2.2.2.2.2.2.2.2.2.2.1.2.1.length < N) (hB : N ≤ 1099511627776) : F_evolution_Equal N (x, (y, ())) = some ((decide (x = y), ()), ()) := by
  obtain ⟨a1, a2, a3, a4, a5, a6, a7, a8, ⟨v1, v2, v3, ⟨⟩⟩, a10, ⟨c1, c2, c3, c4, ⟨d1, d2, d3, ⟨⟩⟩, ⟨⟩⟩, a12, ⟨⟩⟩ := x
  obtain ⟨b1, b2, b3, b4, b5, b6, b7, b8, ⟨u1, u2, u3, ⟨⟩⟩, b10, ⟨g1, g2, g3, g4, ⟨k1, k2, k3, ⟨⟩⟩, ⟨⟩⟩, b12, ⟨⟩⟩ := y
  simp only at hN hN1 hN2 hN3
  simp only [F_evolution_Equal, equal_int N a7 b7 hN (by omega), equalTables_eq N a10 b10 hN1 hN2 hB, equalFk_eq N a12 b12 hN3 hB, oSome_some, oGet_some, eqS_dec, eqI_dec, Bool.or_true, Bool.and_self, cond_true, Prod.mk.injEq, and_true, Bool.decide_and, Bool.and_assoc]

/-! ## Which kinds -/
theorem contains_eq (N : Nat) (l : List Int) (k : Int) (hN : l.length < N) (hb : l.length ≤ 1099511627776) : F_slices_Contains_int N (l, (k, ())) = some ((decide (k ∈ l), ()), ()) := by
  have key : F_slices_Index_int N (l, (k, ())) = some (((if k ∈ l then (l.idxOf k : Int) else -1), ()), ()) := by
    simp only [F_slices_Index_int]
    refine iterF_post (S := Int × Unit) (R := (Int × Unit) × Unit) (fun p => l.length - p.1.toNat) (fun p => ∃ i : Nat, p.1 = (i : Int) ∧ i ≤ l.length ∧ k ∉ l.take i) (fun _ => (((if k ∈ l then (l.idxOf k : Int) else -1), ()), ())) ?_ N _ ⟨0, rfl, Nat.zero_le _, by simp⟩ (by simp; omega)
    rintro ih ⟨_, _⟩ ⟨i, rfl, h2, h3⟩ hih
    simp only [Int.toNat_natCast] at hih ⊢
    by_cases hi : i < l.length
    · rw [cond_pos (lt_len hi), inB_len hi, cond_true, lget_at _ hi, eqI_dec]
      by_cases e : k = l[i]
      · rw [cond_pos (by simp [e])]
        have hm : k ∈ l := by rw [e]; exact List.getElem_mem hi
        have hx : l.idxOf k = i := by
          have e1 : l = l.take i ++ l[i] :: l.drop (i + 1) := by rw [List.getElem_cons_drop, List.take_append_drop]
          rw [e1, List.idxOf_append, if_neg h3, ← e, List.idxOf_cons_self, List.length_take]
          omega
        rw [if_pos hm, hx]
      · rw [cond_neg (by simp [e]), iadd_nat (by omega), hih _ ⟨i + 1, rfl, by omega, by rw [take_snoc hi, List.mem_append, List.mem_singleton]; exact fun h => h.elim h3 e⟩ (by simp only [Int.toNat_natCast]; omega)]
    · rw [cond_neg (nlt_len hi)]
      have e1 : i = l.length := by omega
      subst e1
      rw [List.take_length] at h3
      rw [if_neg h3]
  simp only [F_slices_Contains_int, key, oSome_some, oGet_some, cond_true]
  by_cases h : k ∈ l
  · rw [if_pos h, leI_dec]; simp [h]
  · rw [if_neg h, leI_dec]; simp [h]
theorem uses_eq (N : Nat) (l : List Int) (x : D_api_Step) (hN : 10 < N) (hl : l.length ≤ 10) : F_stemref2_usedFields_1 N (l, (x, ())) = some ((decide (x.1 ∈ l), ()), ()) := by
  simp only [F_stemref2_usedFields_1, contains_eq N l x.1 (by omega) (by omega), oSome_some, oGet_some, cond_true]

end
end Go.Proofs.YtpnklahcegahiaaDoor
