/- Schemas: the codes, the copies, the comparisons. -/
import Derived.Test.YtolaedcogjhfbaaDoorNam
import Derived.Test.YtolaedcogjhfbaaDoorViEnc
set_option linter.unusedVariables false
set_option linter.unusedSimpArgs false
set_option linter.unnecessarySimpa false
set_option linter.unusedSectionVars false
set_option linter.unusedSimpArgs false
set_option maxRecDepth 100000
namespace Go.Proofs.YtolaedcogjhfbaaDoor
open Go.Vi
noncomputable section

theorem sized_eq (N : Nat) (s : List UInt8) (h : (sizedC s).length ≤ 1099511627776) : F_stemref2_sized N (s, ()) = some ((sizedC s, ()), ()) := by
  have hl : (Lib.itoa (s.length : Int)).length + 1 + s.length ≤ 1099511627776 := by
    unfold sizedC at h
    simp only [List.length_append, List.length_cons] at h
    omega
  simp only [F_stemref2_sized, F_strconv_Itoa, oSome_some, oGet_some, Bool.true_and, lenI_def s, lapp_def]
  rw [roomS (by omega) (by simp)]
  rw [← lenI_def s, roomS (by rw [lenI_def]; simp only [List.length_append, List.length_cons, List.length_nil]; omega) (by omega)]
  rw [lenI_def]
  simp [sizedC]

theorem formatBool_eq (N : Nat) (b : Bool) : F_strconv_FormatBool N (b, ()) = some ((boolC b, ()), ()) := by
  cases b <;> simp [F_strconv_FormatBool, F_internal_strconv_FormatBool, oSome_some, oGet_some, boolC]

theorem take_flat_len {α : Type} (f : α → List UInt8) (l : List α) (i : Nat) : (((l.take i).map f).flatten).length ≤ ((l.map f).flatten).length := by
  have e : l.map f = (l.take i).map f ++ (l.drop i).map f := by rw [← List.map_append, List.take_append_drop]
  rw [e, List.flatten_append, List.length_append]
  omega

theorem flat_snoc {α : Type} (f : α → List UInt8) (l : List α) {i : Nat} (hi : i < l.length) : ((l.take (i + 1)).map f).flatten = ((l.take i).map f).flatten ++ f l[i] := by
  rw [take_snoc hi, List.map_append, List.flatten_append, List.map_cons, List.map_nil, List.flatten_cons, List.flatten_nil, List.append_nil]

theorem foreignKeyID_eq (N : Nat) (f : D_api_ForeignKey) (hN : f.2.1.length < N) (h : (fkC f).length ≤ 1099511627776) (hb : f.2.1.length ≤ 1099511627776) : F_stemref2_foreignKeyID N (f, ()) = some ((fkC f, ()), ()) := by
  obtain ⟨t, cs, r, ⟨⟩⟩ := f
  simp only at hN hb
  have h0 : (sizedC t).length + (sizedC r).length + (colsC cs).length ≤ 1099511627776 := by
    unfold fkC at h
    simp only [List.length_append] at h
    omega
  simp only [F_stemref2_foreignKeyID, letJ_def]
  rw [sized_eq N t (by omega), sized_eq N r (by omega)]
  simp only [oSome_some, oGet_some, Bool.true_and]
  rw [cond_pos (roomS (by omega) (by omega))]
  refine iterF_seq (S := D_runtime_errorAddressString) (fun i => (sizedC t ++ (sizedC r ++ colsC (cs.take i)), ((i : Int), ()))) cs.length _ (by simp [lapp_def, colsC]) (fun i hi ih => ?_) (fun ih => ?_) hN
  · have h1 : (colsC (cs.take (i + 1))).length ≤ (colsC cs).length := take_flat_len _ _ _
    have e1 : colsC (cs.take (i + 1)) = colsC (cs.take i) ++ 44 :: Lib.itoa cs[i] := flat_snoc _ _ hi
    rw [e1, List.length_append, List.length_cons] at h1
    simp only
    rw [cond_pos (lt_len hi), inB_len hi, cond_true, lget_at _ hi]
    simp only [F_strconv_Itoa, oSome_some, oGet_some, Bool.true_and, lapp_def]
    rw [roomS (by simp) (by omega), roomS (by simp only [List.length_append]; omega) (by simp only [List.length_append, List.length_cons, List.length_nil]; omega)]
    simp only [Bool.and_self, cond_true]
    rw [iadd_nat (by omega), e1]
    simp
  · simp only
    rw [cond_neg (nlt_len (Nat.lt_irrefl _)), List.take_length]
    rfl

theorem tableID_eq (N : Nat) (t : D_api_Table) (hN : t.2.1.length < N) (hN2 : t.2.2.1.length < N) (h : (tabC t).length ≤ 1099511627776) (hb : t.2.1.length ≤ 1099511627776) (hb2 : t.2.2.1.length ≤ 1099511627776) : F_stemref2_TableID N (t, ()) = some ((tabC t, ()), ()) := by
  obtain ⟨n, cs, ks, ⟨⟩⟩ := t
  simp only at hN hN2 hb hb2
  have h0 : (sizedC n).length + 1 + (Lib.itoa (cs.length : Int)).length + 1 + ((cs.map colC).flatten).length + (pkC ks).length + 1 ≤ 1099511627776 := by
    unfold tabC at h
    simp only [List.length_append, List.length_cons, List.length_nil] at h
    omega
  simp only [F_stemref2_TableID, letJ_def]
  rw [sized_eq N n (by omega)]
  simp only [oSome_some, oGet_some, Bool.true_and, F_strconv_Itoa, lapp_def]
  have hI : lenI cs = (cs.length : Int) := lenI_def cs
  rw [roomS (a := sizedC n) (by omega) (by simp), roomS (a := sizedC n ++ [40]) (by simp only [List.length_append, List.length_cons, List.length_nil]; omega) (by rw [hI]; omega),
    roomS (a := sizedC n ++ [40] ++ Lib.itoa (lenI cs)) (by rw [hI]; simp only [List.length_append, List.length_cons, List.length_nil]; omega) (by simp)]
  simp only [Bool.and_self, cond_true]
  generalize hp : sizedC n ++ [40] ++ Lib.itoa (lenI cs) ++ [44] = pre
  have hpl : pre.length = (sizedC n).length + 1 + (Lib.itoa (cs.length : Int)).length + 1 := by
    rw [← hp, hI]; simp only [List.length_append, List.length_cons, List.length_nil]
  refine iterF_run (S := D_runtime_errorAddressString) (fun i => (pre ++ ((cs.take i).map colC).flatten, ((i : Int), ()))) cs.length _ (by simp) (fun i hi ih => ?_) (fun ih => ?_) hN
  · have h1 : (((cs.take (i + 1)).map colC).flatten).length ≤ ((cs.map colC).flatten).length := take_flat_len _ _ _
    have e1 : ((cs.take (i + 1)).map colC).flatten = ((cs.take i).map colC).flatten ++ colC cs[i] := flat_snoc _ _ hi
    have e2 : (colC cs[i]).length = (sizedC cs[i].1).length + (Lib.itoa cs[i].2.1).length + (boolC cs[i].2.2.1).length + 1 := by
      simp only [colC, List.length_append, List.length_cons, List.length_nil]; omega
    rw [e1, List.length_append] at h1
    simp only
    rw [cond_pos (lt_len hi), inB_len hi, cond_true, lget_at _ hi]
    rw [sized_eq N cs[i].1 (by omega), formatBool_eq]
    simp only [oSome_some, oGet_some, Bool.true_and]
    rw [roomS (a := sizedC cs[i].1) (by omega) (by omega), roomS (a := sizedC cs[i].1 ++ Lib.itoa cs[i].2.1) (by simp only [List.length_append]; omega) (by omega),
      roomS (a := sizedC cs[i].1 ++ Lib.itoa cs[i].2.1 ++ boolC cs[i].2.2.1) (by simp only [List.length_append]; omega) (by simp),
      roomS (a := pre ++ ((cs.take i).map colC).flatten) (by simp only [List.length_append]; omega) (by simp only [List.length_append, List.length_cons, List.length_nil]; omega)]
    simp only [Bool.and_self, cond_true]
    rw [iadd_nat (by omega), e1]
    simp [colC]
  · simp only
    rw [cond_neg (nlt_len (Nat.lt_irrefl _)), List.take_length]
    refine iterF_run (S := D_runtime_errorAddressString) (fun i => (pre ++ (cs.map colC).flatten ++ pkC (ks.take i), ((i : Int), ()))) ks.length _ (by simp [pkC]) (fun i hi ih => ?_) (fun ih => ?_) hN2
    · have h1 : (pkC (ks.take (i + 1))).length ≤ (pkC ks).length := take_flat_len _ _ _
      have e1 : pkC (ks.take (i + 1)) = pkC (ks.take i) ++ (Lib.itoa ks[i] ++ [44]) := flat_snoc _ _ hi
      rw [e1, List.length_append, List.length_append, List.length_cons] at h1
      simp only
      rw [cond_pos (lt_len hi), inB_len hi, cond_true, lget_at _ hi]
      rw [roomS (a := Lib.itoa ks[i]) (by omega) (by simp), roomS (a := pre ++ (cs.map colC).flatten ++ pkC (ks.take i)) (by simp only [List.length_append]; omega) (by simp only [List.length_append, List.length_cons, List.length_nil]; omega)]
      simp only [Bool.and_self, cond_true]
      rw [iadd_nat (by omega), e1]
      simp
    · simp only
      rw [cond_neg (nlt_len (Nat.lt_irrefl _)), List.take_length, roomS (by simp only [List.length_append]; omega) (by simp), cond_true, ← hp, hI]
      simp [tabC]

theorem encode_eq (N : Nat) (r : List D_api_Value) (h : (encR r).length ≤ 1099511627776) : F_stemref2_Encode N (r, ()) = some ((encR r, ()), ()) := by
  rw [F_stemref2_Encode, if_pos h]

theorem clone_int (N : Nat) (xs : List Int) (h : xs.length ≤ 1099511627776) : F_slices_Clone_int N (xs, ()) = some ((xs, ()), ()) := cloneForm xs 8 (by omega)

theorem clone_col (N : Nat) (xs : List D_api_Column) (h : xs.length ≤ 1099511627776) : F_slices_Clone_api_Column N (xs, ()) = some ((xs, ()), ()) := cloneForm xs 32 (by omega)

theorem cloneTable_eq (N : Nat) (t : D_api_Table) (h1 : t.2.1.length ≤ 1099511627776) (h2 : t.2.2.1.length ≤ 1099511627776) : F_schema_CloneTable N (t, ()) = some ((t, ()), ()) := by
  simp only [F_schema_CloneTable, clone_int N t.2.2.1 h2, clone_col N t.2.1 h1, oSome_some, oGet_some, Bool.and_self, cond_true]

set_option synthInstance.maxHeartbeats 400000 in
set_option synthInstance.maxSize 4000 in
instance decTable : DecidableEq D_api_Table := inferInstance
set_option synthInstance.maxHeartbeats 400000 in
set_option synthInstance.maxSize 4000 in
instance dec0 : DecidableEq D_api_Value := inferInstance
set_option synthInstance.maxHeartbeats 400000 in
set_option synthInstance.maxSize 4000 in
instance dec1 : DecidableEq D_api_Constraint := inferInstance
instance dec2 : DecidableEq D_api_ForeignKey := inferInstance
instance dec3 : DecidableEq (List D_api_Constraint × Unit) := instDecidableEqProd
instance dec4 : DecidableEq (List D_api_ForeignKey × (List D_api_Constraint × Unit)) := instDecidableEqProd
instance decSch : DecidableEq D_api_Schema := instDecidableEqProd

theorem equal_int (N : Nat) (xs ys : List Int) (hN : xs.length < N) (hb : xs.length ≤ 1099511627776) : F_slices_Equal_int N (xs, (ys, ())) = some ((decide (xs = ys), ()), ()) := by
  simp only [F_slices_Equal_int]
  by_cases hl : xs.length = ys.length
  · rw [cond_neg (by rw [neI_dec, lenI_def, lenI_def, hl]; simp)]
    exact equalLoop (ne := neI) (fun a b => neI_dec a b) xs ys 0 hl hb hN
  · rw [cond_pos (by rw [neI_dec, lenI_def, lenI_def]; simp; omega)]
    have : xs ≠ ys := fun h => hl (by rw [h])
    simp [this]

theorem equal_col (N : Nat) (xs ys : List D_api_Column) (hN : xs.length < N) (hb : xs.length ≤ 1099511627776) : F_slices_Equal_api_Column N (xs, (ys, ())) = some ((decide (xs = ys), ()), ()) := by
  simp only [F_slices_Equal_api_Column]
  by_cases hl : xs.length = ys.length
  · rw [cond_neg (by rw [neI_dec, lenI_def, lenI_def, hl]; simp)]
    refine equalLoop (ne := fun (a b : D_api_Column) => !((eqS a.1 b.1) && ((eqI a.2.1 b.2.1) && (eqB a.2.2.1 b.2.2.1)))) (fun a b => ?_) xs ys (([] : List UInt8), (0, (false, ()))) hl hb hN
    obtain ⟨a1, a2, a3, ⟨⟩⟩ := a
    obtain ⟨b1, b2, b3, ⟨⟩⟩ := b
    simp only [eqS_dec, eqI_dec, eqB_dec, Prod.mk.injEq, and_true, Bool.decide_and]
  · rw [cond_pos (by rw [neI_dec, lenI_def, lenI_def]; simp; omega)]
    have : xs ≠ ys := fun h => hl (by rw [h])
    simp [this]

theorem equalTables_eq (N : Nat) (a b : D_api_Table) (hN : a.2.1.length < N) (hN2 : a.2.2.1.length < N) (hB : N ≤ 1099511627776) : F_schema_EqualTables N (a, (b, ())) = some ((decide (a = b), ()), ()) := by
  obtain ⟨a1, a2, a3, ⟨⟩⟩ := a
  obtain ⟨b1, b2, b3, ⟨⟩⟩ := b
  simp only at hN hN2
  simp only [F_schema_EqualTables, F_schema_equalTables, equal_int N a3 b3 hN2 (by omega), equal_col N a2 b2 hN (by omega), oSome_some, oGet_some, eqS_dec, Bool.or_true, Bool.and_self, cond_true, Prod.mk.injEq, and_true, Bool.decide_and, Bool.and_assoc]

theorem equalFk_eq (N : Nat) (a b : D_api_ForeignKey) (hN : a.2.1.length < N) (hB : N ≤ 1099511627776) : F_schema_EqualForeignKeys N (a, (b, ())) = some ((decide (a = b), ()), ()) := by
  obtain ⟨a1, a2, a3, ⟨⟩⟩ := a
  obtain ⟨b1, b2, b3, ⟨⟩⟩ := b
  simp only at hN
  simp only [F_schema_EqualForeignKeys, equal_int N a2 b2 hN (by omega), oSome_some, oGet_some, eqS_dec, Bool.or_true, cond_true, Prod.mk.injEq, and_true, Bool.decide_and, Bool.and_assoc]
/-! ## Schemas -/
theorem equal_con (N : Nat) (xs ys : List D_api_Constraint) (hN : xs.length < N) (hb : xs.length ≤ 1099511627776) : F_slices_Equal_api_Constraint N (xs, (ys, ())) = some ((decide (xs = ys), ()), ()) := by
  simp only [F_slices_Equal_api_Constraint]
  by_cases hl : xs.length = ys.length
  · rw [cond_neg (by rw [neI_dec, lenI_def, lenI_def, hl]; simp)]
    refine equalLoop (ne := fun (a b : D_api_Constraint) => !((eqS a.1 b.1) && ((eqI a.2.1 b.2.1) && ((eqS a.2.2.1 b.2.2.1) && ((eqI a.2.2.2.1 b.2.2.2.1) && ((eqI a.2.2.2.2.1.1 b.2.2.2.2.1.1) && ((eqI a.2.2.2.2.1.2.1 b.2.2.2.2.1.2.1) && (eqS a.2.2.2.2.1.2.2.1 b.2.2.2.2.1.2.2.1)))))))) (fun a b => ?_) xs ys _ hl hb hN
    obtain ⟨a1, a2, a3, a4, ⟨a5, a6, a7, ⟨⟩⟩, ⟨⟩⟩ := a
    obtain ⟨b1, b2, b3, b4, ⟨b5, b6, b7, ⟨⟩⟩, ⟨⟩⟩ := b
    simp only [eqS_dec, eqI_dec, Prod.mk.injEq, and_true, Bool.decide_and]
  · rw [cond_pos (by rw [neI_dec, lenI_def, lenI_def]; simp; omega)]
    have : xs ≠ ys := fun h => hl (by rw [h])
    simp [this]

/-- Lists held against each other by a function. -/
theorem equalFunc_form {α : Type} [DecidableEq α] (f : (α × (α × Unit)) → Option (Bool × Unit)) (xs ys : List α) (d : α) (hf : ∀ a ∈ xs, ∀ b, f (a, (b, ())) = some (decide (a = b), ())) (N : Nat) (hN : xs.length < N) (hb : xs.length ≤ 1099511627776) :
    (bif (neI (lenI xs) (lenI ys)) then (some ((false, ()), ())) else (iterF (S := (Int × Unit)) (R := ((Bool × Unit) × Unit)) N (fun ih0 => (fun p1 => (bif (ltI p1.1 (lenI xs)) then (bif (inB p1.1 (lenI xs)) then (bif (inB p1.1 (lenI ys)) then (bif (oSome (f ((lget xs p1.1 d), ((lget ys p1.1 d), ())))) then (bif (!(oGet (f ((lget xs p1.1 d), ((lget ys p1.1 d), ()))) (false, ())).1) then (some ((false, ()), ())) else (ih0 ((iadd .i64 p1.1 1), ()))) else none) else none) else none) else (some ((true, ()), ()))))) (0, ()))) = some ((decide (xs = ys), ()), ()) := by
  by_cases hl : xs.length = ys.length
  · rw [cond_neg (by rw [neI_dec, lenI_def, lenI_def, hl]; simp)]
    have := equalLoop (ne := fun (a b : α) => !decide (a = b)) (fun a b => rfl) xs ys d hl hb hN
    rw [← this]
    congr 1
    funext ih p
    by_cases hlt : ltI p.1 (lenI xs) = true
    · rw [hlt]
      simp only [cond_true]
      by_cases hin : inB p.1 (lenI xs) = true
      · have hin2 : inB p.1 (lenI ys) = true := by rw [lenI_def] at hin ⊢; rw [← hl]; exact hin
        rw [hin, hin2]
        have hm : lget xs p.1 d ∈ xs := by
          rw [inB_dec, decide_eq_true_iff, lenI_def] at hin
          rw [lget_def, List.getD_eq_getElem?_getD, List.getElem?_eq_getElem (show p.1.toNat < xs.length by omega)]
          exact List.getElem_mem _
        simp only [cond_true, hf _ hm, oSome_some, oGet_some, Bool.and_self]
      · simp [hin]
    · simp [hlt]
  · rw [cond_pos (by rw [neI_dec, lenI_def, lenI_def]; simp; omega)]
    have : xs ≠ ys := fun h => hl (by rw [h])
    simp [this]

theorem equalTabs_eq (N : Nat) (a b : D_api_Table) (hN : a.2.1.length < N) (hN2 : a.2.2.1.length < N) (hB : N ≤ 1099511627776) : F_schema_equalTables N (a, (b, ())) = some ((decide (a = b), ()), ()) := by
  have h := equalTables_eq N a b hN hN2 hB
  simp only [F_schema_EqualTables] at h
  cases hf : F_schema_equalTables N (a, (b, ())) with
  | none => rw [hf, oSome_none] at h; cases h
  | some y =>
    obtain ⟨⟨y, ⟨⟩⟩, ⟨⟩⟩ := y
    rw [hf, oSome_some, oGet_some, cond_true] at h
    exact h

/-- What a schema holds is not too much. -/
structure Small (N : Nat) (s : D_api_Schema) : Prop where
  n : N ≤ 1099511627776
  t : s.1.length < N
  f : s.2.1.length < N
  c : s.2.2.1.length < N
  tc : ∀ t ∈ s.1, t.2.1.length < N
  tk : ∀ t ∈ s.1, t.2.2.1.length < N
  fc : ∀ f ∈ s.2.1, f.2.1.length < N
  tn : ∀ t ∈ s.1, t.1.length < N
  cn : ∀ t ∈ s.1, ∀ c ∈ t.2.1, c.1.length < N

theorem schEqual_eq (N : Nat) (a b : D_api_Schema) (h : Small N a) : F_schema_Equal N (a, (b, ())) = some ((decide (a = b), ()), ()) := by
  obtain ⟨a1, a2, a3, ⟨⟩⟩ := a
  obtain ⟨b1, b2, b3, ⟨⟩⟩ := b
  have hn := h.n
  have e1 : F_slices_EqualFunc_api_Table N (a1, (b1, ((fun x0 => (omap (fun y1 => (y1.1.1, ())) (F_schema_equalTables N (x0.1, (x0.2.1, ()))))), ()))) = some ((decide (a1 = b1), ()), ()) :=
    equalFunc_form _ a1 b1 _ (fun x hx y => by simp only [equalTabs_eq N x y (h.tc x hx) (h.tk x hx) h.n, omap_def, Option.map_some]) N h.t (Nat.le_trans (Nat.le_of_lt h.t) hn)
  have e2 : F_slices_EqualFunc_api_ForeignKey N (a2, (b2, ((fun x0 => (omap (fun y1 => (y1.1.1, ())) (F_schema_EqualForeignKeys N (x0.1, (x0.2.1, ()))))), ()))) = some ((decide (a2 = b2), ()), ()) :=
    equalFunc_form _ a2 b2 _ (fun x hx y => by simp only [equalFk_eq N x y (h.fc x hx) h.n, omap_def, Option.map_some]) N h.f (Nat.le_trans (Nat.le_of_lt h.f) hn)
  have e3 := equal_con N a3 b3 h.c (Nat.le_trans (Nat.le_of_lt h.c) hn)
  simp only [F_schema_Equal]
  rw [e1, e2, e3]
  simp only [oSome_some, oGet_some, Bool.or_true, Bool.and_self, cond_true]
  congr 3
  rw [Bool.eq_iff_iff]
  simp [Prod.ext_iff, and_assoc]

theorem clone_con (N : Nat) (xs : List D_api_Constraint) (h : xs.length ≤ 1099511627776) : F_slices_Clone_api_Constraint N (xs, ()) = some ((xs, ()), ()) := cloneForm xs 80 (by omega)
theorem schClone_eq (N : Nat) (s : D_api_Schema) (h : Small N s) : F_schema_Clone N (s, ()) = some ((s, ()), ()) := by
  obtain ⟨a1, a2, a3, ⟨⟩⟩ := s
  have hn := h.n
  have ht := h.t
  have hf := h.f
  have hc := h.c
  simp only at ht hf hc
  simp only [F_schema_Clone]
  rw [clone_con N a3 (by omega)]
  simp only [oSome_some, oGet_some, cond_true]
  refine iterF_run (S := D_api_Schema × (Int × Unit)) (fun i => ((a1.take i, ([], (a3, ()))), ((i : Int), ()))) a1.length _ (by simp) (fun i hi ih => ?_) (fun ih => ?_) ht
  · simp only
    have hm : a1[i] ∈ a1 := List.getElem_mem hi
    have q1 : (a1[i]).2.1.length < N := h.tc _ hm
    have q2 : (a1[i]).2.2.1.length < N := h.tk _ hm
    rw [cond_pos (lt_len hi), cond_pos (inB_len hi), lget_at _ hi, cloneTable_eq N _ (by omega) (by omega), iadd_nat (by omega), oSome_some, oGet_some, room2_ok (by simp; omega), lapp_def, take_snoc hi]
    rfl
  · simp only
    rw [cond_neg (nlt_len (Nat.lt_irrefl _)), List.take_length]
    refine iterF_seq (S := D_api_Schema × (Int × Unit)) (fun i => ((a1, (a2.take i, (a3, ()))), ((i : Int), ()))) a2.length _ (by simp) (fun i hi ih => ?_) (fun ih => ?_) hf
    · simp only
      have hm : a2[i] ∈ a2 := List.getElem_mem hi
      have q1 : (a2[i]).2.1.length < N := h.fc _ hm
      rw [cond_pos (lt_len hi), cond_pos (inB_len hi), lget_at _ hi, clone_int N _ (by omega), iadd_nat (by omega), oSome_some, oGet_some, room2_ok (by simp; omega), lapp_def, take_snoc hi]
      rfl
    · simp only
      rw [cond_neg (nlt_len (Nat.lt_irrefl _)), List.take_length]

theorem schemaID_eq (N : Nat) (s : D_api_Schema) (h : Small N s) (hl : (schC s).length ≤ 1099511627776) : F_stemref2_SchemaID N (s, ()) = some ((schC s, ()), ()) := by
  obtain ⟨a1, a2, a3, ⟨⟩⟩ := s
  have hn := h.n
  have ht := h.t
  have hf := h.f
  have hc := h.c
  simp only at ht hf hc
  have h0 : (Lib.itoa (a1.length : Int)).length + 1 + ((Lib.itoa (a2.length : Int)).length + 1 + ((Lib.itoa (a3.length : Int)).length + 1 + (((a1.map tabC).flatten).length + (((a2.map fkS).flatten).length + ((a3.map conC).flatten).length)))) ≤ 1099511627776 := by
    unfold schC at hl
    simp only [List.length_append, List.length_cons] at hl
    omega
  simp only [F_stemref2_SchemaID, letJ_def, F_strconv_Itoa, oSome_some, oGet_some, Bool.true_and, lenI_def (α := D_api_Table), lenI_def (α := D_api_ForeignKey), lenI_def (α := D_api_Constraint), lapp_def]
  generalize hi1 : Lib.itoa (a1.length : Int) = i1 at h0 ⊢
  generalize hi2 : Lib.itoa (a2.length : Int) = i2 at h0 ⊢
  generalize hi3 : Lib.itoa (a3.length : Int) = i3 at h0 ⊢
  rw [roomS (a := i1) (by omega) (by simp), roomS (a := i1 ++ [59]) (by simp; omega) (by omega), roomS (a := i1 ++ [59] ++ i2) (by simp; omega) (by simp), roomS (a := i1 ++ [59] ++ i2 ++ [59]) (by simp; omega) (by omega), roomS (a := i1 ++ [59] ++ i2 ++ [59] ++ i3) (by simp; omega) (by simp)]
  simp only [Bool.and_self, cond_true]
  have hz : ∀ (x : List UInt8), schC (a1, a2, a3, ()) = i1 ++ [59] ++ i2 ++ [59] ++ i3 ++ [59] ++ (a1.map tabC).flatten ++ (a2.map fkS).flatten ++ (a3.map conC).flatten := fun _ => by
    simp [schC, hi1, hi2, hi3]
  rw [hz []]
  have hl0 : (i1 ++ [59] ++ i2 ++ [59] ++ i3 ++ [59]).length = i1.length + 1 + i2.length + 1 + i3.length + 1 := by simp; omega
  generalize i1 ++ [59] ++ i2 ++ [59] ++ i3 ++ [59] = P at *
  refine iterF_run (S := D_runtime_errorAddressString) (fun i => (P ++ ((a1.take i).map tabC).flatten, ((i : Int), ()))) a1.length _ (by simp) (fun i hi ih => ?_) (fun ih => ?_) ht
  · have hm : a1[i] ∈ a1 := List.getElem_mem hi
    have q1 : (a1[i]).2.1.length < N := h.tc _ hm
    have q2 : (a1[i]).2.2.1.length < N := h.tk _ hm
    have h1 := take_flat_len tabC a1 (i + 1)
    have e1 := flat_snoc tabC a1 hi
    rw [e1, List.length_append] at h1
    simp only
    rw [ltI_dec, inB_dec, decide_eq_true (by omega), decide_eq_true (by omega), lget_at _ hi, tableID_eq N _ q1 q2 (by omega) (by omega) (by omega)]
    simp only [oSome_some, oGet_some, Bool.true_and, cond_true]
    rw [cond_pos (roomS (by simp only [List.length_append]; omega) (by omega)), iadd_nat (by omega), e1, List.append_assoc]
  simp only
  rw [ltI_dec, decide_eq_false (by omega), cond_false, List.take_length]
  generalize hA : (a1.map tabC).flatten = A at *
  refine iterF_run (S := D_runtime_errorAddressString) (fun i => (P ++ A ++ ((a2.take i).map fkS).flatten, ((i : Int), ()))) a2.length _ (by simp) (fun i hi ih => ?_) (fun ih => ?_) hf
  · have hm : a2[i] ∈ a2 := List.getElem_mem hi
    have q1 : (a2[i]).2.1.length < N := h.fc _ hm
    have h1 := take_flat_len fkS a2 (i + 1)
    have e1 := flat_snoc fkS a2 hi
    rw [e1, List.length_append, fkS, List.length_append] at h1
    simp only
    rw [ltI_dec, inB_dec, decide_eq_true (by omega), decide_eq_true (by omega), lget_at _ hi, foreignKeyID_eq N _ q1 (by omega) (by omega)]
    simp only [oSome_some, oGet_some, Bool.true_and, cond_true]
    rw [roomS (b := [59]) (by omega) (by simp), roomS (a := P ++ A ++ ((a2.take i).map fkS).flatten) (by simp only [List.length_append]; omega) (by simp only [List.length_append, List.length_cons, List.length_nil]; omega)]
    simp only [Bool.and_self, cond_true]
    rw [iadd_nat (by omega), e1, List.append_assoc]
    rfl
  simp only
  rw [ltI_dec, decide_eq_false (by omega), cond_false, List.take_length]
  generalize hB : (a2.map fkS).flatten = B at *
  refine iterF_seq (S := D_runtime_errorAddressString) (fun i => (P ++ A ++ B ++ ((a3.take i).map conC).flatten, ((i : Int), ()))) a3.length _ (by simp) (fun i hi ih => ?_) (fun ih => ?_) hc
  · have h1 := take_flat_len conC a3 (i + 1)
    have e1 := flat_snoc conC a3 hi
    rw [e1, List.length_append] at h1
    have h2 : (conC a3[i]).length = (sizedC (a3[i]).1).length + ((sizedC (a3[i]).2.2.1).length + ((Lib.itoa (a3[i]).2.1).length + ((Lib.itoa (a3[i]).2.2.2.1).length + (encR [(a3[i]).2.2.2.2.1]).length + 1))) := by
      simp [conC]
    simp only
    rw [ltI_dec, inB_dec, decide_eq_true (by omega), decide_eq_true (by omega), lget_at _ hi]
    generalize hc3 : a3[i] = c3 at *
    rw [sized_eq N c3.1 (by omega), sized_eq N c3.2.2.1 (by omega), encode_eq N [c3.2.2.2.2.1] (by omega)]
    simp only [oSome_some, oGet_some, Bool.true_and, cond_true]
    have e2 : conC c3 = sizedC c3.1 ++ sizedC c3.2.2.1 ++ Lib.itoa c3.2.1 ++ [32] ++ Lib.itoa c3.2.2.2.1 ++ encR [c3.2.2.2.2.1] := by simp [conC]
    rw [e1, e2]
    generalize sizedC c3.1 = z1 at *
    generalize sizedC c3.2.2.1 = z2 at *
    generalize Lib.itoa c3.2.1 = z3 at *
    generalize Lib.itoa c3.2.2.2.1 = z4 at *
    generalize encR [c3.2.2.2.2.1] = z5 at *
    rw [roomS (a := z1) (by omega) (by omega), roomS (a := z1 ++ z2) (by simp; omega) (by omega), roomS (a := z1 ++ z2 ++ z3) (by simp; omega) (by simp), roomS (a := z1 ++ z2 ++ z3 ++ [32]) (by simp; omega) (by omega), roomS (a := z1 ++ z2 ++ z3 ++ [32] ++ z4) (by simp; omega) (by omega), roomS (a := P ++ A ++ B ++ ((a3.take i).map conC).flatten) (by simp only [List.length_append]; omega) (by simp; omega)]
    simp only [Bool.and_self, cond_true]
    rw [iadd_nat (by omega)]
    simp
  · simp only
    rw [ltI_dec, decide_eq_false (by omega), cond_false, List.take_length]


end
end Go.Proofs.YtolaedcogjhfbaaDoor
