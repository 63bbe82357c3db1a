/- Foreign keys, constraints, schemas: both checks say the same. -/
import Derived.Test.YtolaedcogjhfbaaDoorVal
set_option linter.unusedVariables false
set_option linter.unusedSimpArgs false
set_option linter.unnecessarySimpa false
set_option linter.unusedSectionVars false
set_option linter.unusedSimpArgs false
set_option maxRecDepth 100000
namespace Go.Proofs.YtolaedcogjhfbaaDoor
open Go.Vi
noncomputable section

theorem idxE_any {α : Type} (q : α → Bool) (xs : List α) : (idxE q xs).isSome = xs.any q := by
  cases h : idxE q xs with
  | none =>
    have := idxE_none h
    rw [Option.isSome_none, eq_comm, Bool.eq_false_iff]
    simp only [ne_eq, List.any_eq_true, not_exists, not_and]
    intro x hx
    rw [this x hx]
    simp
  | some i =>
    obtain ⟨hi, h1, _⟩ := idxE_some h
    rw [Option.isSome_some, eq_comm, List.any_eq_true]
    exact ⟨_, List.getElem_mem hi, h1⟩

/-- The tables' keys lie among their columns. -/
def KeysIn (s : D_api_Schema) : Prop := ∀ t ∈ s.1, ∀ k ∈ t.2.2.1, 0 ≤ k ∧ k < (t.2.1.length : Int)

theorem tabOf_some {s : D_api_Schema} {n : List UInt8} {t : D_api_Table} (h : tabOf s n = some t) : t ∈ s.1 := by
  unfold tabOf at h
  cases hi : idxE (isTab n) s.1 with
  | none => rw [hi] at h; cases h
  | some i =>
    rw [hi] at h
    exact List.mem_of_getElem? h
theorem tabOf_idx (s : D_api_Schema) (n : List UInt8) : (idxE (isTab n) s.1 = none ∧ tabOf s n = none) ∨ ∃ i t, idxE (isTab n) s.1 = some i ∧ tabOf s n = some t ∧ i < s.1.length ∧ ∀ d, lget s.1 (i : Int) d = t := by
  unfold tabOf
  cases h : idxE (isTab n) s.1 with
  | none => exact .inl ⟨rfl, rfl⟩
  | some i =>
    obtain ⟨hi, _⟩ := idxE_some h
    exact .inr ⟨i, s.1[i], rfl, by simp [hi], hi, fun d => lget_at d hi⟩

/-! ## Foreign keys -/
def fkE (t r : D_api_Table) (cs : List Int) (j : Nat) : Option Int := match cs[j]? with
  | none => none
  | some c => if c < 0 ∨ (t.2.1.length : Int) ≤ c then some 3 else if (lget t.2.1 c colD).2.1 ≠ (lget r.2.1 (r.2.2.1.getD j 0) colD).2.1 then some 7 else none
def vFk (s : D_api_Schema) (f : D_api_ForeignKey) : Int := match tabOf s f.1, tabOf s f.2.2.1 with
  | some t, some r => if f.2.1.length ≠ r.2.2.1.length then 3 else match firstE (fkE t r f.2.1) f.2.1.length with
    | some e => e
    | none => 0
  | _, _ => 4

theorem ne_len {α β : Type} (xs : List α) (ys : List β) : neI (lenI xs) (lenI ys) = decide (xs.length ≠ ys.length) := by
  rw [neI_dec, lenI_def, lenI_def, ← decide_not]; exact decide_eq_decide.2 (by omega)

theorem schFk_eq (N : Nat) (s : D_api_Schema) (f : D_api_ForeignKey) (hB : N ≤ 1099511627776) (ht : s.1.length < N) (hf : f.2.1.length < N) (hv : KeysIn s) : F_schema_validateForeignKey N (s, (f, ())) = some ((vFk s f, ()), ()) := by
  simp only [F_schema_validateForeignKey, letJ_def]
  rw [findTable_eq N s f.1 ht hB, findTable_eq N s f.2.2.1 ht hB]
  simp only [oSome_some, oGet_some, cond_true, vFk]
  rcases tabOf_idx s f.1 with ⟨h1, h2⟩ | ⟨i, t, h1, h2, h3, h4⟩
  · rw [h1, h2]; rfl
  rcases tabOf_idx s f.2.2.1 with ⟨g1, g2⟩ | ⟨k, r, g1, g2, g3, g4⟩
  · rw [g1, g2, h1, h2]; rfl
  rw [h1, h2, g1, g2]
  simp only [Option.isSome_some, Bool.not_true, Bool.or_self, cond_false, Option.getD_some, inB_len h3, inB_len g3, Bool.and_self, cond_true, h4, g4, ne_len, cond_dec]
  by_cases hl : f.2.1.length ≠ r.2.2.1.length
  · rw [if_pos hl, if_pos hl]
  rw [if_neg hl, if_neg hl]
  have hl : f.2.1.length = r.2.2.1.length := by omega
  have hr := hv r (tabOf_some g2)
  refine (iterF_first (S := Int × Unit) (fun i => ((i : Int), ())) f.2.1.length (fkE t r f.2.1) (fun e => some ((e, ()), ())) (some ((0, ()), ())) rfl (fun j hj _ ih => ?_) (fun _ ih => ?_) hf).trans ?_
  · simp only
    have hjr : j < r.2.2.1.length := by omega
    have e0 : r.2.2.1.getD j 0 = r.2.2.1[j] := by rw [List.getD_eq_getElem?_getD, List.getElem?_eq_getElem hjr]; rfl
    rw [cond_pos (lt_len hj), cond_pos (inB_len hj), lget_at _ hj, iadd_nat (by omega), inB_len hjr, lget_at _ hjr]
    simp only [fkE, List.getElem?_eq_getElem hj, e0]
    obtain ⟨q1, q2⟩ := hr _ (List.getElem_mem hjr)
    have e1 : ltI (f.2.1[j]) 0 = decide (f.2.1[j] < 0) := ltI_dec _ _
    have e2 : leI (lenI t.2.1) (f.2.1[j]) = decide ((t.2.1.length : Int) ≤ f.2.1[j]) := by rw [leI_dec, lenI_def]
    have e3 : inB (f.2.1[j]) (lenI t.2.1) = (decide (0 ≤ f.2.1[j]) && decide (f.2.1[j] < (t.2.1.length : Int))) := by rw [inB_def, lenI_def]
    have e4 : inB (r.2.2.1[j]) (lenI r.2.1) = true := by rw [inB_dec, lenI_def]; simp [q1, q2]
    rw [e1, e2, e3, e4]
    change (bif _ then _ else (bif _ then (bif neI (lget t.2.1 (f.2.1[j]) colD).2.1 (lget r.2.1 (r.2.2.1[j]) colD).2.1 then _ else _) else _)) = _
    by_cases h5 : f.2.1[j] < 0
    · simp [h5]
    by_cases h6 : (t.2.1.length : Int) ≤ f.2.1[j]
    · simp [h6]
    have h7 : 0 ≤ f.2.1[j] := by omega
    have h8 : f.2.1[j] < (t.2.1.length : Int) := by omega
    simp only [h5, h6, h7, h8, decide_false, decide_true, Bool.or_self, Bool.and_self, cond_false, cond_true, or_self, if_false, neI_dec, ← decide_not, cond_dec]
    split <;> rename_i hq <;> simp [hq]
  · simp only
    rw [cond_neg (nlt_len (Nat.lt_irrefl _))]
  · cases firstE (fkE t r f.2.1) f.2.1.length <;> rfl

theorem refFk_eq (N : Nat) (s : D_api_Schema) (f : D_api_ForeignKey) (hB : N ≤ 1099511627776) (ht : s.1.length < N) (hf : f.2.1.length < N) (hv : KeysIn s) : F_stemref2_validateForeignKey N (s, (f, ())) = some ((vFk s f, ()), ()) := by
  simp only [F_stemref2_validateForeignKey, letJ_def]
  rw [refFind_eq N s f.1 ht hB, refFind_eq N s f.2.2.1 ht hB]
  simp only [oSome_some, oGet_some, Bool.and_self, cond_true, vFk]
  cases h2 : tabOf s f.1 with
  | none => rw [oSome_none]; rfl
  | some t =>
  cases g2 : tabOf s f.2.2.1 with
  | none => rw [oSome_none, oSome_some]; rfl
  | some r =>
  simp only [oSome_some, oGet_some, Bool.not_true, Bool.or_self, cond_false, cond_true, ne_len, cond_dec]
  by_cases hl : f.2.1.length ≠ r.2.2.1.length
  · rw [if_pos hl, if_pos hl]
  rw [if_neg hl, if_neg hl]
  have hl : f.2.1.length = r.2.2.1.length := by omega
  have hr := hv r (tabOf_some g2)
  refine (iterF_first (S := Int × Unit) (fun i => ((i : Int), ())) f.2.1.length (fkE t r f.2.1) (fun e => some ((e, ()), ())) (some ((0, ()), ())) rfl (fun j hj _ ih => ?_) (fun _ ih => ?_) hf).trans ?_
  · simp only
    have hjr : j < r.2.2.1.length := by omega
    have e0 : r.2.2.1.getD j 0 = r.2.2.1[j] := by rw [List.getD_eq_getElem?_getD, List.getElem?_eq_getElem hjr]; rfl
    rw [cond_pos (lt_len hj), cond_pos (inB_len hj), lget_at _ hj, iadd_nat (by omega), inB_len hjr, lget_at _ hjr]
    simp only [fkE, List.getElem?_eq_getElem hj, e0]
    obtain ⟨q1, q2⟩ := hr _ (List.getElem_mem hjr)
    have e1 : ltI (f.2.1[j]) 0 = decide (f.2.1[j] < 0) := ltI_dec _ _
    have e2 : leI (lenI t.2.1) (f.2.1[j]) = decide ((t.2.1.length : Int) ≤ f.2.1[j]) := by rw [leI_dec, lenI_def]
    have e3 : inB (f.2.1[j]) (lenI t.2.1) = (decide (0 ≤ f.2.1[j]) && decide (f.2.1[j] < (t.2.1.length : Int))) := by rw [inB_def, lenI_def]
    have e4 : inB (r.2.2.1[j]) (lenI r.2.1) = true := by rw [inB_dec, lenI_def]; simp [q1, q2]
    rw [e1, e2, e3, e4]
    change (bif _ then (bif _ then _ else (bif _ then (bif neI (lget t.2.1 (f.2.1[j]) colD).2.1 (lget r.2.1 (r.2.2.1[j]) colD).2.1 then _ else _) else _)) else _) = _
    by_cases h5 : f.2.1[j] < 0
    · simp [h5]
    by_cases h6 : (t.2.1.length : Int) ≤ f.2.1[j]
    · simp [h6]
    have h7 : 0 ≤ f.2.1[j] := by omega
    have h8 : f.2.1[j] < (t.2.1.length : Int) := by omega
    simp only [h5, h6, h7, h8, decide_false, decide_true, Bool.or_self, Bool.and_self, Bool.or_true, cond_false, cond_true, or_self, if_false, neI_dec, ← decide_not, cond_dec]
    split <;> rename_i hq <;> simp [hq]
  · simp only
    rw [cond_neg (nlt_len (Nat.lt_irrefl _))]
  · cases firstE (fkE t r f.2.1) f.2.1.length <;> rfl

/-! ## Values -/
def vVal (v : D_api_Value) : Int :=
  if v.1 < 0 ∨ 3 < v.1 then 7 else if (v.1 ≠ 3 ∧ v.2.2.1 ≠ []) ∨ ((v.1 = 0 ∨ v.1 = 3) ∧ v.2.1 ≠ 0) then 3
  else if (v.1 = 2 ∧ (v.2.1 < 0 ∨ 1 < v.2.1)) ∨ 1000000000000 < v.2.1 ∨ v.2.1 < -1000000000000 then 1 else if 24 < v.2.2.1.length then 2 else 0
theorem len24 (s : List UInt8) : ltI 24 (lenI s) = decide (24 < s.length) := gt_dec s 24
theorem refVal_eq (N : Nat) (v : D_api_Value) : F_stemref2_ValidateValue N (v, ()) = some ((vVal v, ()), ()) := by
  obtain ⟨k, n, s, ⟨⟩⟩ := v
  simp only [F_stemref2_ValidateValue, letJ_def, vVal, ltI_dec, neI_dec, eqI_dec, eqS_dec, lenI_def]
  simp only [condI, Bool.or_eq_true, Bool.and_eq_true, decide_eq_true_eq, Bool.not_eq_true', decide_eq_false_iff_not]
  grind
theorem schVal_eq (N : Nat) (v : D_api_Value) : F_value_Validate N (v, ()) = some ((vVal v, ()), ()) := by
  obtain ⟨k, n, s, ⟨⟩⟩ := v
  simp only [F_value_Validate, letJ_def, vVal, ltI_dec, neI_dec, eqI_dec, eqS_dec, lenI_def]
  simp only [condI, Bool.or_eq_true, Bool.and_eq_true, decide_eq_true_eq, Bool.not_eq_true', decide_eq_false_iff_not]
  by_cases k0 : k = 0
  · subst k0; grind
  by_cases k1 : k = 1
  · subst k1; grind
  by_cases k2 : k = 2
  · subst k2; grind
  by_cases k3 : k = 3
  · subst k3; grind
  grind

/-! ## Constraints -/
def opOk (o : List UInt8) : Bool := decide (o = [61]) || (decide (o = [60]) || decide (o = [60, 61]))
def vZero (v : D_api_Value) : Bool := decide (v.1 = 0) && (decide (v.2.1 = 0) && decide (v.2.2.1 = []))
def vCon (s : D_api_Schema) (c : D_api_Constraint) : Int := match tabOf s c.1 with
  | none => 4
  | some t => if c.2.1 < 0 ∨ (t.2.1.length : Int) ≤ c.2.1 ∨ opOk c.2.2.1 = false ∨ c.2.2.2.1 < -1 ∨ (t.2.1.length : Int) ≤ c.2.2.2.1 ∨ (0 ≤ c.2.2.2.1 ∧ vZero c.2.2.2.2.1 = false) then 3
    else if 0 ≤ c.2.2.2.1 then (if (lget t.2.1 c.2.1 colD).2.1 ≠ (lget t.2.1 c.2.2.2.1 colD).2.1 then 7 else 0)
    else if c.2.2.2.2.1.1 ≠ (lget t.2.1 c.2.1 colD).2.1 then 7 else vVal c.2.2.2.2.1

theorem satisfies_op (N : Nat) (o : List UInt8) : ∃ b, F_value_Satisfies N ((0, (0, (([] : List UInt8), ()))), (o, ((0, (0, (([] : List UInt8), ()))), ()))) = some ((b, (if opOk o = true then 0 else 3, ())), ()) := by
  simp only [F_value_Satisfies, letJ_def, eqS_dec, eqI_dec, opOk]
  by_cases h1 : o = [61]
  · exact ⟨true, by simp [h1]⟩
  by_cases h2 : o = [60]
  · exact ⟨true, by simp [h2]⟩
  by_cases h3 : o = [60, 61]
  · exact ⟨true, by simp [h3]⟩
  · exact ⟨false, by simp [h1, h2, h3]⟩

theorem schCon_eq (N : Nat) (s : D_api_Schema) (c : D_api_Constraint) (hB : N ≤ 1099511627776) (ht : s.1.length < N) : F_schema_validateConstraint N (s, (c, ())) = some ((vCon s c, ()), ()) := by
  obtain ⟨b, hb⟩ := satisfies_op N c.2.2.1
  simp only [F_schema_validateConstraint, letJ_def]
  rw [findTable_eq N s c.1 ht hB, hb, schVal_eq]
  simp only [oSome_some, oGet_some, cond_true, vCon]
  rcases tabOf_idx s c.1 with ⟨h1, h2⟩ | ⟨i, t, h1, h2, h3, h4⟩
  · rw [h1, h2]; rfl
  rw [h1, h2]
  simp only [Option.isSome_some, Bool.not_true, cond_false, Option.getD_some, inB_len h3, cond_true, h4]
  obtain ⟨c1, l, o, r, v, ⟨⟩⟩ := c
  simp only at *
  have e1 : ltI l 0 = decide (l < 0) := ltI_dec _ _
  have e2 : leI (lenI t.2.1) l = decide ((t.2.1.length : Int) ≤ l) := by rw [leI_dec, lenI_def]
  have e3 : neI (if opOk o = true then 0 else 3) 0 = !opOk o := by rw [neI_dec]; cases opOk o <;> simp
  have e4 : ltI r (-1) = decide (r < -1) := ltI_dec _ _
  have e5 : leI (lenI t.2.1) r = decide ((t.2.1.length : Int) ≤ r) := by rw [leI_dec, lenI_def]
  have e6 : leI 0 r = decide (0 ≤ r) := leI_dec _ _
  have e7 : (eqI v.1 0 && (eqI v.2.1 0 && eqS v.2.2.1 [])) = vZero v := by simp only [eqI_dec, eqS_dec, vZero]
  have e8 : inB l (lenI t.2.1) = (decide (0 ≤ l) && decide (l < (t.2.1.length : Int))) := by rw [inB_def, lenI_def]
  have e9 : inB r (lenI t.2.1) = (decide (0 ≤ r) && decide (r < (t.2.1.length : Int))) := by rw [inB_def, lenI_def]
  rw [e1, e2, e3, e4, e5, e6, e7, e8, e9]
  change (bif _ then _ else (bif _ then (bif _ then (bif neI (lget t.2.1 l colD).2.1 (lget t.2.1 r colD).2.1 then _ else _) else _) else (bif _ then (bif neI v.1 (lget t.2.1 l colD).2.1 then _ else _) else _))) = _
  rw [neI_dec, neI_dec]
  generalize (lget t.2.1 l colD).2.1 = kl
  generalize (lget t.2.1 r colD).2.1 = kr
  simp only [condI, Bool.or_eq_true, Bool.and_eq_true, decide_eq_true_eq, Bool.not_eq_true', decide_eq_false_iff_not]
  generalize vVal v = vv
  generalize vZero v = vz
  generalize opOk o = oo
  cases vz <;> cases oo <;> grind

theorem refCon_eq (N : Nat) (s : D_api_Schema) (c : D_api_Constraint) (hB : N ≤ 1099511627776) (ht : s.1.length < N) : F_stemref2_validateConstraint N (s, (c, ())) = some ((vCon s c, ()), ()) := by
  have hop : F_stemref2_ValidOp N (c.2.2.1, ()) = some ((opOk c.2.2.1, ()), ()) := by
    simp only [F_stemref2_ValidOp, eqS_dec, opOk, Bool.or_assoc]
  simp only [F_stemref2_validateConstraint, letJ_def]
  rw [refFind_eq N s c.1 ht hB, hop, refVal_eq]
  simp only [oSome_some, oGet_some, cond_true, vCon]
  cases h2 : tabOf s c.1 with
  | none => rw [oSome_none]; rfl
  | some t =>
  simp only [oSome_some, oGet_some, Bool.not_true, cond_false, cond_true, Bool.or_true]
  obtain ⟨c1, l, o, r, v, ⟨⟩⟩ := c
  simp only at *
  have e1 : ltI l 0 = decide (l < 0) := ltI_dec _ _
  have e2 : leI (lenI t.2.1) l = decide ((t.2.1.length : Int) ≤ l) := by rw [leI_dec, lenI_def]
  have e4 : ltI r (-1) = decide (r < -1) := ltI_dec _ _
  have e5 : leI (lenI t.2.1) r = decide ((t.2.1.length : Int) ≤ r) := by rw [leI_dec, lenI_def]
  have e6 : neI r (-1) = !decide (r = -1) := neI_dec _ _
  have e7 : (eqI v.1 0 && (eqI v.2.1 0 && eqS v.2.2.1 [])) = vZero v := by simp only [eqI_dec, eqS_dec, vZero]
  have e8 : inB l (lenI t.2.1) = (decide (0 ≤ l) && decide (l < (t.2.1.length : Int))) := by rw [inB_def, lenI_def]
  have e9 : inB r (lenI t.2.1) = (decide (0 ≤ r) && decide (r < (t.2.1.length : Int))) := by rw [inB_def, lenI_def]
  rw [e1, e2, e4, e5, e6, e7, e8, e9]
  change (bif _ then _ else (bif _ then (bif _ then (bif neI (bif _ then (lget t.2.1 r colD).2.1 else v.1) (lget t.2.1 l colD).2.1 then _ else _) else _) else _)) = _
  rw [neI_dec]
  generalize (lget t.2.1 l colD).2.1 = kl
  generalize (lget t.2.1 r colD).2.1 = kr
  simp only [condI, Bool.or_eq_true, Bool.and_eq_true, decide_eq_true_eq, Bool.not_eq_true', decide_eq_false_iff_not]
  generalize vVal v = vv
  generalize vZero v = vz
  generalize opOk o = oo
  cases vz <;> cases oo <;> grind

/-! ## Schemas -/
def tabL (ts : List D_api_Table) (i : Nat) : Option Int := match ts[i]? with
  | none => none
  | some t => if vTab t ≠ 0 then some (vTab t) else if 0 < i ∧ bless (lget ts ((i : Int) - 1) (([] : List UInt8), (([] : List D_api_Column), (([] : List Int), ())))).1 t.1 = false then some 6 else none
open Classical in
def fkL (s : D_api_Schema) (i : Nat) : Option Int := match s.2.1[i]? with
  | none => none
  | some f => if vFk s f ≠ 0 then some (vFk s f) else if f ∈ s.2.1.take i then some 5 else none
open Classical in
def conL (s : D_api_Schema) (i : Nat) : Option Int := match s.2.2.1[i]? with
  | none => none
  | some c => if vCon s c ≠ 0 then some (vCon s c) else if c ∈ s.2.2.1.take i then some 5 else none
def vSch (s : D_api_Schema) : Int := if 6 < s.1.length ∨ 8 < s.2.1.length ∨ 8 < s.2.2.1.length then 2 else match firstE (tabL s.1) s.1.length with
  | some e => e
  | none => match firstE (fkL s) s.2.1.length with
    | some e => e
    | none => match firstE (conL s) s.2.2.1.length with
      | some e => e
      | none => 0

theorem keysIn_of {s : D_api_Schema} (h : firstE (tabL s.1) s.1.length = none) : KeysIn s := fun t ht k hk => by
  obtain ⟨i, hi, rfl⟩ := List.getElem_of_mem ht
  have := firstE_none h i hi
  simp only [tabL, List.getElem?_eq_getElem hi] at this
  split at this
  · cases this
  rename_i hv
  have hv : vTab s.1[i] = 0 := by simpa using hv
  unfold vTab at hv
  split at hv
  · cases hv
  split at hv
  · cases hv
  split at hv
  · cases hv
  split at hv
  · rename_i e he
    obtain ⟨j, h1, h2, _⟩ := firstE_some he
    simp only [colE, List.getElem?_eq_getElem h1] at h2
    subst hv
    split at h2
    · cases h2
    split at h2
    · cases h2
    split at h2 <;> cases h2
  split at hv
  · rename_i e he
    obtain ⟨j, h1, h2, _⟩ := firstE_some he
    simp only [pkE, List.getElem?_eq_getElem h1] at h2
    subst hv
    split at h2 <;> cases h2
  rename_i hpk
  obtain ⟨j, hj, rfl⟩ := List.getElem_of_mem hk
  have := firstE_none hpk j hj
  simp only [pkE, List.getElem?_eq_getElem hj] at this
  split at this
  · cases this
  · rename_i hc
    simp only [not_or] at hc
    omega

structure SSmall (N : Nat) (s : D_api_Schema) : Prop where
  sm : Small N s
  m : 100 < N
theorem SSmall.tab {N : Nat} {s : D_api_Schema} (h : SSmall N s) {t : D_api_Table} (ht : t ∈ s.1) : TSmall N t :=
  ⟨h.sm.n, h.m, h.sm.tn t ht, h.sm.tc t ht, h.sm.tk t ht, h.sm.cn t ht⟩

theorem gt3 (s : D_api_Schema) : ((ltI 6 (lenI s.1) || ltI 8 (lenI s.2.1)) || ltI 8 (lenI s.2.2.1)) = decide (6 < s.1.length ∨ 8 < s.2.1.length ∨ 8 < s.2.2.1.length) := by
  rw [show ltI 6 (lenI s.1) = decide (6 < s.1.length) from gt_dec _ 6, show ltI 8 (lenI s.2.1) = decide (8 < s.2.1.length) from gt_dec _ 8, show ltI 8 (lenI s.2.2.1) = decide (8 < s.2.2.1.length) from gt_dec _ 8, ← Bool.decide_or, ← Bool.decide_or]
  exact decide_eq_decide.2 or_assoc

/-- Is it among the first? -/
theorem index_con (N : Nat) (xs : List D_api_Constraint) (c : D_api_Constraint) (hN : xs.length < N) (hb : xs.length ≤ 1099511627776) : F_slices_Index_api_Constraint N (xs, (c, ())) = some ((idxI (fun x => decide (c = x)) xs, ()), ()) := by
  simp only [F_slices_Index_api_Constraint]
  refine (iterF_first (S := Int × Unit) (fun i => ((i : Int), ())) xs.length (atE (fun x => decide (c = x)) xs) (fun i => some (((i : Int), ()), ())) (some ((-1, ()), ())) rfl (fun i hi _ ih => ?_) (fun _ ih => ?_) hN).trans ?_
  · simp only
    rw [cond_pos (lt_len hi), cond_pos (inB_len hi), lget_at _ hi, iadd_nat (by omega)]
    simp only [atE, List.getElem?_eq_getElem hi]
    generalize xs[i] = x
    obtain ⟨a1, a2, a3, a4, ⟨a5, a6, a7, ⟨⟩⟩, ⟨⟩⟩ := c
    obtain ⟨b1, b2, b3, b4, ⟨b5, b6, b7, ⟨⟩⟩, ⟨⟩⟩ := x
    simp only [eqS_dec, eqI_dec, Prod.mk.injEq, and_true, ← Bool.decide_and, cond_dec, decide_eq_true_eq]
    split <;> rename_i hq <;> simp [hq]
  · simp only
    rw [cond_neg (nlt_len (Nat.lt_irrefl _))]
  · rw [idxI, idxE]
    cases firstE (atE (fun x => decide (c = x)) xs) xs.length <;> rfl
theorem contains_con (N : Nat) (xs : List D_api_Constraint) (c : D_api_Constraint) (hN : xs.length < N) (hb : xs.length ≤ 1099511627776) : F_slices_Contains_api_Constraint N (xs, (c, ())) = some ((decide (c ∈ xs), ()), ()) := by
  simp only [F_slices_Contains_api_Constraint, index_con N xs c hN hb, oSome_some, oGet_some, cond_true, leI_idx, idxE_any]
  congr 3
  rw [Bool.eq_iff_iff]
  simp
theorem contains_fk (N : Nat) (xs : List D_api_ForeignKey) (f : D_api_ForeignKey) (hN : xs.length < N) (hB : N ≤ 1099511627776) (hc : ∀ x ∈ xs, x.2.1.length < N) :
    F_slices_ContainsFunc_api_ForeignKey N (xs, ((fun x6 => (omap (fun y7 => (y7.1.1, ())) (F_schema_Validate_1 N (x6.1, (f, ()))))), ())) = some ((decide (f ∈ xs), ()), ()) := by
  simp only [F_slices_ContainsFunc_api_ForeignKey]
  have h := indexFunc_form (fun x6 => (omap (fun y7 : ((Bool × Unit) × Unit) => (y7.1.1, ())) (F_schema_Validate_1 N (x6.1, (f, ()))))) (fun x => decide (x = f)) xs (fun a ha => by simp only [F_schema_Validate_1, equalFk_eq N a f (hc a ha) hB, oSome_some, oGet_some, cond_true, omap_def, Option.map_some]) (([] : List UInt8), (([] : List Int), (([] : List UInt8), ()))) N hN (by omega)
  rw [show F_slices_IndexFunc_api_ForeignKey N (xs, ((fun x6 => (omap (fun y7 => (y7.1.1, ())) (F_schema_Validate_1 N (x6.1, (f, ()))))), ())) = some ((idxI (fun x => decide (x = f)) xs, ()), ()) from h]
  simp only [oSome_some, oGet_some, cond_true, leI_idx, idxE_any]
  congr 3
  rw [Bool.eq_iff_iff]
  simp

theorem schSch_eq (N : Nat) (s : D_api_Schema) (h : SSmall N s) : F_schema_Validate N (s, ()) = some ((vSch s, ()), ()) := by
  have hn := h.sm.n
  have ht := h.sm.t
  have hf := h.sm.f
  have hc := h.sm.c
  simp only [F_schema_Validate, letJ_def, gt3, cond_dec]
  unfold vSch
  by_cases h0 : 6 < s.1.length ∨ 8 < s.2.1.length ∨ 8 < s.2.2.1.length
  · rw [if_pos h0, if_pos h0]
  rw [if_neg h0, if_neg h0]
  refine (iterF_first (S := Int × Unit) (fun i => ((i : Int), ())) s.1.length (tabL s.1) (fun e => some ((e, ()), ())) (some ((match firstE (fkL s) s.2.1.length with
    | some e => e
    | none => match firstE (conL s) s.2.2.1.length with
      | some e => e
      | none => 0, ()), ())) rfl (fun i hi _ ih => ?_) (fun hk ih => ?_) ht).trans ?_
  · simp only
    rw [cond_pos (lt_len hi), cond_pos (inB_len hi), lget_at _ hi, schTable_eq N _ (h.tab (List.getElem_mem hi)), iadd_nat (by omega)]
    simp only [oSome_some, oGet_some, cond_true, tabL, List.getElem?_eq_getElem hi, neI_dec, ← decide_not, cond_dec]
    by_cases h1 : vTab s.1[i] = 0
    · have e4 : ltI 0 (i : Int) = decide (0 < i) := by rw [ltI_dec]; exact decide_eq_decide.2 (by omega)
      rw [if_neg (by simp [h1]), if_neg (by simp [h1]), e4]
      by_cases h8 : 0 < i
      · have e5 : isub .i64 (i : Int) 1 = (i : Int) - 1 := isub64 (by omega) (by omega)
        have e6 : inB ((i : Int) - 1) (lenI s.1) = true := by rw [inB_dec, lenI_def]; simp; omega
        rw [e5, e6, bless_total]
        cases bless (lget s.1 ((i : Int) - 1) (([] : List UInt8), (([] : List D_api_Column), (([] : List Int), ())))).1 (s.1[i]).1 <;> simp [h8]
      · simp [h8]
    · rw [if_pos h1, if_pos h1]
  · simp only
    have hv := keysIn_of hk
    rw [cond_neg (nlt_len (Nat.lt_irrefl _))]
    refine (iterF_first (S := Int × Unit) (fun i => ((i : Int), ())) s.2.1.length (fkL s) (fun e => some ((e, ()), ())) (some ((match firstE (conL s) s.2.2.1.length with
      | some e => e
      | none => 0, ()), ())) rfl (fun i hi _ ih => ?_) (fun _ ih => ?_) hf).trans ?_
    · simp only
      rw [cond_pos (lt_len hi), cond_pos (inB_len hi), lget_at _ hi, schFk_eq N s _ hn ht (h.sm.fc _ (List.getElem_mem hi)) hv, iadd_nat (by omega), slice_to, contains_fk N (s.2.1.take i) _ (by rw [List.length_take]; omega) hn (fun x hx => h.sm.fc x (List.mem_of_mem_take hx))]
      have e5 : inS 0 (i : Int) (lenI s.2.1) = true := by rw [inS_dec, lenI_def]; simp; omega
      simp only [oSome_some, oGet_some, cond_true, fkL, List.getElem?_eq_getElem hi, neI_dec, ← decide_not, cond_dec, e5, Bool.and_self]
      by_cases h1 : vFk s s.2.1[i] = 0
      · simp only [h1, ne_eq, not_true_eq_false, if_false]
        by_cases h2 : s.2.1[i] ∈ s.2.1.take i
        · rw [if_pos h2, if_pos h2]
        · rw [if_neg h2, if_neg h2]
      · rw [if_pos h1, if_pos h1]
    · simp only
      rw [cond_neg (nlt_len (Nat.lt_irrefl _))]
      refine (iterF_first (S := Int × Unit) (fun i => ((i : Int), ())) s.2.2.1.length (conL s) (fun e => some ((e, ()), ())) (some ((0, ()), ())) rfl (fun i hi _ ih => ?_) (fun _ ih => ?_) hc).trans ?_
      · simp only
        rw [cond_pos (lt_len hi), cond_pos (inB_len hi), lget_at _ hi, schCon_eq N s _ hn ht, iadd_nat (by omega), slice_to, contains_con N (s.2.2.1.take i) _ (by rw [List.length_take]; omega) (by rw [List.length_take]; omega)]
        have e5 : inS 0 (i : Int) (lenI s.2.2.1) = true := by rw [inS_dec, lenI_def]; simp; omega
        simp only [oSome_some, oGet_some, cond_true, conL, List.getElem?_eq_getElem hi, neI_dec, ← decide_not, cond_dec, e5, Bool.and_self]
        by_cases h1 : vCon s s.2.2.1[i] = 0
        · simp only [h1, ne_eq, not_true_eq_false, if_false]
          by_cases h2 : s.2.2.1[i] ∈ s.2.2.1.take i
          · rw [if_pos h2, if_pos h2]
          · rw [if_neg h2, if_neg h2]
        · rw [if_pos h1, if_pos h1]
      · simp only
        rw [cond_neg (nlt_len (Nat.lt_irrefl _))]
      · cases firstE (conL s) s.2.2.1.length <;> rfl
    · cases firstE (fkL s) s.2.1.length <;> rfl
  · cases firstE (tabL s.1) s.1.length <;> rfl

theorem fk_ids (xs : List D_api_ForeignKey) (f : D_api_ForeignKey) : fkC f ∈ xs.map fkC ↔ f ∈ xs := by
  constructor
  · intro h
    obtain ⟨x, hx, he⟩ := List.mem_map.1 h
    rw [fkC_inj he] at hx
    exact hx
  · exact fun h => List.mem_map_of_mem h

theorem refSch_eq (N : Nat) (s : D_api_Schema) (h : SSmall N s) (hid : ∀ f ∈ s.2.1, (fkC f).length ≤ 1099511627776) : F_stemref2_ValidateSchema N (s, ()) = some ((vSch s, ()), ()) := by
  have hn := h.sm.n
  have ht := h.sm.t
  have hf := h.sm.f
  have hc := h.sm.c
  simp only [F_stemref2_ValidateSchema, letJ_def, gt3, cond_dec]
  unfold vSch
  by_cases h0 : 6 < s.1.length ∨ 8 < s.2.1.length ∨ 8 < s.2.2.1.length
  · rw [if_pos h0, if_pos h0]
  rw [if_neg h0, if_neg h0]
  refine (iterF_first (S := Int × Unit) (fun i => ((i : Int), ())) s.1.length (tabL s.1) (fun e => some ((e, ()), ())) (some ((match firstE (fkL s) s.2.1.length with
    | some e => e
    | none => match firstE (conL s) s.2.2.1.length with
      | some e => e
      | none => 0, ()), ())) rfl (fun i hi _ ih => ?_) (fun hk ih => ?_) ht).trans ?_
  · simp only
    rw [cond_pos (lt_len hi), cond_pos (inB_len hi), lget_at _ hi, refTable_eq N _ (h.tab (List.getElem_mem hi)), iadd_nat (by omega)]
    simp only [oSome_some, oGet_some, cond_true, tabL, List.getElem?_eq_getElem hi, neI_dec, ← decide_not, cond_dec]
    by_cases h1 : vTab s.1[i] = 0
    · have e4 : ltI 0 (i : Int) = decide (0 < i) := by rw [ltI_dec]; exact decide_eq_decide.2 (by omega)
      rw [if_neg (by simp [h1]), if_neg (by simp [h1]), e4]
      by_cases h8 : 0 < i
      · have e5 : isub .i64 (i : Int) 1 = (i : Int) - 1 := isub64 (by omega) (by omega)
        have e6 : inB ((i : Int) - 1) (lenI s.1) = true := by rw [inB_dec, lenI_def]; simp; omega
        rw [e5, e6]
        cases bless (lget s.1 ((i : Int) - 1) (([] : List UInt8), (([] : List D_api_Column), (([] : List Int), ())))).1 (s.1[i]).1 <;> simp [h8]
      · simp [h8]
    · rw [if_pos h1, if_pos h1]
  · simp only
    have hv := keysIn_of hk
    rw [cond_neg (nlt_len (Nat.lt_irrefl _))]
    refine (iterF_first (S := (List ((List UInt8) × Int)) × (Int × Unit)) (fun i => (cntM ((s.2.1.take i).map fkC), ((i : Int), ()))) s.2.1.length (fkL s) (fun e => some ((e, ()), ())) (some ((match firstE (conL s) s.2.2.1.length with
      | some e => e
      | none => 0, ()), ())) rfl (fun i hi _ ih => ?_) (fun _ ih => ?_) hf).trans ?_
    · simp only
      have hm := List.getElem_mem hi
      have hlen : ((s.2.1.take i).map fkC).length < 4611686018427387904 := by rw [List.length_map, List.length_take]; omega
      have q := h.sm.fc _ hm
      rw [cond_pos (lt_len hi), cond_pos (inB_len hi), lget_at _ hi, refFk_eq N s _ hn ht q hv, iadd_nat (by omega), foreignKeyID_eq N _ q (hid _ hm) (by omega)]
      simp only [oSome_some, oGet_some, cond_true]
      rw [cntM_twice _ hlen, ← cntM_snoc]
      have e0 : (s.2.1.take i).map fkC ++ [fkC s.2.1[i]] = (s.2.1.take (i + 1)).map fkC := by rw [take_snoc hi, List.map_append]; rfl
      simp only [fkL, List.getElem?_eq_getElem hi, neI_dec, ← decide_not, cond_dec, e0, fk_ids]
      by_cases h1 : vFk s s.2.1[i] = 0
      · simp only [h1, ne_eq, not_true_eq_false, if_false]
        by_cases h2 : s.2.1[i] ∈ s.2.1.take i
        · rw [if_pos h2, if_pos h2]
        · rw [if_neg h2, if_neg h2]
      · rw [if_pos h1, if_pos h1]
    · simp only
      rw [cond_neg (nlt_len (Nat.lt_irrefl _))]
      refine (iterF_first (S := Int × Unit) (fun i => ((i : Int), ())) s.2.2.1.length (conL s) (fun e => some ((e, ()), ())) (some ((0, ()), ())) rfl (fun i hi _ ih => ?_) (fun _ ih => ?_) hc).trans ?_
      · simp only
        rw [cond_pos (lt_len hi), cond_pos (inB_len hi), lget_at _ hi, refCon_eq N s _ hn ht, iadd_nat (by omega), slice_to]
        have e5 : inS 0 (i : Int) (lenI s.2.2.1) = true := by rw [inS_dec, lenI_def]; simp; omega
        simp only [oSome_some, oGet_some, cond_true, conL, List.getElem?_eq_getElem hi, neI_dec, ← decide_not, cond_dec, e5]
        by_cases h1 : vCon s s.2.2.1[i] = 0
        · simp only [h1, ne_eq, not_true_eq_false, if_false]
          have hlt : (s.2.2.1.take i).length < N := by rw [List.length_take]; omega
          refine (iterF_first (S := Int × Unit) (fun j => ((j : Int), ())) (s.2.2.1.take i).length (atE (fun x => decide (x = s.2.2.1[i])) (s.2.2.1.take i)) (fun _ => some ((5, ()), ())) (ih (((i + 1 : Nat) : Int), ())) rfl (fun j hj _ ih2 => ?_) (fun _ ih2 => ?_) hlt).trans ?_
          · simp only
            rw [cond_pos (lt_len hj), cond_pos (inB_len hj), lget_at _ hj, iadd_nat (by omega)]
            simp only [atE, List.getElem?_eq_getElem hj]
            generalize (s.2.2.1.take i)[j] = x
            generalize s.2.2.1[i] = c
            obtain ⟨a1, a2, a3, a4, ⟨a5, a6, a7, ⟨⟩⟩, ⟨⟩⟩ := c
            obtain ⟨b1, b2, b3, b4, ⟨b5, b6, b7, ⟨⟩⟩, ⟨⟩⟩ := x
            simp only [eqS_dec, eqI_dec, Prod.mk.injEq, and_true, ← Bool.decide_and, cond_dec, decide_eq_true_eq]
            split <;> rename_i hq <;> simp [hq]
          · simp only
            rw [cond_neg (nlt_len (Nat.lt_irrefl _))]
          · have e6 := idxE_any (fun x => decide (x = s.2.2.1[i])) (s.2.2.1.take i)
            unfold idxE at e6
            by_cases h2 : s.2.2.1[i] ∈ s.2.2.1.take i
            · have : (s.2.2.1.take i).any (fun x => decide (x = s.2.2.1[i])) = true := by simp only [List.any_eq_true, decide_eq_true_eq]; exact ⟨_, h2, rfl⟩
              rw [this] at e6
              obtain ⟨k, hk⟩ := Option.isSome_iff_exists.1 e6
              rw [hk, if_pos h2]
            · have : (s.2.2.1.take i).any (fun x => decide (x = s.2.2.1[i])) = false := by
                rw [List.any_eq_false]
                intro x hx he
                rw [decide_eq_true_eq] at he
                subst he
                exact h2 hx
              rw [this] at e6
              have hk : firstE (atE (fun x => decide (x = s.2.2.1[i])) (s.2.2.1.take i)) (s.2.2.1.take i).length = none := by simpa using e6
              rw [hk, if_neg h2]
        · rw [if_pos h1, if_pos h1]
      · simp only
        rw [cond_neg (nlt_len (Nat.lt_irrefl _))]
      · cases firstE (conL s) s.2.2.1.length <;> rfl
    · cases firstE (fkL s) s.2.1.length <;> rfl
  · cases firstE (tabL s.1) s.1.length <;> rfl

end
end Go.Proofs.YtolaedcogjhfbaaDoor
