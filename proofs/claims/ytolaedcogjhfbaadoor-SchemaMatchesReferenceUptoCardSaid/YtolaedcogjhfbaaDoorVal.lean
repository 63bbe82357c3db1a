/- Tables, foreign keys, constraints, schemas: both checks say the same. -/
import Derived.Test.YtolaedcogjhfbaaDoorIds
set_option linter.unusedVariables false
set_option linter.unusedSimpArgs false
set_option linter.unnecessarySimpa false
set_option linter.unusedSectionVars false
set_option linter.unusedSimpArgs false
set_option maxRecDepth 100000
namespace Go.Proofs.YtolaedcogjhfbaaDoor
open Go.Vi
noncomputable section

/-! ## The first place -/
def atE {α : Type} (q : α → Bool) (xs : List α) (i : Nat) : Option Nat := match xs[i]? with
  | some x => if q x = true then some i else none
  | none => none
def idxE {α : Type} (q : α → Bool) (xs : List α) : Option Nat := firstE (atE q xs) xs.length
theorem idxE_some {α : Type} {q : α → Bool} {xs : List α} {i : Nat} (h : idxE q xs = some i) : ∃ hi : i < xs.length, q xs[i] = true ∧ ∀ j (hj : j < i), q (xs[j]'(by omega)) = false := by
  obtain ⟨k, h1, h2, h3⟩ := firstE_some h
  have hk : xs[k]? = some xs[k] := List.getElem?_eq_getElem h1
  simp only [atE, hk] at h2
  split at h2
  · rename_i hq
    injection h2 with h2
    subst h2
    refine ⟨h1, hq, fun j hj => ?_⟩
    have := firstE_none h3 j hj
    simp only [atE, List.getElem?_eq_getElem (show j < xs.length by omega)] at this
    split at this
    · cases this
    · rename_i hn; simpa using hn
  · cases h2
theorem idxE_none {α : Type} {q : α → Bool} {xs : List α} (h : idxE q xs = none) : ∀ x ∈ xs, q x = false := fun x hx => by
  obtain ⟨i, hi, rfl⟩ := List.getElem_of_mem hx
  have := firstE_none h i hi
  simp only [atE, List.getElem?_eq_getElem hi] at this
  split at this
  · cases this
  · rename_i hn; simpa using hn
def idxI {α : Type} (q : α → Bool) (xs : List α) : Int := match idxE q xs with
  | some i => (i : Int)
  | none => -1

theorem indexFunc_form {α : Type} (f : (α × Unit) → Option (Bool × Unit)) (q : α → Bool) (xs : List α) (hf : ∀ a ∈ xs, f (a, ()) = some (q a, ())) (d : α) (N : Nat) (hN : xs.length < N) (hb : xs.length ≤ 1099511627776) :
    (iterF (S := (Int × Unit)) (R := ((Int × Unit) × Unit)) N (fun ih0 => (fun p1 => (bif (ltI p1.1 (lenI xs)) then (bif ((inB p1.1 (lenI xs)) && (oSome (f ((lget xs p1.1 d), ())))) then (letJ (oGet (f ((lget xs p1.1 d), ())) (false, ())).1 (fun y2 => (bif y2 then (some ((p1.1, ()), ())) else (ih0 ((iadd .i64 p1.1 1), ()))))) else none) else (some (((-1), ()), ()))))) (0, ())) = some ((idxI q xs, ()), ()) := by
  refine (iterF_first (S := Int × Unit) (fun i => ((i : Int), ())) xs.length (atE q xs) (fun i => some (((i : Int), ()), ())) (some ((-1, ()), ())) rfl (fun i hi _ ih => ?_) (fun _ ih => ?_) hN).trans ?_
  · simp only [letJ_def]
    rw [cond_pos (lt_len hi), lget_at _ hi, hf _ (List.getElem_mem hi), oSome_some, oGet_some, Bool.and_true, cond_pos (inB_len hi), iadd_nat (by omega)]
    simp only [atE, List.getElem?_eq_getElem hi]
    cases q xs[i] <;> rfl
  · simp only
    rw [cond_neg (nlt_len (Nat.lt_irrefl _))]
  · rw [idxI, idxE]
    cases firstE (atE q xs) xs.length <;> rfl

theorem maxI_idx {α : Type} (q : α → Bool) (xs : List α) : maxI (idxI q xs) 0 = (((idxE q xs).getD 0 : Nat) : Int) := by
  rw [idxI, maxI_def]
  cases idxE q xs with
  | none => rfl
  | some i => simp only [Option.getD_some]; split <;> omega
theorem leI_idx {α : Type} (q : α → Bool) (xs : List α) : leI 0 (idxI q xs) = (idxE q xs).isSome := by
  rw [idxI, leI_def]
  cases idxE q xs with
  | none => rfl
  | some i => simp

/-! ## Tables -/
def isCol (n : List UInt8) (c : D_api_Column) : Bool := decide (c.1 = n)
def isTab (n : List UInt8) (t : D_api_Table) : Bool := decide (t.1 = n)
theorem findColumn_eq (N : Nat) (t : D_api_Table) (n : List UInt8) (hN : t.2.1.length < N) (hB : N ≤ 1099511627776) : F_schema_FindColumn N (t, (n, ())) = some (((((idxE (isCol n) t.2.1).getD 0 : Nat) : Int), ((idxE (isCol n) t.2.1).isSome, ())), ()) := by
  simp only [F_schema_FindColumn, letJ_def]
  have h := indexFunc_form (fun x0 => (omap (fun y1 : ((Bool × Unit) × Unit) => (y1.1.1, ())) (F_schema_FindColumn_1 N (x0.1, (n, ()))))) (isCol n) t.2.1 (fun a _ => by simp only [F_schema_FindColumn_1, omap_def, Option.map_some, eqS_dec, isCol]) (([] : List UInt8), (0, (false, ()))) N hN (by omega)
  rw [show F_slices_IndexFunc_api_Column N (t.2.1, ((fun x0 => (omap (fun y1 => (y1.1.1, ())) (F_schema_FindColumn_1 N (x0.1, (n, ()))))), ())) = some ((idxI (isCol n) t.2.1, ()), ()) from h]
  simp only [oSome_some, oGet_some, cond_true, maxI_idx, leI_idx]
theorem findTable_eq (N : Nat) (s : D_api_Schema) (n : List UInt8) (hN : s.1.length < N) (hB : N ≤ 1099511627776) : F_schema_FindTable N (s, (n, ())) = some (((((idxE (isTab n) s.1).getD 0 : Nat) : Int), ((idxE (isTab n) s.1).isSome, ())), ()) := by
  simp only [F_schema_FindTable, letJ_def]
  have h := indexFunc_form (fun x0 => (omap (fun y1 : ((Bool × Unit) × Unit) => (y1.1.1, ())) (F_schema_FindTable_1 N (x0.1, (n, ()))))) (isTab n) s.1 (fun a _ => by simp only [F_schema_FindTable_1, omap_def, Option.map_some, eqS_dec, isTab]) (([] : List UInt8), (([] : List D_api_Column), (([] : List Int), ()))) N hN (by omega)
  rw [show F_slices_IndexFunc_api_Table N (s.1, ((fun x0 => (omap (fun y1 => (y1.1.1, ())) (F_schema_FindTable_1 N (x0.1, (n, ()))))), ())) = some ((idxI (isTab n) s.1, ()), ()) from h]
  simp only [oSome_some, oGet_some, cond_true, maxI_idx, leI_idx]
/-- The table found. -/
def tabOf (s : D_api_Schema) (n : List UInt8) : Option D_api_Table := (idxE (isTab n) s.1).bind fun i => s.1[i]?
theorem refFind_eq (N : Nat) (s : D_api_Schema) (n : List UInt8) (hN : s.1.length < N) (hB : N ≤ 1099511627776) : F_stemref2_FindTable N (s, (n, ())) = some ((tabOf s n, ()), ()) := by
  simp only [F_stemref2_FindTable]
  refine (iterF_first (S := Int × Unit) (fun i => ((i : Int), ())) s.1.length (atE (isTab n) s.1) (fun i => some ((s.1[i]?, ()), ())) (some ((none, ()), ())) rfl (fun i hi _ ih => ?_) (fun _ ih => ?_) hN).trans ?_
  · simp only
    rw [cond_pos (lt_len hi), inB_len hi, lget_at _ hi, iadd_nat (by omega), eqS_dec]
    simp only [atE, List.getElem?_eq_getElem hi, isTab, cond_true, decide_eq_true_eq]
    by_cases hq : (s.1[i]).1 = n <;> simp [hq]
  · simp only
    rw [cond_neg (nlt_len (Nat.lt_irrefl _))]
  · rw [tabOf, idxE]
    cases firstE (atE (isTab n) s.1) s.1.length <;> rfl

structure TSmall (N : Nat) (t : D_api_Table) : Prop where
  n : N ≤ 1099511627776
  m : 100 < N
  nm : t.1.length < N
  c : t.2.1.length < N
  k : t.2.2.1.length < N
  cn : ∀ c ∈ t.2.1, c.1.length < N

open Classical in
def colE (cs : List D_api_Column) (i : Nat) : Option Int := match cs[i]? with
  | none => none
  | some c => if nameOk c.1 = false then some 23 else if c.1 ∈ (cs.take i).map (fun c => c.1) then some 5 else if c.2.1 < 1 ∨ 3 < c.2.1 then some 7 else none
def colD : D_api_Column := (([] : List UInt8), (0, (false, ())))
def pkE (cs : List D_api_Column) (ks : List Int) (i : Nat) : Option Int := match ks[i]? with
  | none => none
  | some k => if k < 0 ∨ (cs.length : Int) ≤ k ∨ (lget cs k colD).2.2.1 = true ∨ (0 < i ∧ k ≤ ks.getD (i - 1) 0) then some 9 else none
def vTab (t : D_api_Table) : Int := if nameOk t.1 = false then 23 else if t.2.1.length = 0 then 3 else if 6 < t.2.1.length then 2 else match firstE (colE t.2.1) t.2.1.length with
  | some e => e
  | none => match firstE (pkE t.2.1 t.2.2.1) t.2.2.1.length with
    | some e => e
    | none => if t.2.2.1.length = 0 then 9 else 0

theorem first_lt {cs : List D_api_Column} {i : Nat} (hi : i < cs.length) : ltI (((idxE (isCol (cs[i]).1) cs).getD 0 : Nat) : Int) (i : Int) = open Classical in decide ((cs[i]).1 ∈ (cs.take i).map (fun c => c.1)) := by
  rw [ltI_dec]
  apply decide_eq_decide.2
  cases h : idxE (isCol (cs[i]).1) cs with
  | none =>
    have := idxE_none h cs[i] (List.getElem_mem hi)
    simp [isCol] at this
  | some j =>
    obtain ⟨hj, h1, h2⟩ := idxE_some h
    simp only [Option.getD_some]
    constructor
    · intro hlt
      refine List.mem_map.2 ⟨cs[j], ?_, by simpa [isCol] using h1⟩
      exact List.mem_take_iff_getElem.2 ⟨j, by omega, rfl⟩
    · intro hm
      obtain ⟨c, hc, he⟩ := List.mem_map.1 hm
      obtain ⟨k, hk, rfl⟩ := List.mem_take_iff_getElem.1 hc
      have hki : k < i := by omega
      by_cases hjk : k < j
      · have := h2 k hjk
        simp [isCol, he] at this
      · omega

theorem len_dec {α : Type} (xs : List α) : eqI (lenI xs) 0 = decide (xs.length = 0) := by
  rw [eqI_dec, lenI_def]; exact decide_eq_decide.2 (by omega)
theorem gt_dec {α : Type} (xs : List α) (n : Nat) : ltI (n : Int) (lenI xs) = decide (n < xs.length) := by
  rw [ltI_def, lenI_def]; exact decide_eq_decide.2 (by omega)

theorem schTable_eq (N : Nat) (t : D_api_Table) (h : TSmall N t) : F_schema_ValidateTable N (t, ()) = some ((vTab t, ()), ()) := by
  have hn := h.n
  have hc := h.c
  have hk := h.k
  simp only [F_schema_ValidateTable, letJ_def]
  rw [validName_eq N t.1 (by have := h.nm; omega) h.nm]
  simp only [oSome_some, oGet_some, cond_true, len_dec, show ltI 6 (lenI t.2.1) = decide (6 < t.2.1.length) from gt_dec _ 6]
  unfold vTab
  cases h1 : nameOk t.1 with
  | false => rfl
  | true =>
    simp only [Bool.not_true, cond_false, if_false, Bool.true_eq_false]
    by_cases h2 : t.2.1.length = 0
    · simp [h2]
    by_cases h3 : 6 < t.2.1.length
    · simp [h2, h3]
    simp only [h2, h3, decide_false, cond_false, if_false]
    refine (iterF_first (S := Int × Unit) (fun i => ((i : Int), ())) t.2.1.length (colE t.2.1) (fun e => some ((e, ()), ())) (match firstE (pkE t.2.1 t.2.2.1) t.2.2.1.length with
      | some e => some ((e, ()), ())
      | none => some ((if t.2.2.1.length = 0 then 9 else 0, ()), ())) rfl (fun i hi _ ih => ?_) (fun _ ih => ?_) hc).trans ?_
    · simp only
      have hm : (t.2.1[i]).1.length < N := h.cn _ (List.getElem_mem hi)
      rw [cond_pos (lt_len hi), cond_pos (inB_len hi), lget_at _ hi, validName_eq N _ (by omega) hm, findColumn_eq N t _ hc hn, iadd_nat (by omega)]
      simp only [oSome_some, oGet_some, cond_true, first_lt hi, colE, List.getElem?_eq_getElem hi]
      cases nameOk (t.2.1[i]).1 with
      | false => rfl
      | true =>
        simp only [Bool.not_true, cond_false, if_false, Bool.true_eq_false]
        by_cases h4 : (t.2.1[i]).1 ∈ (t.2.1.take i).map (fun c => c.1)
        · simp only [h4, decide_true, cond_true, if_true]
        · simp only [h4, decide_false, cond_false, if_false]
          rw [ltI_dec, ltI_dec, ← Bool.decide_or, cond_dec]
          split <;> rfl
    · simp only
      rw [cond_neg (nlt_len (Nat.lt_irrefl _))]
      refine (iterF_first (S := Int × Unit) (fun i => ((i : Int), ())) t.2.2.1.length (pkE t.2.1 t.2.2.1) (fun e => some ((e, ()), ())) (some ((if t.2.2.1.length = 0 then 9 else 0, ()), ())) rfl (fun i hi _ ih => ?_) (fun _ ih => ?_) hk).trans ?_
      · simp only
        rw [cond_pos (lt_len hi), cond_pos (inB_len hi), lget_at _ hi, iadd_nat (by omega)]
        simp only [pkE, List.getElem?_eq_getElem hi]
        have e1 : ltI (t.2.2.1[i]) 0 = decide (t.2.2.1[i] < 0) := ltI_dec _ _
        have e2 : leI (lenI t.2.1) (t.2.2.1[i]) = decide ((t.2.1.length : Int) ≤ t.2.2.1[i]) := by rw [leI_dec, lenI_def]
        have e3 : inB (t.2.2.1[i]) (lenI t.2.1) = (decide (0 ≤ t.2.2.1[i]) && decide (t.2.2.1[i] < (t.2.1.length : Int))) := by rw [inB_def, lenI_def]
        have e4 : ltI 0 (i : Int) = decide (0 < i) := by rw [ltI_dec]; exact decide_eq_decide.2 (by omega)
        rw [e1, e2, e3, e4]
        change (bif _ then (bif ((_ || (lget t.2.1 (t.2.2.1[i]) colD).2.2.1) || _) then _ else _) else _) = _
        by_cases h4 : t.2.2.1[i] < 0
        · simp [h4]
        by_cases h5 : (t.2.1.length : Int) ≤ t.2.2.1[i]
        · simp [h4, h5]
        have h6 : 0 ≤ t.2.2.1[i] := by omega
        have h7 : t.2.2.1[i] < (t.2.1.length : Int) := by omega
        by_cases h8 : 0 < i
        · have e5 : inB (isub .i64 (i : Int) 1) (lenI t.2.2.1) = true := by rw [isub64 (by omega) (by omega), inB_dec, lenI_def]; simp; omega
          have e6 : lget t.2.2.1 (isub .i64 (i : Int) 1) 0 = t.2.2.1.getD (i - 1) 0 := by
            rw [isub64 (by omega) (by omega), lget_def, show ((i : Int) - 1).toNat = i - 1 by omega]
          rw [e5, e6, leI_dec]
          generalize (lget t.2.1 (t.2.2.1[i]) colD).2.2.1 = bb
          generalize t.2.2.1.getD (i - 1) 0 = pv
          cases bb <;> by_cases h9 : t.2.2.1[i] ≤ pv <;> simp [h4, h5, h6, h7, h8, h9]
        · generalize (lget t.2.1 (t.2.2.1[i]) colD).2.2.1 = bb
          cases bb <;> simp [h4, h5, h6, h7, h8]
      · simp only
        rw [cond_neg (nlt_len (Nat.lt_irrefl _)), cond_dec]
        split <;> rfl
      · cases firstE (pkE t.2.1 t.2.2.1) t.2.2.1.length <;> rfl
    · cases firstE (colE t.2.1) t.2.1.length with
      | some e => rfl
      | none => cases firstE (pkE t.2.1 t.2.2.1) t.2.2.1.length <;> rfl

theorem refTable_eq (N : Nat) (t : D_api_Table) (h : TSmall N t) : F_stemref2_ValidateTable N (t, ()) = some ((vTab t, ()), ()) := by
  have hn := h.n
  have hc := h.c
  have hk := h.k
  have hm0 := h.m
  simp only [F_stemref2_ValidateTable, letJ_def]
  rw [refName_eq N t.1 hm0]
  simp only [oSome_some, oGet_some, cond_true, len_dec, show ltI 6 (lenI t.2.1) = decide (6 < t.2.1.length) from gt_dec _ 6]
  unfold vTab
  cases h1 : nameOk t.1 with
  | false => rfl
  | true =>
    simp only [Bool.not_true, cond_false, if_false, Bool.true_eq_false]
    by_cases h2 : t.2.1.length = 0
    · simp [h2]
    by_cases h3 : 6 < t.2.1.length
    · simp [h2, h3]
    simp only [h2, h3, decide_false, cond_false, if_false]
    refine (iterF_first (S := (List ((List UInt8) × Int)) × (Int × Unit)) (fun i => (cntM ((t.2.1.take i).map (fun c => c.1)), ((i : Int), ()))) t.2.1.length (colE t.2.1) (fun e => some ((e, ()), ())) (match firstE (pkE t.2.1 t.2.2.1) t.2.2.1.length with
      | some e => some ((e, ()), ())
      | none => some ((if t.2.2.1.length = 0 then 9 else 0, ()), ())) rfl (fun i hi _ ih => ?_) (fun _ ih => ?_) hc).trans ?_
    · simp only
      have hm : (t.2.1[i]).1.length < N := h.cn _ (List.getElem_mem hi)
      have hlen : ((t.2.1.take i).map (fun c => c.1)).length < 4611686018427387904 := by
        rw [List.length_map, List.length_take]; omega
      rw [cond_pos (lt_len hi), cond_pos (inB_len hi), lget_at _ hi, refName_eq N _ hm0, cntM_twice _ hlen, iadd_nat (by omega), ← cntM_snoc]
      have e0 : (t.2.1.take i).map (fun c => c.1) ++ [(t.2.1[i]).1] = (t.2.1.take (i + 1)).map (fun c => c.1) := by rw [take_snoc hi, List.map_append]; rfl
      simp only [oSome_some, oGet_some, cond_true, colE, List.getElem?_eq_getElem hi, e0]
      cases nameOk (t.2.1[i]).1 with
      | false => rfl
      | true =>
        simp only [Bool.not_true, cond_false, if_false, Bool.true_eq_false]
        by_cases h4 : (t.2.1[i]).1 ∈ (t.2.1.take i).map (fun c => c.1)
        · simp only [h4, decide_true, cond_true, if_true]
        · simp only [h4, decide_false, cond_false, if_false]
          rw [ltI_dec, ltI_dec, ← Bool.decide_or, cond_dec]
          split <;> rfl
    · simp only
      rw [cond_neg (nlt_len (Nat.lt_irrefl _))]
      have hprev : ∀ i, i ≤ t.2.2.1.length → firstE (pkE t.2.1 t.2.2.1) i = none → 0 < i → 0 ≤ t.2.2.1.getD (i - 1) 0 := fun i hi hf h0 => by
        have hlt : i - 1 < t.2.2.1.length := by omega
        have := firstE_none hf (i - 1) (by omega)
        simp only [pkE, List.getElem?_eq_getElem hlt] at this
        split at this
        · cases this
        · rename_i hc
          simp only [not_or] at hc
          rw [List.getD_eq_getElem?_getD, List.getElem?_eq_getElem hlt]
          simp only [Option.getD_some]
          omega
      refine (iterF_first (S := D_unicode_utf8_acceptRange) (fun i => (if i = 0 then -1 else t.2.2.1.getD (i - 1) 0, ((i : Int), ()))) t.2.2.1.length (pkE t.2.1 t.2.2.1) (fun e => some ((e, ()), ())) (some ((if t.2.2.1.length = 0 then 9 else 0, ()), ())) rfl (fun i hi hf ih => ?_) (fun hf ih => ?_) hk).trans ?_
      · simp only
        rw [cond_pos (lt_len hi), cond_pos (inB_len hi), lget_at _ hi, iadd_nat (by omega)]
        simp only [pkE, List.getElem?_eq_getElem hi]
        have e2 : leI (lenI t.2.1) (t.2.2.1[i]) = decide ((t.2.1.length : Int) ≤ t.2.2.1[i]) := by rw [leI_dec, lenI_def]
        have e3 : inB (t.2.2.1[i]) (lenI t.2.1) = (decide (0 ≤ t.2.2.1[i]) && decide (t.2.2.1[i] < (t.2.1.length : Int))) := by rw [inB_def, lenI_def]
        have e5 : t.2.2.1.getD (i + 1 - 1) 0 = t.2.2.1[i] := by
          rw [List.getD_eq_getElem?_getD, Nat.add_sub_cancel, List.getElem?_eq_getElem hi]; rfl
        rw [e2, e3, leI_dec]
        have hp := hprev i (Nat.le_of_lt hi) hf
        simp only [show ¬ (i + 1 = 0) by omega, if_false, e5]
        change (bif _ then (bif (_ || (lget t.2.1 (t.2.2.1[i]) colD).2.2.1) then _ else _) else _) = _
        generalize (lget t.2.1 (t.2.2.1[i]) colD).2.2.1 = bb
        by_cases h8 : i = 0
        · subst h8
          by_cases h4 : t.2.2.1[0] < 0
          · have h6 : t.2.2.1[0] ≤ -1 := by omega
            simp [h4, h6]
          · have h6 : ¬ t.2.2.1[0] ≤ -1 := by omega
            have h7 : (0 : Int) ≤ t.2.2.1[0] := by omega
            by_cases h5 : (t.2.1.length : Int) ≤ t.2.2.1[0]
            · simp [h4, h5]
            · have h9 : t.2.2.1[0] < (t.2.1.length : Int) := by omega
              cases bb <;> simp [h4, h5, h6, h7, h9]
        · have h0 : 0 < i := by omega
          have hp := hp h0
          generalize t.2.2.1.getD (i - 1) 0 = pv at *
          by_cases h4 : t.2.2.1[i] ≤ pv
          · simp [h4, h8, h0]
          · have h6 : ¬ t.2.2.1[i] < 0 := by omega
            have h7 : 0 ≤ t.2.2.1[i] := by omega
            by_cases h5 : (t.2.1.length : Int) ≤ t.2.2.1[i]
            · simp [h4, h5, h8]
            · have h9 : t.2.2.1[i] < (t.2.1.length : Int) := by omega
              cases bb <;> simp [h4, h5, h6, h7, h8, h9]
      · simp only
        rw [cond_neg (nlt_len (Nat.lt_irrefl _)), ltI_dec, cond_dec]
        by_cases h0 : t.2.2.1.length = 0
        · simp [h0]
        · have := hprev _ (Nat.le_refl _) hf (by omega)
          rw [if_neg h0, if_neg h0, if_neg (by omega)]
      · cases firstE (pkE t.2.1 t.2.2.1) t.2.2.1.length <;> rfl
    · cases firstE (colE t.2.1) t.2.1.length with
      | some e => rfl
      | none => cases firstE (pkE t.2.1 t.2.2.1) t.2.2.1.length <;> rfl

end
end Go.Proofs.YtolaedcogjhfbaaDoor
