/- The law of relations. -/
import Derived.Test.YtpnklahcegahiaaDoorRel
set_option linter.unusedVariables false
set_option linter.unusedSimpArgs false
set_option linter.unnecessarySimpa false
set_option linter.unusedSectionVars false
set_option linter.unusedSimpArgs false
set_option maxRecDepth 100000
namespace Go.Proofs.YtpnklahcegahiaaDoor
open Go.Vi
noncomputable section

theorem insert_eq (N : Nat) (rows : List Row') (i : Nat) (row : Row') (hi : i ≤ rows.length) (hb : rows.length ≤ 1099511627776) : F_slices_Insert_api_Row N (rows, ((i : Int), ([row], ()))) = some ((rows.take i ++ [row] ++ rows.drop i, ()), ()) := by
  rw [F_slices_Insert_api_Row, if_pos ⟨Int.natCast_nonneg _, by simp only; omega, by simp only [List.length_cons, List.length_nil]; omega⟩]
  simp
theorem delete_eq (N : Nat) (rows : List Row') (i : Nat) (hi : i < rows.length) (hb : rows.length ≤ 1099511627776) : F_slices_Delete_api_Row N (rows, ((i : Int), (iadd .i64 (i : Int) 1, ()))) = some ((rows.take i ++ rows.drop (i + 1), ()), ()) := by
  rw [iadd_nat (by omega), F_slices_Delete_api_Row, if_pos ⟨Int.natCast_nonneg _, by simp only; omega, by simp only; omega⟩]
  simp only [Int.toNat_natCast]

/-- What upserting comes to. -/
def upsC (rows : List Row') (q : Nat × Bool) (row : Row') : List Row' := bif q.2 then lset rows (q.1 : Int) row else rows.take q.1 ++ [row] ++ rows.drop q.1
def delC (rows : List Row') (q : Nat × Bool) : List Row' := bif q.2 then rows.take q.1 ++ rows.drop (q.1 + 1) else rows

theorem upsC_mem (rows : List Row') (q : Nat × Bool) (row : Row') : ∀ r ∈ upsC rows q row, r ∈ rows ∨ r = row := by
  intro r hr
  unfold upsC at hr
  cases hq : q.2 with
  | true =>
    rw [hq, cond_true, lset_def] at hr
    exact List.mem_or_eq_of_mem_set hr
  | false =>
    rw [hq, cond_false] at hr
    simp only [List.mem_append, List.mem_singleton] at hr
    rcases hr with (h | h) | h
    · exact .inl (List.mem_of_mem_take h)
    · exact .inr h
    · exact .inl (List.mem_of_mem_drop h)
theorem delC_mem (rows : List Row') (q : Nat × Bool) : ∀ r ∈ delC rows q, r ∈ rows := by
  intro r hr
  unfold delC at hr
  cases hq : q.2 with
  | true =>
    rw [hq, cond_true] at hr
    rcases List.mem_append.1 hr with h | h
    · exact List.mem_of_mem_take h
    · exact List.mem_of_mem_drop h
  | false => rw [hq, cond_false] at hr; exact hr
theorem upsC_len (rows : List Row') (q : Nat × Bool) (row : Row') : (upsC rows q row).length ≤ rows.length + 1 := by
  unfold upsC
  cases q.2 with
  | true => rw [cond_true, lset_def, List.length_set]; omega
  | false => rw [cond_false]; simp only [List.length_append, List.length_take, List.length_drop, List.length_cons, List.length_nil]; omega
theorem delC_len (rows : List Row') (q : Nat × Bool) : (delC rows q).length ≤ rows.length := by
  unfold delC
  cases q.2 with
  | true => rw [cond_true]; simp only [List.length_append, List.length_take, List.length_drop]; omega
  | false => rw [cond_false]; omega

abbrev fOf (t : D_api_Table) (key : Row') : Row' → Int := fun r => cmpRow (keyC t.2.2.1 r) key

theorem relDelete_eq (N : Nat) (t : D_api_Table) (rows : List Row') (key : Row') (hN : t.2.2.1.length < N) (hN2 : rows.length < N) (hB : N ≤ 1099511627776) (hr : ∀ r ∈ rows, r.length ≤ 1099511627776) :
    F_relation_Delete N (t, (rows, (key, ()))) = some ((delC rows (findC (fOf t key) rows), ((findC (fOf t key) rows).2, ())), ()) := by
  obtain ⟨s1, s2, s3⟩ := findC_spec (fOf t key) rows
  simp only [F_relation_Delete, letJ_def, relClone_eq N rows hN2 hB hr, oSome_some, oGet_some, cond_true, find_eq N t rows key hN hN2 hB]
  generalize findC (fOf t key) rows = q at *
  obtain ⟨i, b⟩ := q
  simp only at s1 s2 s3 ⊢
  cases b with
  | false => simp [delC]
  | true =>
    have hi : i < rows.length := by
      rcases Nat.lt_or_ge i rows.length with h | h
      · exact h
      · have := s2 (by omega); cases this
    simp [delete_eq N rows i hi (by omega), oSome_some, oGet_some, delC]
theorem upsert_eq (N : Nat) (t : D_api_Table) (rows : List Row') (row : Row') (hN : t.2.2.1.length < N) (hN2 : rows.length < N) (hB : N ≤ 1099511627776) (hr : ∀ r ∈ rows, r.length ≤ 1099511627776) (hrow : row.length ≤ 1099511627776) :
    F_relation_Upsert N (t, (rows, (row, ()))) = some ((upsC rows (findC (fOf t (keyC t.2.2.1 row)) rows) row, ()), ()) := by
  obtain ⟨s1, s2, s3⟩ := findC_spec (fOf t (keyC t.2.2.1 row)) rows
  simp only [F_relation_Upsert, letJ_def, relClone_eq N rows hN2 hB hr, clone_row N row hrow, key_eq N t row hN hB, oSome_some, oGet_some, cond_true, Bool.true_and, find_eq N t rows _ hN hN2 hB]
  generalize findC (fOf t (keyC t.2.2.1 row)) rows = q at *
  obtain ⟨i, b⟩ := q
  simp only at s1 s2 s3 ⊢
  cases b with
  | false => simp [insert_eq N rows i row s1 (by omega), oSome_some, oGet_some, upsC]
  | true =>
    have hi : i < rows.length := by
      rcases Nat.lt_or_ge i rows.length with h | h
      · exact h
      · have := s2 (by omega); cases this
    simp [inB_len hi, upsC]

/-! ## Bounds -/
theorem prod_le {a b : Nat} (h : a + b ≤ 1048576) : a * (67 + b) ≤ 1000000000000 := by
  rcases Nat.le_total a 524288 with h1 | h1
  · have := Nat.mul_le_mul h1 (show 67 + b ≤ 67 + 1048576 by omega)
    omega
  · have := Nat.mul_le_mul (show a ≤ 1048576 by omega) (show 67 + b ≤ 67 + 524288 by omega)
    omega
theorem flat_le {M : Nat} : (r : Row') → (∀ v ∈ r, (encV v).length ≤ M) → ((r.map encV).flatten).length ≤ r.length * M
  | [], _ => by simp
  | v :: r, h => by
    have h1 := h v List.mem_cons_self
    have h2 := flat_le r fun u hu => h u (List.mem_cons_of_mem _ hu)
    simp only [List.map_cons, List.flatten_cons, List.length_append, List.length_cons, Nat.add_mul, Nat.one_mul] at h2 ⊢
    omega
/-- So many values, none of a longer text. -/
theorem encR_small {r : Row'} {a b : Nat} (ha : r.length ≤ a) (hab : a + b ≤ 1048576) (h : ∀ v ∈ r, TVal.good v ∧ v.2.2.1.length ≤ b) : (encR r).length ≤ 1099511627776 := by
  have h1 := flat_le (M := 67 + b) r fun v hv => by
    obtain ⟨⟨g1, g2, g3, _⟩, g4⟩ := h v hv
    have := encV_len (v := v) ⟨g1, g2, g3⟩
    omega
  have h2 := Nat.mul_le_mul_right (67 + b) ha
  have h3 := prod_le hab
  have h4 := itoa_len_nat (n := r.length) (by unfold maxLen; omega)
  unfold encR
  rw [List.length_append]
  omega

theorem row_bulk : (r : Row') → ∀ v ∈ r, v.2.2.1.length + r.length ≤ (r.map TVal.bulk).sum
  | [], v, hv => by cases hv
  | u :: r, v, hv => by
    have hu : TVal.bulk u = 1 + (1 + (u.2.2.1.length + 1 + 1)) := rfl
    have hr : r.length ≤ (r.map TVal.bulk).sum := by
      have := bulk_slice TVal r
      have e : (Ty.slice TVal).bulk r = (r.map TVal.bulk).sum + 1 := rfl
      omega
    simp only [List.map_cons, List.sum_cons, List.length_cons]
    rcases List.mem_cons.1 hv with rfl | hv
    · omega
    · have := row_bulk r v hv
      omega
theorem rows_bulk : (rows : List Row') → ∀ r ∈ rows, (r.map TVal.bulk).sum + 1 ≤ (rows.map (Ty.slice TVal).bulk).sum
  | [], r, hr => by cases hr
  | q :: rows, r, hr => by
    simp only [List.map_cons, List.sum_cons]
    have e : (Ty.slice TVal).bulk q = (q.map TVal.bulk).sum + 1 := rfl
    rcases List.mem_cons.1 hr with rfl | hr
    · omega
    · have := rows_bulk rows r hr
      omega

theorem keyV_mem (row : Row') (i : Int) : keyV row i ∈ row ∨ keyV row i = zV := by
  unfold keyV
  split
  · exact .inl (List.getElem_mem _)
  · exact .inr rfl

theorem law13 (x : D_api_Table × (List Row' × (Row' × (Row' × Unit)))) (hg : goodAll [T_api_Table, .slice (.slice T_api_Value), .slice T_api_Value, .slice T_api_Value] x) (hb : bulkAll [T_api_Table, .slice (.slice T_api_Value), .slice T_api_Value, .slice T_api_Value] x ≤ 1048576) : ∃ N z, F_stemlaw2_RelationMatchesReference N x = some ((true, ()), z) := by
  obtain ⟨t, rows, row, key, ⟨⟩⟩ := x
  have gt : TTab.good t := hg.1
  have grs : ∀ r ∈ rows, r.length ≤ maxLen ∧ ∀ v ∈ r, TVal.good v := fun r hr => hg.2.1.2 r hr
  have gr : ∀ v ∈ row, TVal.good v := hg.2.2.1.2
  have hb' : TTab.bulk t + ((rows.map (Ty.slice TVal).bulk).sum + 1 + ((row.map TVal.bulk).sum + 1 + ((key.map TVal.bulk).sum + 1 + 0))) ≤ 1048576 := hb
  have ht : TTab.bulk t = t.1.length + 1 + ((t.2.1.map TCol.bulk).sum + 1 + ((t.2.2.1.map (Ty.bulk (.int .i64))).sum + 1 + 1)) := rfl
  rw [ints_bulk] at ht
  have lrows : rows.length ≤ (rows.map (Ty.slice TVal).bulk).sum := by
    have := bulk_slice (.slice TVal) rows
    have e : (Ty.slice (.slice TVal)).bulk rows = (rows.map (Ty.slice TVal).bulk).sum + 1 := rfl
    omega
  have lrow : ∀ r : Row', r.length ≤ (r.map TVal.bulk).sum := fun r => by
    have := bulk_slice TVal r
    have e : (Ty.slice TVal).bulk r = (r.map TVal.bulk).sum + 1 := rfl
    omega
  have l1 := lrow row
  have l2 := lrow key
  have lr : ∀ r ∈ rows, r.length ≤ 1048576 := fun r hr => by have := rows_bulk rows r hr; have := lrow r; omega
  have eRow : (encR row).length ≤ 1099511627776 := encR_small (a := row.length) (b := 1048576 - row.length) (Nat.le_refl _) (by omega) fun v hv => ⟨gr v hv, by have := row_bulk row v hv; omega⟩
  have eRows : ∀ r ∈ rows, (encR r).length ≤ 1099511627776 := fun r hr => encR_small (a := r.length) (b := 1048576 - r.length) (Nat.le_refl _) (by have := lr r hr; omega) fun v hv => ⟨(grs r hr).2 v hv, by have := row_bulk r v hv; have := rows_bulk rows r hr; omega⟩
  have eKey : (encR (keyC t.2.2.1 row)).length ≤ 1099511627776 := encR_small (a := t.2.2.1.length) (b := (row.map TVal.bulk).sum) (by rw [keyC_len]; exact Nat.le_refl _) (by omega) fun v hv => by
    obtain ⟨i, _, rfl⟩ := List.mem_map.1 hv
    rcases keyV_mem row i with h | h
    · exact ⟨gr _ h, by have := row_bulk row _ h; omega⟩
    · rw [h]; exact ⟨⟨has_zero, has_zero, Nat.zero_le _, trivial⟩, Nat.zero_le _⟩
  obtain ⟨N, hNe⟩ : ∃ N, N = 1048600 := ⟨_, rfl⟩
  refine ⟨N, (), ?_⟩
  have hB : N ≤ 1099511627776 := by omega
  have hN : t.2.2.1.length < N := by omega
  have hN2 : rows.length < N := by omega
  have hr' : ∀ r ∈ rows, r.length ≤ 1099511627776 := fun r hr => by have := lr r hr; omega
  have f1 := find_eq N t rows key hN hN2 hB
  have f2 := findKey_eq N t rows key hN hN2 hB
  have f3 := key_eq N t row hN hB
  have f4 := keyOf_eq N t row hN hB
  have f5 := compareRows_eq N row key (by omega) hB
  have f6 := compareRowsR_eq N row key (by omega) hB
  have f7 := clone_rows N rows (by omega)
  have f8 := relDelete_eq N t rows key hN hN2 hB hr'
  have f9 := relClone_eq N rows hN2 hB hr'
  have fA := findKey_eq N t rows (keyC t.2.2.1 row) hN hN2 hB
  have fB := upsert_eq N t rows row hN hN2 hB hr' (by omega)
  have fC := encode_eq N (keyC t.2.2.1 row) eKey
  have qs1 := findC_spec (fOf t key) rows
  have qs2 := findC_spec (fOf t (keyC t.2.2.1 row)) rows
  have e1 : (fun r => cmpRow (keyC t.2.2.1 r) key) = fOf t key := rfl
  have e2 : (fun r => cmpRow (keyC t.2.2.1 r) (keyC t.2.2.1 row)) = fOf t (keyC t.2.2.1 row) := rfl
  rw [e1] at f1 f2
  rw [e2] at fA
  generalize findC (fOf t key) rows = q1 at *
  generalize findC (fOf t (keyC t.2.2.1 row)) rows = q2 at *
  obtain ⟨i1, b1⟩ := q1
  obtain ⟨i2, b2⟩ := q2
  have g1 := equalRows_eq N (delC rows (i1, b1)) (delC rows (i1, b1)) (by have := delC_len rows (i1, b1); omega) hB (fun r hr => eRows r (delC_mem _ _ r hr)) (fun r hr => eRows r (delC_mem _ _ r hr))
  have g2 := equalRows_eq N rows rows hN2 hB eRows eRows
  have eU : ∀ r ∈ upsC rows (i2, b2) row, (encR r).length ≤ 1099511627776 := fun r hr => (upsC_mem _ _ _ r hr).elim (eRows r) fun h => h ▸ eRow
  have g3 := equalRows_eq N (upsC rows (i2, b2) row) (upsC rows (i2, b2) row) (by have := upsC_len rows (i2, b2) row; omega) hB eU eU
  have g4 := equalRows_eq N rows (upsC rows (i2, b2) row) hN2 hB eRows eU
  have g5 := relEqual_eq N rows (upsC rows (i2, b2) row) hN2 hB (fun r hr => by have := lr r hr; omega)
  have g6 := relEqual_eq N rows rows hN2 hB (fun r hr => by have := lr r hr; omega)
  obtain ⟨s1, s2, s3⟩ := qs1
  obtain ⟨p1, p2, p3⟩ := qs2
  simp only at s1 s2 p1 p2 f1 f2 fA
  have hd : (bif b1 then oSome (F_slices_Delete_api_Row N (rows, ((i1 : Int), (iadd .i64 (i1 : Int) 1, ())))) else true) = true ∧ (bif b1 then (oGet (F_slices_Delete_api_Row N (rows, ((i1 : Int), (iadd .i64 (i1 : Int) 1, ())))) ((([] : List Row'), ()), ())).1.1 else rows) = delC rows (i1, b1) := by
    cases b1 with
    | false => exact ⟨rfl, rfl⟩
    | true =>
      have hi : i1 < rows.length := by
        rcases Nat.lt_or_ge i1 rows.length with h | h
        · exact h
        · have := s2 (by omega); cases this
      rw [delete_eq N rows i1 hi (by omega)]
      exact ⟨by rw [cond_true, oSome_some], by rw [cond_true, oGet_some]; rfl⟩
  have hu : (bif b2 then inB (i2 : Int) (lenI rows) else oSome (F_slices_Insert_api_Row N (rows, ((i2 : Int), ([row], ()))))) = true ∧ (bif b2 then lset rows (i2 : Int) row else (oGet (F_slices_Insert_api_Row N (rows, ((i2 : Int), ([row], ())))) ((([] : List Row'), ()), ())).1.1) = upsC rows (i2, b2) row := by
    rw [insert_eq N rows i2 row p1 (by omega)]
    cases b2 with
    | false => exact ⟨by rw [cond_false, oSome_some], by rw [cond_false, oGet_some]; rfl⟩
    | true =>
      have hi : i2 < rows.length := by
        rcases Nat.lt_or_ge i2 rows.length with h | h
        · exact h
        · have := p2 (by omega); cases this
      exact ⟨by rw [cond_true, inB_len hi], rfl⟩
  obtain ⟨d1, d2⟩ := hd
  obtain ⟨u1, u2⟩ := hu
  clear hb hb' hg gt grs gr s3 p3
  simp only [F_stemlaw2_RelationMatchesReference, letJ_def, f1, f2, f3, f4, f5, f6, f7, f8, f9, fA, fB, fC, oSome_some, oGet_some, cond_true, d1, d2, u1, u2, g1, g2, g3, g4, g5, g6, Bool.or_true, Bool.and_true, Bool.true_and, neI_dec, eqB_dec, eqS_dec, decide_true, Bool.not_true, Bool.or_false, Bool.false_or, cond_false]

end
end Go.Proofs.YtpnklahcegahiaaDoor
