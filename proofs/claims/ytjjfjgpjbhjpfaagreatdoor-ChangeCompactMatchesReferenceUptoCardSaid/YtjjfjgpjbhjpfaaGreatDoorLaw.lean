import Derived.Test.YtjjfjgpjbhjpfaaGreatDoorSma
set_option linter.unusedVariables false
set_option linter.unusedSimpArgs false
set_option linter.unnecessarySimpa false
set_option linter.unusedSectionVars false
set_option linter.unusedSimpArgs false
set_option maxRecDepth 100000
/- Instances: both checks say the same. -/
namespace Go.Proofs.YtjjfjgpjbhjpfaaGreatDoor
open Go.Vi
noncomputable section

/-! ## What a valid schema says -/
theorem firstE_code {g : Nat → Option Int} {n : Nat} (h : ∀ i e, g i = some e → e ≠ 0) {z : Int} (hz : (match firstE g n with
    | some e => e
    | none => z) = 0) : firstE g n = none ∧ z = 0 := by
  cases hf : firstE g n with
  | none => rw [hf] at hz; exact ⟨rfl, hz⟩
  | some e =>
    rw [hf] at hz
    obtain ⟨i, _, h2, _⟩ := firstE_some hf
    exact absurd hz (h i e h2)
theorem tabL_code (ts : List D_api_Table) : ∀ i e, tabL ts i = some e → e ≠ 0 := fun i e h => by
  unfold tabL at h
  split at h
  · cases h
  split at h
  · rename_i hv; injection h with h; subst h; exact hv
  split at h
  · injection h with h; subst h; decide
  · cases h
theorem fkL_code (s : D_api_Schema) : ∀ i e, fkL s i = some e → e ≠ 0 := fun i e h => by
  unfold fkL at h
  split at h
  · cases h
  split at h
  · rename_i hv; injection h with h; subst h; exact hv
  split at h
  · injection h with h; subst h; decide
  · cases h
theorem conL_code (s : D_api_Schema) : ∀ i e, conL s i = some e → e ≠ 0 := fun i e h => by
  unfold conL at h
  split at h
  · cases h
  split at h
  · rename_i hv; injection h with h; subst h; exact hv
  split at h
  · injection h with h; subst h; decide
  · cases h
theorem fkE_code (t r : D_api_Table) (cs : List Int) : ∀ i e, fkE t r cs i = some e → e ≠ 0 := fun i e h => by
  unfold fkE at h
  split at h
  · cases h
  split at h
  · injection h with h; subst h; decide
  split at h
  · injection h with h; subst h; decide
  · cases h

structure Valid (s : D_api_Schema) : Prop where
  tabs : firstE (tabL s.1) s.1.length = none
  few : s.1.length ≤ 6
  fks : ∀ f ∈ s.2.1, vFk s f = 0
  cons : ∀ c ∈ s.2.2.1, vCon s c = 0
theorem valid_of {s : D_api_Schema} (h : vSch s = 0) : Valid s := by
  unfold vSch at h
  split at h
  · cases h
  rename_i h0
  obtain ⟨h1, h⟩ := firstE_code (tabL_code s.1) h
  obtain ⟨h2, h⟩ := firstE_code (fkL_code s) h
  obtain ⟨h3, _⟩ := firstE_code (conL_code s) h
  refine ⟨h1, by omega, fun f hf => ?_, fun c hc => ?_⟩
  · obtain ⟨i, hi, rfl⟩ := List.getElem_of_mem hf
    have := firstE_none h2 i hi
    simp only [fkL, List.getElem?_eq_getElem hi] at this
    split at this
    · cases this
    · rename_i hv; simpa using hv
  · obtain ⟨i, hi, rfl⟩ := List.getElem_of_mem hc
    have := firstE_none h3 i hi
    simp only [conL, List.getElem?_eq_getElem hi] at this
    split at this
    · cases this
    · rename_i hv; simpa using hv
theorem bless_trans {a b c : List UInt8} (h1 : bless a b = true) (h2 : bless b c = true) : bless a c = true := by
  rw [bless_cb, decide_eq_true_eq] at *
  exact cb_trans a b c h1 h2
theorem bless_irr (a : List UInt8) : bless a a = false := by
  rw [bless_cb, (cb_zero a a).2 rfl]; rfl
theorem Valid.names {s : D_api_Schema} (h : Valid s) : s.1.Pairwise (fun a b => bless a.1 b.1 = true) :=
  pairwise_of (fun a b : D_api_Table => bless a.1 b.1 = true) (fun _ _ _ h1 h2 => bless_trans h1 h2) s.1 fun i hi => by
    have := firstE_none h.tabs (i + 1) hi
    simp only [tabL, List.getElem?_eq_getElem hi] at this
    split at this
    · cases this
    split at this
    · cases this
    rename_i hq
    have e : ((i + 1 : Nat) : Int) - 1 = (i : Int) := by omega
    rw [e, lget_at _ (show i < s.1.length by omega)] at hq
    simpa using hq
/-- A table's own name finds it. -/
theorem Valid.self {s : D_api_Schema} (h : Valid s) {i : Nat} (hi : i < s.1.length) : idxE (isTab (s.1[i]).1) s.1 = some i := by
  cases hx : idxE (isTab (s.1[i]).1) s.1 with
  | none =>
    have := idxE_none hx _ (List.getElem_mem hi)
    simp [isTab] at this
  | some j =>
    obtain ⟨hj, h1, h2⟩ := idxE_some hx
    by_cases hij : j = i
    · rw [hij]
    · have hji : j < i := by
        by_cases hlt : i < j
        · have := h2 i hlt
          simp [isTab] at this
        · omega
      have := List.pairwise_iff_getElem.1 h.names j i hj hi hji
      have e : (s.1[j]).1 = (s.1[i]).1 := by simpa [isTab] using h1
      rw [e, bless_irr] at this
      cases this
theorem Valid.fk {s : D_api_Schema} (h : Valid s) {f : D_api_ForeignKey} (hf : f ∈ s.2.1) : ∃ t r, tabOf s f.1 = some t ∧ tabOf s f.2.2.1 = some r ∧ f.2.1.length = r.2.2.1.length ∧ ∀ c ∈ f.2.1, 0 ≤ c ∧ c < (t.2.1.length : Int) := by
  have := h.fks f hf
  unfold vFk at this
  split at this
  · rename_i t r h1 h2
    split at this
    · cases this
    rename_i hl
    obtain ⟨h3, _⟩ := firstE_code (fkE_code t r f.2.1) this
    refine ⟨t, r, h1, h2, by omega, fun c hc => ?_⟩
    obtain ⟨j, hj, rfl⟩ := List.getElem_of_mem hc
    have := firstE_none h3 j hj
    simp only [fkE, List.getElem?_eq_getElem hj] at this
    split at this
    · cases this
    · omega
  · cases this
theorem Valid.con {s : D_api_Schema} (h : Valid s) {c : D_api_Constraint} (hc : c ∈ s.2.2.1) : ∃ t, tabOf s c.1 = some t ∧ 0 ≤ c.2.1 ∧ c.2.1 < (t.2.1.length : Int) ∧ opOk c.2.2.1 = true ∧ -1 ≤ c.2.2.2.1 ∧ c.2.2.2.1 < (t.2.1.length : Int) := by
  have := h.cons c hc
  unfold vCon at this
  split at this
  · cases this
  rename_i t ht
  split at this
  · cases this
  rename_i hn
  simp only [not_or] at hn
  exact ⟨t, ht, by omega, by omega, by simpa using hn.2.2.1, by omega, by omega⟩

/-! ## Rows -/
abbrev DRel : Type := List UInt8 × (List Row' × Unit)
def cellE (t : D_api_Table) (row : Row') (i : Nat) : Option Int := match row[i]? with
  | none => none
  | some v => if vVal v ≠ 0 then some (vVal v) else if v.1 = 0 ∧ (lget t.2.1 (i : Int) colD).2.2.1 = false then some 8 else if v.1 ≠ 0 ∧ v.1 ≠ (lget t.2.1 (i : Int) colD).2.1 then some 7 else none
def vRow (t : D_api_Table) (row : Row') : Int := if row.length ≠ t.2.1.length then 3 else match firstE (cellE t row) row.length with
  | some e => e
  | none => 0
theorem schRow_eq (N : Nat) (t : D_api_Table) (row : Row') (hN : row.length < N) (hB : N ≤ 1099511627776) : F_instance_ConformsRow N (t, (row, ())) = some ((vRow t row, ()), ()) := by
  simp only [F_instance_ConformsRow, letJ_def, ne_len, cond_dec]
  unfold vRow
  by_cases h0 : row.length ≠ t.2.1.length
  · rw [if_pos h0, if_pos h0]
  rw [if_neg h0, if_neg h0]
  have hl : row.length = t.2.1.length := by omega
  refine (iterF_first (S := Int × Unit) (fun i => ((i : Int), ())) row.length (cellE t row) (fun e => some ((e, ()), ())) (some ((0, ()), ())) rfl (fun i hi _ ih => ?_) (fun _ ih => ?_) hN).trans ?_
  · simp only
    have hit : i < t.2.1.length := by omega
    rw [cond_pos (lt_len hi), cond_pos (inB_len hi), lget_at _ hi, schVal_eq, iadd_nat (by omega), inB_len hit]
    simp only [oSome_some, oGet_some, cond_true, cellE, List.getElem?_eq_getElem hi, lget_at _ hit, neI_dec, eqI_dec, ← decide_not, Bool.or_true]
    generalize vVal row[i] = vv
    generalize (t.2.1[i]).2.2.1 = nb
    generalize (t.2.1[i]).2.1 = ck
    generalize (row[i]).1 = rk
    by_cases q1 : vv = 0 <;> by_cases q2 : rk = 0 <;> by_cases q3 : rk = ck <;> cases nb <;> first | (simp [q1, q2, q3]; done) | (subst q3; simp [q1, q2])
  · simp only
    rw [cond_neg (nlt_len (Nat.lt_irrefl _))]
  · cases firstE (cellE t row) row.length <;> rfl
theorem refRow_eq (N : Nat) (t : D_api_Table) (row : Row') (hN : row.length < N) (hB : N ≤ 1099511627776) : F_stemref2_ConformsRow N (t, (row, ())) = some ((vRow t row, ()), ()) := by
  simp only [F_stemref2_ConformsRow, letJ_def, ne_len, cond_dec]
  unfold vRow
  by_cases h0 : row.length ≠ t.2.1.length
  · rw [if_pos h0, if_pos h0]
  rw [if_neg h0, if_neg h0]
  have hl : row.length = t.2.1.length := by omega
  refine (iterF_first (S := Int × Unit) (fun i => ((i : Int), ())) row.length (cellE t row) (fun e => some ((e, ()), ())) (some ((0, ()), ())) rfl (fun i hi _ ih => ?_) (fun _ ih => ?_) hN).trans ?_
  · simp only
    have hit : i < t.2.1.length := by omega
    rw [cond_pos (lt_len hi), cond_pos (inB_len hi), lget_at _ hi, refVal_eq, iadd_nat (by omega), inB_len hit]
    simp only [oSome_some, oGet_some, cond_true, cellE, List.getElem?_eq_getElem hi, lget_at _ hit, neI_dec, eqI_dec, ← decide_not, Bool.or_true]
    generalize vVal row[i] = vv
    generalize (t.2.1[i]).2.2.1 = nb
    generalize (t.2.1[i]).2.1 = ck
    generalize (row[i]).1 = rk
    by_cases q1 : vv = 0 <;> by_cases q2 : rk = 0 <;> by_cases q3 : rk = ck <;> cases nb <;> first | (simp [q1, q2, q3]; done) | (subst q3; simp [q1, q2])
  · simp only
    rw [cond_neg (nlt_len (Nat.lt_irrefl _))]
  · cases firstE (cellE t row) row.length <;> rfl

/-! ## Instances in form -/
abbrev relD : DRel := (([] : List UInt8), (([] : List Row'), ()))
abbrev tabD : D_api_Table := (([] : List UInt8), (([] : List D_api_Column), (([] : List Int), ())))
def prevE (t : D_api_Table) (rows : List Row') (i : Nat) : Option Int := match rows[i]? with
  | none => none
  | some row => if vRow t row ≠ 0 then some (vRow t row) else if 0 < i ∧ cmpRow (keyC t.2.2.1 (lget rows ((i : Int) - 1) [])) (keyC t.2.2.1 row) = 0 then some 9 else if 0 < i ∧ 0 < cmpRow (keyC t.2.2.1 (lget rows ((i : Int) - 1) [])) (keyC t.2.2.1 row) then some 6 else none
def relE (ts : List D_api_Table) (rels : List DRel) (i : Nat) : Option Int := match rels[i]? with
  | none => none
  | some r => if r.1 ≠ (lget ts (i : Int) tabD).1 then some 3 else if 24 < r.2.1.length then some 2 else firstE (prevE (lget ts (i : Int) tabD) r.2.1) r.2.1.length
def vConf (s : D_api_Schema) (rels : List DRel) : Int := if rels.length ≠ s.1.length then 3 else match firstE (relE s.1 rels) rels.length with
  | some e => e
  | none => 0
structure RSmall (N : Nat) (rels : List DRel) : Prop where
  n : rels.length < N
  rows : ∀ r ∈ rels, r.2.1.length < N
  row : ∀ r ∈ rels, ∀ x ∈ r.2.1, x.length < N
  enc : ∀ r ∈ rels, ∀ x ∈ r.2.1, (encR x).length ≤ 1099511627776
theorem len24x {α : Type} (xs : List α) : ltI 24 (lenI xs) = decide (24 < xs.length) := gt_dec xs 24
theorem cmp_cases : (a b : Row') → cmpRow a b = -1 ∨ cmpRow a b = 0 ∨ cmpRow a b = 1
  | [], ys => by have := ic_cases 0 (ys.length : Int); simp only [cmpRow]; omega
  | _ :: xs, [] => by have := ic_cases ((xs.length : Int) + 1) 0; simp only [cmpRow]; omega
  | x :: xs, y :: ys => by
    have h1 := vc_cases x y
    have h2 := cmp_cases xs ys
    simp only [cmpRow]
    split <;> assumption
theorem schConf_eq (N : Nat) (s : D_api_Schema) (rels : List DRel) (hs : SSmall N s) (hr : RSmall N rels) : F_instance_Conforms N (s, (rels, ())) = some ((vConf s rels, ()), ()) := by
  have hn := hs.sm.n
  have hrn := hr.n
  simp only [F_instance_Conforms, letJ_def, ne_len, cond_dec]
  unfold vConf
  by_cases h0 : rels.length ≠ s.1.length
  · rw [if_pos h0, if_pos h0]
  rw [if_neg h0, if_neg h0]
  have hl : rels.length = s.1.length := by omega
  refine (iterF_first (S := Int × Unit) (fun i => ((i : Int), ())) rels.length (relE s.1 rels) (fun e => some ((e, ()), ())) (some ((0, ()), ())) rfl (fun i hi _ ih => ?_) (fun _ ih => ?_) hr.n).trans ?_
  · have hit : i < s.1.length := by omega
    have hm := List.getElem_mem hi
    have ht : TSmall N s.1[i] := hs.tab (List.getElem_mem hit)
    have hrows := hr.rows _ hm
    have hrow := hr.row _ hm
    simp only [lget_at _ hi, lget_at _ hit, lt_len hi, inB_len hi, inB_len hit, cond_true, relE, List.getElem?_eq_getElem hi, iadd_nat (show i < 4611686018427387904 by omega)]
    generalize hrel : rels[i] = rel at *
    generalize htab : s.1[i] = t at *
    simp only [eqS_dec, ← decide_not, cond_dec, len24x]
    by_cases h1 : rel.1 = t.1
    · have h1' : ¬ (rel.1 ≠ t.1) := fun h => h h1
      rw [if_neg h1']; try rw [if_neg h1']
      by_cases h2 : 24 < rel.2.1.length
      · rw [if_pos h2]; try rw [if_pos h2]
      rw [if_neg h2]; try rw [if_neg h2]
      refine iterF_first (S := Int × Unit) (fun k => ((k : Int), ())) rel.2.1.length (prevE t rel.2.1) (fun e => some ((e, ()), ())) _ rfl (fun k hk _ ih2 => ?_) (fun _ ih2 => ?_) hrows
      · have hrk := hrow _ (List.getElem_mem hk)
        have hcmp : ∀ a b : Row', F_value_CompareRows N (keyC t.2.2.1 a, (keyC t.2.2.1 b, ())) = some ((cmpRow (keyC t.2.2.1 a) (keyC t.2.2.1 b), ()), ()) := fun a b => compareRows_eq N _ _ (by rw [keyC_len]; exact ht.k) hn
        simp only [lget_at _ hk, lt_len hk, inB_len hk, cond_true, schRow_eq N t _ hrk hn, oSome_some, oGet_some, neI_dec, eqI_dec, ltI_dec, key_eq N t _ ht.k hn, hcmp, iadd_nat (show k < 4611686018427387904 by omega), prevE, List.getElem?_eq_getElem hk, cond_dec, Bool.and_true]
        by_cases h3 : vRow t rel.2.1[k] = 0
        · simp only [h3, decide_true, Bool.not_true, cond_false, ne_eq, not_true_eq_false, if_false]
          by_cases h8 : 0 < k
          · have e5 : isub .i64 (k : Int) 1 = (k : Int) - 1 := isub64 (by omega) (by omega)
            have e6 : inB ((k : Int) - 1) (lenI rel.2.1) = true := by rw [inB_dec, lenI_def]; simp; omega
            rw [e5, e6, if_neg (by omega), cond_true]
            have c := cmp_cases (keyC t.2.2.1 (lget rel.2.1 ((k : Int) - 1) [])) (keyC t.2.2.1 rel.2.1[k])
            generalize cmpRow (keyC t.2.2.1 (lget rel.2.1 ((k : Int) - 1) [])) (keyC t.2.2.1 rel.2.1[k]) = cc at *
            by_cases c0 : cc = 0
            · simp [c0, h8]
            · by_cases c1 : 0 < cc
              · simp [c0, c1, h8]
              · simp [c0, c1, h8]
          · rw [if_pos (by omega)]
            simp [h8]
        · simp only [h3, decide_false, Bool.not_false, cond_true, ne_eq, not_false_eq_true, if_true]
      · simp only
        rw [cond_neg (nlt_len (Nat.lt_irrefl _))]
    · rw [if_pos h1]; try rw [if_pos h1]
  · simp only
    rw [cond_neg (nlt_len (Nat.lt_irrefl _))]
  · cases firstE (relE s.1 rels) rels.length <;> rfl
theorem refConf_eq (N : Nat) (s : D_api_Schema) (rels : List DRel) (hs : SSmall N s) (hr : RSmall N rels) : F_stemref2_Conforms N (s, (rels, ())) = some ((vConf s rels, ()), ()) := by
  have hn := hs.sm.n
  have hrn := hr.n
  simp only [F_stemref2_Conforms, letJ_def, ne_len, cond_dec]
  unfold vConf
  by_cases h0 : rels.length ≠ s.1.length
  · rw [if_pos h0, if_pos h0]
  rw [if_neg h0, if_neg h0]
  have hl : s.1.length = rels.length := by omega
  rw [← hl]
  refine (iterF_first (S := Int × Unit) (fun i => ((i : Int), ())) s.1.length (relE s.1 rels) (fun e => some ((e, ()), ())) (some ((0, ()), ())) rfl (fun i hit _ ih => ?_) (fun _ ih => ?_) hs.sm.t).trans ?_
  · have hi : i < rels.length := by omega
    have hm := List.getElem_mem hi
    have ht : TSmall N s.1[i] := hs.tab (List.getElem_mem hit)
    have hrows := hr.rows _ hm
    have hrow := hr.row _ hm
    simp only [lget_at _ hi, lget_at _ hit, lt_len hit, inB_len hi, inB_len hit, cond_true, relE, List.getElem?_eq_getElem hi, iadd_nat (show i < 4611686018427387904 by omega)]
    generalize hrel : rels[i] = rel at *
    generalize htab : s.1[i] = t at *
    simp only [eqS_dec, ← decide_not, cond_dec, len24x]
    by_cases h1 : rel.1 = t.1
    · have h1' : ¬ (rel.1 ≠ t.1) := fun h => h h1
      rw [if_neg h1']; try rw [if_neg h1']
      by_cases h2 : 24 < rel.2.1.length
      · rw [if_pos h2]; try rw [if_pos h2]
      rw [if_neg h2]; try rw [if_neg h2]
      refine iterF_first (S := Row' × (Int × Unit)) (fun k => ((if 0 < k then keyC t.2.2.1 (lget rel.2.1 ((k : Int) - 1) []) else []), ((k : Int), ()))) rel.2.1.length (prevE t rel.2.1) (fun e => some ((e, ()), ())) _ rfl (fun k hk _ ih2 => ?_) (fun _ ih2 => ?_) hrows
      · have hrk := hrow _ (List.getElem_mem hk)
        have hnx : (if 0 < k + 1 then keyC t.2.2.1 (lget rel.2.1 (((k + 1 : Nat) : Int) - 1) []) else []) = keyC t.2.2.1 rel.2.1[k] := by
          rw [if_pos (by omega), show ((k + 1 : Nat) : Int) - 1 = (k : Int) by omega, lget_at _ hk]
        rw [hnx]
        simp only [lget_at _ hk, lt_len hk, inB_len hk, cond_true, refRow_eq N t _ hrk hn, oSome_some, oGet_some, neI_dec, eqI_dec, ltI_dec, keyOf_eq N t _ ht.k hn, iadd_nat (show k < 4611686018427387904 by omega), prevE, List.getElem?_eq_getElem hk, cond_dec, Bool.and_true]
        by_cases h3 : vRow t rel.2.1[k] = 0
        · simp only [h3, decide_true, Bool.not_true, cond_false, ne_eq, not_true_eq_false, if_false]
          by_cases h8 : 0 < k
          · rw [if_pos h8, if_pos (show (0 : Int) < (k : Int) by omega)]
            have hcmp : ∀ a b : Row', F_stemref2_CompareRows N (keyC t.2.2.1 a, (keyC t.2.2.1 b, ())) = some ((cmpRow (keyC t.2.2.1 a) (keyC t.2.2.1 b), ()), ()) := fun a b => compareRowsR_eq N _ _ (by rw [keyC_len]; exact ht.k) hn
            simp only [hcmp, oSome_some, oGet_some, cond_true]
            have c := cmp_cases (keyC t.2.2.1 (lget rel.2.1 ((k : Int) - 1) [])) (keyC t.2.2.1 rel.2.1[k])
            generalize cmpRow (keyC t.2.2.1 (lget rel.2.1 ((k : Int) - 1) [])) (keyC t.2.2.1 rel.2.1[k]) = cc at *
            by_cases c0 : cc = 0
            · simp [c0, h8]
            · by_cases c1 : cc = 1
              · simp [c1, h8]
              · have : ¬ 0 < cc := by omega
                simp [c0, c1, this]
          · rw [if_neg (show ¬ (0 : Int) < (k : Int) by omega)]
            simp [h8]
        · simp only [h3, decide_false, Bool.not_false, cond_true, ne_eq, not_false_eq_true, if_true]
      · simp only
        rw [cond_neg (nlt_len (Nat.lt_irrefl _))]
    · rw [if_pos h1]; try rw [if_pos h1]
  · simp only
    rw [cond_neg (nlt_len (Nat.lt_irrefl _))]
  · cases firstE (relE s.1 rels) s.1.length <;> rfl

/-! ## What an instance in form says -/
theorem vRow_len {t : D_api_Table} {row : Row'} (h : vRow t row = 0) : row.length = t.2.1.length := by
  unfold vRow at h
  split at h
  · cases h
  · omega
theorem prevE_code (t : D_api_Table) (rows : List Row') : ∀ i e, prevE t rows i = some e → e ≠ 0 := fun i e h => by
  unfold prevE at h
  split at h
  · cases h
  split at h
  · rename_i hv; injection h with h; subst h; exact hv
  split at h
  · injection h with h; subst h; decide
  split at h
  · injection h with h; subst h; decide
  · cases h
theorem relE_code (ts : List D_api_Table) (rels : List DRel) : ∀ i e, relE ts rels i = some e → e ≠ 0 := fun i e h => by
  unfold relE at h
  split at h
  · cases h
  split at h
  · injection h with h; subst h; decide
  split at h
  · injection h with h; subst h; decide
  · obtain ⟨j, _, h2, _⟩ := firstE_some h
    exact prevE_code _ _ j e h2
structure Form (s : D_api_Schema) (rels : List DRel) : Prop where
  len : rels.length = s.1.length
  name : ∀ i (hi : i < rels.length) (ht : i < s.1.length), (rels[i]).1 = (s.1[i]).1
  row : ∀ i (hi : i < rels.length) (ht : i < s.1.length), ∀ r ∈ (rels[i]).2.1, r.length = (s.1[i]).2.1.length
  sorted : ∀ i (hi : i < rels.length) (ht : i < s.1.length), (rels[i]).2.1.Pairwise (fun a b => cmpRow (keyC (s.1[i]).2.2.1 a) (keyC (s.1[i]).2.2.1 b) < 0)
theorem form_of {s : D_api_Schema} {rels : List DRel} (h : vConf s rels = 0) : Form s rels := by
  unfold vConf at h
  split at h
  · cases h
  rename_i h0
  obtain ⟨h1, _⟩ := firstE_code (relE_code s.1 rels) h
  have key : ∀ i (hi : i < rels.length) (ht : i < s.1.length), (rels[i]).1 = (s.1[i]).1 ∧ firstE (prevE s.1[i] (rels[i]).2.1) (rels[i]).2.1.length = none := fun i hi ht => by
    have := firstE_none h1 i hi
    simp only [relE, List.getElem?_eq_getElem hi, lget_at _ ht] at this
    split at this
    · cases this
    rename_i hq
    split at this
    · cases this
    exact ⟨by simpa using hq, this⟩
  refine ⟨by omega, fun i hi ht => (key i hi ht).1, fun i hi ht r hr => ?_, fun i hi ht => ?_⟩
  · obtain ⟨k, hk, rfl⟩ := List.getElem_of_mem hr
    have := firstE_none (key i hi ht).2 k hk
    simp only [prevE, List.getElem?_eq_getElem hk] at this
    split at this
    · cases this
    rename_i hv
    exact vRow_len (by simpa using hv)
  · refine pairwise_of (fun a b : Row' => cmpRow (keyC (s.1[i]).2.2.1 a) (keyC (s.1[i]).2.2.1 b) < 0) (fun _ _ _ h1 h2 => cmp_trans _ _ _ h1 h2) (rels[i]).2.1 fun k hk => ?_
    have := firstE_none (key i hi ht).2 (k + 1) hk
    simp only [prevE, List.getElem?_eq_getElem hk] at this
    rw [show ((k + 1 : Nat) : Int) - 1 = (k : Int) by omega, lget_at _ (show k < (rels[i]).2.1.length by omega)] at this
    split at this
    · cases this
    split at this
    · cases this
    rename_i h3
    split at this
    · cases this
    rename_i h4
    have c := cmp_cases (keyC (s.1[i]).2.2.1 (rels[i]).2.1[k]) (keyC (s.1[i]).2.2.1 (rels[i]).2.1[k + 1])
    have h3' := fun h => h3 ⟨Nat.succ_pos _, h⟩
    have h4' := fun h => h4 ⟨Nat.succ_pos _, h⟩
    omega

/-! ## A table's rows -/
def rowsS (s : D_api_Schema) (rels : List DRel) (n : List UInt8) : List Row' := match idxE (isTab n) s.1 with
  | none => []
  | some i => match rels[i]? with
    | none => []
    | some r => r.2.1
def tabS (s : D_api_Schema) (n : List UInt8) : D_api_Table := (tabOf s n).getD tabD
theorem Form.at {s : D_api_Schema} {rels : List DRel} (h : Form s rels) {n : List UInt8} {t : D_api_Table} (ht : tabOf s n = some t) : ∃ (i : Nat) (hi : i < s.1.length) (hr : i < rels.length), idxE (isTab n) s.1 = some i ∧ s.1[i] = t ∧ rowsS s rels n = (rels[i]).2.1 ∧ tabS s n = t := by
  rcases tabOf_idx s n with ⟨_, h2⟩ | ⟨i, t', h1, h2, hi, h3⟩
  · rw [h2] at ht; cases ht
  · rw [h2] at ht
    injection ht with ht
    subst ht
    have hr : i < rels.length := by rw [h.len]; exact hi
    refine ⟨i, hi, hr, h1, ?_, ?_, ?_⟩
    · have := h3 tabD; rwa [lget_at _ hi] at this
    · unfold rowsS; rw [h1]; simp only [List.getElem?_eq_getElem hr]
    · unfold tabS; rw [h2]; rfl
theorem instTable_eq (N : Nat) (s : D_api_Schema) (rels : List DRel) (n : List UInt8) (hs : SSmall N s) (hr : RSmall N rels) : F_instance_Table N (s, (rels, (n, ()))) = some ((tabS s n, (rowsS s rels n, ())), ()) := by
  have hn := hs.sm.n
  simp only [F_instance_Table, letJ_def, findTable_eq N s n hs.sm.t hn, oSome_some, oGet_some, cond_true]
  rcases tabOf_idx s n with ⟨h1, h2⟩ | ⟨i, t, h1, h2, hi, h3⟩
  · simp [h1, h2, tabS, rowsS]
  · have ht := hs.tab (tabOf_some h2)
    simp only [h1, Option.getD_some, Option.isSome_some, Bool.not_true, cond_false, h3, inB_len hi, cloneTable_eq N t (by have := ht.c; omega) (by have := ht.k; omega), oSome_some, oGet_some, Bool.and_self, cond_true, tabS, h2, rowsS]
    by_cases hl : i < rels.length
    · have hm := List.getElem_mem hl
      rw [cond_neg (by rw [leI_def, lenI_def]; simp; omega)]
      simp only [inB_len hl, lget_at _ hl, relClone_eq N _ (hr.rows _ hm) hn (fun r h => by have := hr.row _ hm r h; omega), oSome_some, oGet_some, Bool.and_self, cond_true, List.getElem?_eq_getElem hl]
    · rw [cond_pos (by rw [leI_def, lenI_def]; simp; omega)]
      simp [List.getElem?_eq_none (show rels.length ≤ i by omega)]
theorem rowsOf_eq (N : Nat) (s : D_api_Schema) (rels : List DRel) (n : List UInt8) (hs : SSmall N s) (hl : rels.length = s.1.length) : F_stemref2_rowsOf N (s, (rels, (n, ()))) = some ((rowsS s rels n, ()), ()) := by
  have hn := hs.sm.n
  have hsn := hs.sm.t
  simp only [F_stemref2_rowsOf, letJ_def]
  refine (iterF_first (S := Int × Unit) (fun i => ((i : Int), ())) s.1.length (atE (isTab n) s.1) (fun i => some (((match rels[i]? with
    | none => []
    | some r => r.2.1), ()), ())) (some (([], ()), ())) rfl (fun i hi _ ih => ?_) (fun _ ih => ?_) hs.sm.t).trans ?_
  · have hr : i < rels.length := by omega
    simp only [lt_len hi, inB_len hi, cond_true, lget_at _ hi, lget_at _ hr, lt_len hr, inB_len hr, Bool.and_true, eqS_dec, cond_dec, iadd_nat (show i < 4611686018427387904 by omega), atE, List.getElem?_eq_getElem hi, List.getElem?_eq_getElem hr, isTab, decide_eq_true_eq]
    by_cases h : (s.1[i]).1 = n
    · rw [if_pos h, if_pos h]; simp only [List.getElem?_eq_getElem hr]
    · rw [if_neg h, if_neg h]
  · simp only
    rw [cond_neg (nlt_len (Nat.lt_irrefl _))]
  · unfold rowsS idxE
    cases firstE (atE (isTab n) s.1) s.1.length <;> rfl

/-! ## Searches in a list -/
def anyE {α E : Type} (q : α → Bool) (e : E) (xs : List α) (i : Nat) : Option E := match xs[i]? with
  | none => none
  | some x => if q x = true then some e else none
theorem anyE_first {α E : Type} (q : α → Bool) (e : E) (xs : List α) : firstE (anyE q e xs) xs.length = if xs.any q = true then some e else none := by
  cases hf : firstE (anyE q e xs) xs.length with
  | none =>
    have : xs.any q = false := by
      rw [List.any_eq_false]
      intro x hx hq
      obtain ⟨i, hi, rfl⟩ := List.getElem_of_mem hx
      have := firstE_none hf i hi
      simp only [anyE, List.getElem?_eq_getElem hi, hq, if_true] at this
      cases this
    rw [this]
    rfl
  | some e' =>
    obtain ⟨i, hi, h2, _⟩ := firstE_some hf
    simp only [anyE, List.getElem?_eq_getElem hi] at h2
    split at h2
    · rename_i hq
      rw [if_pos (List.any_eq_true.2 ⟨_, List.getElem_mem hi, hq⟩), h2]
    · cases h2
theorem containsRow_eq (N : Nat) (φ : (Row' × Unit) → Option (Bool × Unit)) (q : Row' → Bool) (rows : List Row') (hφ : ∀ a ∈ rows, φ (a, ()) = some (q a, ())) (hN : rows.length < N) (hB : N ≤ 1099511627776) : F_slices_ContainsFunc_api_Row N (rows, (φ, ())) = some ((rows.any q, ()), ()) := by
  have e : F_slices_IndexFunc_api_Row N (rows, (φ, ())) = some ((idxI q rows, ()), ()) := indexFunc_form φ q rows hφ ([] : Row') N hN (by omega)
  simp only [F_slices_ContainsFunc_api_Row, e, oSome_some, oGet_some, cond_true, leI_idx, idxE_any]
theorem containsVal_eq (N : Nat) (φ : (DVal × Unit) → Option (Bool × Unit)) (q : DVal → Bool) (vs : Row') (hφ : ∀ a ∈ vs, φ (a, ()) = some (q a, ())) (hN : vs.length < N) (hB : N ≤ 1099511627776) : F_slices_ContainsFunc_api_Value N (vs, (φ, ())) = some ((vs.any q, ()), ()) := by
  have e : F_slices_IndexFunc_api_Value N (vs, (φ, ())) = some ((idxI q vs, ()), ()) := indexFunc_form φ q vs hφ zV N hN (by omega)
  simp only [F_slices_ContainsFunc_api_Value, e, oSome_some, oGet_some, cond_true, leI_idx, idxE_any]

/-! ## Constraints -/
theorem cellV_at (row : Row') {i : Int} (h1 : 0 ≤ i) (h2 : i < (row.length : Int)) : lget row i (0, (0, (([] : List UInt8), ()))) = cellV row i := by
  obtain ⟨k, rfl⟩ : ∃ k : Nat, i = (k : Int) := ⟨i.toNat, by omega⟩
  have hk : k < row.length := by omega
  rw [lget_at _ hk, cellV, dif_pos ⟨h1, h2⟩]
  simp only [Int.toNat_natCast]
def satB (a : DVal) (op : List UInt8) (b : DVal) : Bool := decide (a.1 = 0) || (decide (b.1 = 0) || ((decide (vc a b = 0) && !decide (op = [60])) || (decide (vc a b < 0) && !decide (op = [61]))))
def satS (c : D_api_Constraint) (row : Row') : Bool := satB (cellV row c.2.1) c.2.2.1 (if 0 ≤ c.2.2.2.1 then cellV row c.2.2.2.1 else c.2.2.2.2.1)
theorem valSat_eq (N : Nat) (a b : DVal) (op : List UInt8) (h : opOk op = true) : F_value_Satisfies N (a, (op, (b, ()))) = some ((satB a op b, (0, ())), ()) := by
  simp only [F_value_Satisfies, letJ_def, compare_eq, oSome_some, oGet_some, cond_true, eqS_dec, eqI_dec, ltI_dec, satB]
  unfold opOk at h
  generalize decide (a.1 = 0) = a0
  generalize decide (b.1 = 0) = b0
  generalize decide (op = [61]) = o1 at *
  generalize decide (op = [60]) = o2 at *
  generalize decide (op = [60, 61]) = o3 at *
  cases a0 <;> cases b0 <;> cases o1 <;> cases o2 <;> cases o3 <;> simp at h ⊢
theorem pred_eq (N : Nat) (a b : DVal) (op : List UInt8) (h : opOk op = true) : F_stemref2_Predicate N (a, (op, (b, ()))) = some ((satB a op b, ()), ()) := by
  have e : (decide (a.1 = b.1) && (decide (a.2.1 = b.2.1) && decide (a.2.2.1 = b.2.2.1))) = decide (vc a b = 0) := by
    rw [← Bool.decide_and, ← Bool.decide_and]
    refine decide_eq_decide.2 (Iff.trans ?_ (vc_zero a b).symm)
    obtain ⟨a1, a2, a3, ⟨⟩⟩ := a
    obtain ⟨b1, b2, b3, ⟨⟩⟩ := b
    simp only [Prod.mk.injEq, and_true]
  have e2 : (!decide (vc b a < 0)) = (decide (vc a b = 0) || decide (vc a b < 0)) := by
    have h1 := vc_swap a b
    have h2 := vc_cases a b
    rw [← decide_not, ← Bool.decide_or]
    exact decide_eq_decide.2 (by omega)
  simp only [F_stemref2_Predicate, letJ_def, less_eq, oSome_some, oGet_some, cond_true, e, e2, eqS_dec, eqI_dec, satB]
  unfold opOk at h
  generalize decide (vc a b = 0) = v0
  generalize decide (vc a b < 0) = v1
  generalize decide (a.1 = 0) = a0
  generalize decide (b.1 = 0) = b0
  by_cases q1 : op = [61]
  · subst q1; cases a0 <;> cases b0 <;> simp
  by_cases q2 : op = [60]
  · subst q2; cases a0 <;> cases b0 <;> simp
  simp only [q1, q2, decide_false, cond_false, Bool.not_false, Bool.and_true]
  cases a0 <;> cases b0 <;> simp
theorem schSat_eq (N : Nat) (c : D_api_Constraint) (row : Row') (h1 : 0 ≤ c.2.1) (h2 : c.2.1 < (row.length : Int)) (h3 : opOk c.2.2.1 = true) (h4 : c.2.2.2.1 < (row.length : Int)) : F_instance_Satisfies N (c, (row, ())) = some ((satS c row, ()), ()) := by
  have e0 : (((ltI c.2.1 0) || (leI (lenI row) c.2.1)) || (leI (lenI row) c.2.2.2.1)) = false := by rw [ltI_def, leI_def, leI_def, lenI_def]; simp; omega
  have e1 : inB c.2.1 (lenI row) = true := by rw [inB_dec, lenI_def]; simp; omega
  simp only [F_instance_Satisfies, letJ_def, e0, e1, cond_false, cellV_at row h1 h2, valSat_eq N _ _ _ h3, oSome_some, oGet_some, Bool.and_self, cond_true, neI_dec, decide_not, decide_true, Bool.not_true, Bool.or_false, satS]
  by_cases h5 : 0 ≤ c.2.2.2.1
  · have e2 : inB c.2.2.2.1 (lenI row) = true := by rw [inB_dec, lenI_def]; simp; omega
    have e3 : leI 0 c.2.2.2.1 = true := by rw [leI_def]; simp; omega
    simp only [e2, e3, cond_true, cellV_at row h5 h4, if_pos h5, satS]
  · have e3 : leI 0 c.2.2.2.1 = false := by rw [leI_def]; simp; omega
    simp only [e3, cond_false, cond_true, if_neg h5]
theorem refSat_eq (N : Nat) (c : D_api_Constraint) (row : Row') (h1 : 0 ≤ c.2.1) (h2 : c.2.1 < (row.length : Int)) (h3 : opOk c.2.2.1 = true) (h4 : c.2.2.2.1 < (row.length : Int)) : F_stemref2_SatisfiesConstraint N (c, (row, ())) = some ((satS c row, ()), ()) := by
  have e1 : inB c.2.1 (lenI row) = true := by rw [inB_dec, lenI_def]; simp; omega
  simp only [F_stemref2_SatisfiesConstraint, letJ_def, e1, cellV_at row h1 h2, pred_eq N _ _ _ h3, oSome_some, oGet_some, Bool.and_self, cond_true, satS]
  by_cases h5 : 0 ≤ c.2.2.2.1
  · have e2 : inB c.2.2.2.1 (lenI row) = true := by rw [inB_dec, lenI_def]; simp; omega
    have e3 : leI 0 c.2.2.2.1 = true := by rw [leI_def]; simp; omega
    simp only [e2, e3, cond_true, cellV_at row h5 h4, if_pos h5, satS]
  · have e3 : leI 0 c.2.2.2.1 = false := by rw [leI_def]; simp; omega
    simp only [e3, cond_false, cond_true, if_neg h5]

end
end Go.Proofs.YtjjfjgpjbhjpfaaGreatDoor

/- Instances: references, validity, equality. -/
namespace Go.Proofs.YtjjfjgpjbhjpfaaGreatDoor
open Go.Vi
noncomputable section

def nullV (v : DVal) : Bool := decide (v.1 = 0)
def refS (s : D_api_Schema) (rels : List DRel) (f : D_api_ForeignKey) (row : Row') : Bool := (keyC f.2.1 row).any nullV || (rowsS s rels f.2.2.1).any (fun r => decide (keyC (tabS s f.2.2.1).2.2.1 r = keyC f.2.1 row))
structure KSmall (s : D_api_Schema) (rels : List DRel) : Prop where
  kt : ∀ r ∈ rels, ∀ row ∈ r.2.1, ∀ t ∈ s.1, (encR (keyC t.2.2.1 row)).length ≤ 1099511627776
  kf : ∀ r ∈ rels, ∀ row ∈ r.2.1, ∀ f ∈ s.2.1, (encR (keyC f.2.1 row)).length ≤ 1099511627776
theorem rowsS_sub {s : D_api_Schema} {rels : List DRel} {n : List UInt8} {r : Row'} (h : r ∈ rowsS s rels n) : ∃ q ∈ rels, r ∈ q.2.1 := by
  unfold rowsS at h
  split at h
  · cases h
  split at h
  · cases h
  · rename_i i _ q hq
    obtain ⟨hi, rfl⟩ := List.getElem?_eq_some_iff.1 hq
    exact ⟨_, List.getElem_mem hi, h⟩
theorem rowsS_len {N : Nat} {s : D_api_Schema} {rels : List DRel} (n : List UInt8) (hr : RSmall N rels) (h0 : 0 < N) : (rowsS s rels n).length < N := by
  unfold rowsS
  split
  · exact h0
  split
  · exact h0
  · rename_i i _ q hq
    obtain ⟨hi, rfl⟩ := List.getElem?_eq_some_iff.1 hq
    exact hr.rows _ (List.getElem_mem hi)
theorem Form.rowLen {s : D_api_Schema} {rels : List DRel} (h : Form s rels) {n : List UInt8} {t : D_api_Table} (ht : tabOf s n = some t) {r : Row'} (hr : r ∈ rowsS s rels n) : r.length = t.2.1.length := by
  obtain ⟨i, hi, hri, _, e2, e3, _⟩ := h.at ht
  rw [e3] at hr
  rw [h.row i hri hi r hr, e2]
theorem find_sorted {pk : List Int} {rows : List Row'} (h : rows.Pairwise (fun a b => cmpRow (keyC pk a) (keyC pk b) < 0)) (key : Row') : (findC (fun r => cmpRow (keyC pk r) key) rows).2 = rows.any (fun r => decide (keyC pk r = key)) := by
  rw [find_any _ rows (h.imp fun {a b} hab h0 => ?_)]
  · have e : (fun r => decide (cmpRow (keyC pk r) key = 0)) = fun r => decide (keyC pk r = key) := funext fun r => decide_eq_decide.2 (cmp_zero _ _)
    rw [e]
  · have c := cmp_cases (keyC pk b) key
    rcases c with c | c | c
    · have := cmp_trans _ _ _ hab (show cmpRow (keyC pk b) key < 0 by omega)
      omega
    · have := (cmp_zero _ _).1 c
      rw [this] at hab
      omega
    · omega
theorem schRefs_eq (N : Nat) (s : D_api_Schema) (rels : List DRel) (f : D_api_ForeignKey) (row : Row') (hs : SSmall N s) (hr : RSmall N rels) (hv : Valid s) (hF : Form s rels) (hf : f ∈ s.2.1) {t : D_api_Table} (ht : tabOf s f.1 = some t) (hl : row.length = t.2.1.length) :
    F_instance_References N (s, (rels, (f, (row, ())))) = some ((refS s rels f row, ()), ()) := by
  obtain ⟨t', r, h1, h2, h3, h4⟩ := hv.fk hf
  rw [ht] at h1
  injection h1 with h1
  subst h1
  obtain ⟨i, hi, hri, e1, e2, e3, e4⟩ := hF.at h2
  have hn := hs.sm.n
  have hfl := hs.sm.fc f hf
  have tr := hs.tab (tabOf_some h2)
  have hrl := rowsS_len (s := s) f.2.2.1 hr (show 0 < N by omega)
  simp only [F_instance_References, letJ_def, instTable_eq N s rels f.2.2.1 hs hr, oSome_some, oGet_some, cond_true]
  refine (iterF_first (S := Row' × (Int × Unit)) (fun i => (keyC (f.2.1.take i) row, ((i : Int), ()))) f.2.1.length (anyE (fun c => nullV (cellV row c)) () f.2.1) (fun _ => some ((true, ()), ())) (some (((rowsS s rels f.2.2.1).any (fun r => decide (keyC (tabS s f.2.2.1).2.2.1 r = keyC f.2.1 row)), ()), ())) (by simp [keyC]) (fun i hi _ ih => ?_) (fun _ ih => ?_) hfl).trans ?_
  · obtain ⟨c1, c2⟩ := h4 _ (List.getElem_mem hi)
    have c2' : (f.2.1[i]) < (row.length : Int) := by omega
    have b1 : ltI (f.2.1[i]) 0 = false := by rw [ltI_def]; simp; omega
    have b2 : leI (lenI row) (f.2.1[i]) = false := by rw [leI_def, lenI_def]; simp; omega
    have b3 : inB (f.2.1[i]) (lenI row) = true := by rw [inB_dec, lenI_def]; simp; omega
    have b4 := cellV_at row c1 c2'
    have e1 : keyC (f.2.1.take (i + 1)) row = keyC (f.2.1.take i) row ++ [cellV row f.2.1[i]] := by unfold keyC; rw [take_snoc hi, List.map_append]; rfl
    have e5 : room2 (lenI (keyC (f.2.1.take i) row)) (lenI ([cellV row f.2.1[i]] : Row')) 32 = true := room2_ok (by rw [keyC_len, List.length_take]; simp; omega)
    rw [e1]
    simp only [lt_len hi, inB_len hi, cond_true, lget_at _ hi, b1, b2, b3, b4, e5, Bool.or_false, Bool.false_or, Bool.or_true, Bool.and_self, lapp_def, iadd_nat (show i < 4611686018427387904 by omega), anyE, List.getElem?_eq_getElem hi, nullV, eqI_dec, decide_eq_true_eq, cond_dec]
    by_cases q : (cellV row f.2.1[i]).1 = 0
    · rw [if_pos q, if_pos q]
    · rw [if_neg q, if_neg q]
  · simp only
    rw [cond_neg (nlt_len (Nat.lt_irrefl _)), List.take_length, find_eq N (tabS s f.2.2.1) (rowsS s rels f.2.2.1) (keyC f.2.1 row) (by rw [e4]; exact tr.k) hrl hn]
    have hp : (rowsS s rels f.2.2.1).Pairwise (fun a b => cmpRow (keyC (tabS s f.2.2.1).2.2.1 a) (keyC (tabS s f.2.2.1).2.2.1 b) < 0) := by
      rw [e3, e4, ← e2]; exact hF.sorted i hri hi
    simp only [oSome_some, oGet_some, cond_true, find_sorted hp]
  · have e5 : ((keyC f.2.1 row).any nullV) = f.2.1.any (fun c => nullV (cellV row c)) := by unfold keyC; rw [List.any_map]; rfl
    rw [anyE_first, refS, e5]
    cases f.2.1.any (fun c => nullV (cellV row c)) <;> rfl
theorem refRefs_eq (N : Nat) (s : D_api_Schema) (rels : List DRel) (f : D_api_ForeignKey) (row : Row') (hs : SSmall N s) (hr : RSmall N rels) (hk : KSmall s rels) (hv : Valid s) (hF : Form s rels) (hf : f ∈ s.2.1) (hrow : ∃ q ∈ rels, row ∈ q.2.1) :
    F_stemref2_References N (s, (rels, (f, (row, ())))) = some ((refS s rels f row, ()), ()) := by
  obtain ⟨t, r, h1, h2, h3, h4⟩ := hv.fk hf
  obtain ⟨i, hi, hri, e1, e2, e3, e4⟩ := hF.at h2
  obtain ⟨q0, hq0, hq1⟩ := hrow
  have hn := hs.sm.n
  have hfl := hs.sm.fc f hf
  have tr := hs.tab (tabOf_some h2)
  have hrl := rowsS_len (s := s) f.2.2.1 hr (show 0 < N by omega)
  have he := hk.kf q0 hq0 row hq1 f hf
  have hp : F_stemref2_project N (row, (f.2.1, ())) = some ((keyC f.2.1 row, ()), ()) := keyLoop N f.2.1 row hfl (by omega)
  have hc1 : F_slices_ContainsFunc_api_Value N (keyC f.2.1 row, ((fun x1 => (omap (fun y2 : ((Bool × Unit) × Unit) => (y2.1.1, ())) (F_stemref2_References_1 N (x1.1, ())))), ())) = some (((keyC f.2.1 row).any nullV, ()), ()) :=
    containsVal_eq N _ nullV _ (fun a _ => by simp only [F_stemref2_References_1, omap_def, Option.map_some, eqI_dec, nullV]) (by rw [keyC_len]; exact hfl) hn
  have hc2 : F_slices_ContainsFunc_api_Row N (rowsS s rels f.2.2.1, ((fun x2 => (omap (fun y3 : ((Bool × Unit) × Unit) => (y3.1.1, ())) (F_stemref2_References_2 N (x2.1, (some r, (keyC f.2.1 row, ())))))), ())) = some (((rowsS s rels f.2.2.1).any (fun x => decide (keyC (tabS s f.2.2.1).2.2.1 x = keyC f.2.1 row)), ()), ()) :=
    containsRow_eq N _ (fun x => decide (keyC (tabS s f.2.2.1).2.2.1 x = keyC f.2.1 row)) _ (fun a ha => by
      obtain ⟨q, hq, hqa⟩ := rowsS_sub ha
      have he2 := hk.kt q hq a hqa r (tabOf_some h2)
      simp only [F_stemref2_References_2, oSome_some, oGet_some, keyOf_eq N r a tr.k hn, encode_eq N _ he2, encode_eq N _ he, Bool.and_self, cond_true, omap_def, Option.map_some, eqS_dec, e4]
      by_cases h : keyC r.2.2.1 a = keyC f.2.1 row
      · simp [h]
      · have : encR (keyC r.2.2.1 a) ≠ encR (keyC f.2.1 row) := fun e => h (encR_inj e)
        simp [h, this]) hrl hn
  simp only [F_stemref2_References, letJ_def, hp, oSome_some, oGet_some, cond_true, hc1, refFind_eq N s _ hs.sm.t hn, h2, rowsOf_eq N s rels _ hs hF.len, hc2, Bool.not_true, Bool.false_or, Bool.true_and, Bool.and_self, refS]
  cases (keyC f.2.1 row).any nullV <;> rfl

/-! ## Validity -/
def badF (s : D_api_Schema) (rels : List DRel) (f : D_api_ForeignKey) : Bool := (rowsS s rels f.1).any (fun r => !refS s rels f r)
def badC (s : D_api_Schema) (rels : List DRel) (c : D_api_Constraint) : Bool := (rowsS s rels c.1).any (fun r => !satS c r)
def vInst (s : D_api_Schema) (rels : List DRel) : Int := if vConf s rels ≠ 0 then vConf s rels else if s.2.1.any (badF s rels) = true then 10 else if s.2.2.1.any (badC s rels) = true then 11 else 0
theorem schSatT (N : Nat) {s : D_api_Schema} {rels : List DRel} (hv : Valid s) (hF : Form s rels) {c : D_api_Constraint} (hc : c ∈ s.2.2.1) {t : D_api_Table} (ht : tabOf s c.1 = some t) {r : Row'} (hl : r.length = t.2.1.length) : F_instance_Satisfies N (c, (r, ())) = some ((satS c r, ()), ()) ∧ F_stemref2_SatisfiesConstraint N (c, (r, ())) = some ((satS c r, ()), ()) := by
  obtain ⟨t', h1, h2, h3, h4, h5, h6⟩ := hv.con hc
  rw [ht] at h1
  injection h1 with h1
  subst h1
  exact ⟨schSat_eq N c r h2 (by omega) h4 (by omega), refSat_eq N c r h2 (by omega) h4 (by omega)⟩
theorem schInst_eq (N : Nat) (s : D_api_Schema) (rels : List DRel) (hs : SSmall N s) (hr : RSmall N rels) (hv : Valid s) : F_instance_Validate N (s, (rels, ())) = some ((vInst s rels, ()), ()) := by
  have hn := hs.sm.n
  have h0N : 0 < N := by have := hs.m; omega
  have hfl := hs.sm.f
  have hcl := hs.sm.c
  simp only [F_instance_Validate, letJ_def, schConf_eq N s rels hs hr, oSome_some, oGet_some, cond_true, neI_dec, cond_dec]
  unfold vInst
  by_cases h0 : ¬ vConf s rels = 0
  · simp only [h0, ne_eq, not_false_eq_true, if_true, decide_false, Bool.not_false, cond_true]
  replace h0 : vConf s rels = 0 := by omega
  have hF := form_of h0
  simp only [h0, ne_eq, not_true_eq_false, if_false, decide_true, Bool.not_true, cond_false]
  refine (iterF_first (S := Int × Unit) (fun i => ((i : Int), ())) s.2.1.length (anyE (badF s rels) (10 : Int) s.2.1) (fun e => some ((e, ()), ())) (some ((if s.2.2.1.any (badC s rels) = true then 11 else 0, ()), ())) rfl (fun i hi _ ih => ?_) (fun _ ih => ?_) hs.sm.f).trans ?_
  · have hm := List.getElem_mem hi
    simp only [lt_len hi, inB_len hi, cond_true, lget_at _ hi, iadd_nat (show i < 4611686018427387904 by omega), anyE, List.getElem?_eq_getElem hi]
    generalize s.2.1[i] = f at *
    obtain ⟨t, r, h1, h2, h3, h4⟩ := hv.fk hm
    have hc : F_slices_ContainsFunc_api_Row N (rowsS s rels f.1, ((fun x4 => (omap (fun y5 : ((Bool × Unit) × Unit) => (y5.1.1, ())) (F_instance_Validate_1 N (x4.1, (s, (rels, (f, ()))))))), ())) = some ((badF s rels f, ()), ()) :=
      containsRow_eq N _ (fun r => !refS s rels f r) _ (fun a ha => by
        simp only [F_instance_Validate_1, schRefs_eq N s rels f a hs hr hv hF hm h1 (hF.rowLen h1 ha), oSome_some, oGet_some, cond_true, omap_def, Option.map_some]) (rowsS_len _ hr h0N) hn
    simp only [instTable_eq N s rels f.1 hs hr, oSome_some, oGet_some, cond_true, hc]
    cases badF s rels f <;> rfl
  · simp only
    rw [cond_neg (nlt_len (Nat.lt_irrefl _))]
    refine (iterF_first (S := Int × Unit) (fun i => ((i : Int), ())) s.2.2.1.length (anyE (badC s rels) (11 : Int) s.2.2.1) (fun e => some ((e, ()), ())) (some ((0, ()), ())) rfl (fun i hi _ ih => ?_) (fun _ ih => ?_) hs.sm.c).trans ?_
    · have hm := List.getElem_mem hi
      simp only [lt_len hi, inB_len hi, cond_true, lget_at _ hi, iadd_nat (show i < 4611686018427387904 by omega), anyE, List.getElem?_eq_getElem hi]
      generalize s.2.2.1[i] = c at *
      obtain ⟨t, h1, _⟩ := hv.con hm
      have hc : F_slices_ContainsFunc_api_Row N (rowsS s rels c.1, ((fun x6 => (omap (fun y7 : ((Bool × Unit) × Unit) => (y7.1.1, ())) (F_instance_Validate_2 N (x6.1, (c, ()))))), ())) = some ((badC s rels c, ()), ()) :=
        containsRow_eq N _ (fun r => !satS c r) _ (fun a ha => by
          simp only [F_instance_Validate_2, (schSatT N hv hF hm h1 (hF.rowLen h1 ha)).1, oSome_some, oGet_some, cond_true, omap_def, Option.map_some]) (rowsS_len _ hr h0N) hn
      simp only [instTable_eq N s rels c.1 hs hr, oSome_some, oGet_some, cond_true, hc]
      cases badC s rels c <;> rfl
    · simp only
      rw [cond_neg (nlt_len (Nat.lt_irrefl _))]
    · rw [anyE_first]
      cases s.2.2.1.any (badC s rels) <;> rfl
  · rw [anyE_first]
    cases s.2.1.any (badF s rels) <;> rfl
theorem refInst_eq (N : Nat) (s : D_api_Schema) (rels : List DRel) (hs : SSmall N s) (hr : RSmall N rels) (hk : KSmall s rels) (hv : Valid s) : F_stemref2_ValidateInstance N (s, (rels, ())) = some ((vInst s rels, ()), ()) := by
  have hn := hs.sm.n
  have h0N : 0 < N := by have := hs.m; omega
  have hfl := hs.sm.f
  have hcl := hs.sm.c
  simp only [F_stemref2_ValidateInstance, letJ_def, refConf_eq N s rels hs hr, oSome_some, oGet_some, cond_true, neI_dec, cond_dec]
  unfold vInst
  by_cases h0 : ¬ vConf s rels = 0
  · simp only [h0, ne_eq, not_false_eq_true, if_true, decide_false, Bool.not_false, cond_true]
  replace h0 : vConf s rels = 0 := by omega
  have hF := form_of h0
  simp only [h0, ne_eq, not_true_eq_false, if_false, decide_true, Bool.not_true, cond_false]
  refine (iterF_first (S := Int × Unit) (fun i => ((i : Int), ())) s.2.1.length (anyE (badF s rels) (10 : Int) s.2.1) (fun e => some ((e, ()), ())) (some ((if s.2.2.1.any (badC s rels) = true then 11 else 0, ()), ())) rfl (fun i hi _ ih => ?_) (fun _ ih => ?_) hs.sm.f).trans ?_
  · have hm := List.getElem_mem hi
    simp only [lt_len hi, inB_len hi, cond_true, lget_at _ hi, iadd_nat (show i < 4611686018427387904 by omega), anyE, List.getElem?_eq_getElem hi]
    generalize s.2.1[i] = f at *
    have hrl := rowsS_len (s := s) f.1 hr h0N
    simp only [rowsOf_eq N s rels _ hs hF.len, oSome_some, oGet_some, cond_true]
    refine (iterF_first (S := Int × Unit) (fun k => ((k : Int), ())) (rowsS s rels f.1).length (anyE (fun r => !refS s rels f r) (10 : Int) (rowsS s rels f.1)) (fun e => some ((e, ()), ())) (ih (((i + 1 : Nat) : Int), ())) rfl (fun k hk2 _ ih2 => ?_) (fun _ ih2 => ?_) hrl).trans ?_
    · have hmk := List.getElem_mem hk2
      simp only [lt_len hk2, inB_len hk2, cond_true, lget_at _ hk2, iadd_nat (show k < 4611686018427387904 by omega), anyE, List.getElem?_eq_getElem hk2, refRefs_eq N s rels f _ hs hr hk hv hF hm (rowsS_sub hmk), oSome_some, oGet_some]
      by_cases hz : refS s rels f (rowsS s rels f.1)[k] = true <;> simp [hz]
    · simp only
      rw [cond_neg (nlt_len (Nat.lt_irrefl _))]
    · rw [anyE_first, badF]
  · simp only
    rw [cond_neg (nlt_len (Nat.lt_irrefl _))]
    refine (iterF_first (S := Int × Unit) (fun i => ((i : Int), ())) s.2.2.1.length (anyE (badC s rels) (11 : Int) s.2.2.1) (fun e => some ((e, ()), ())) (some ((0, ()), ())) rfl (fun i hi _ ih => ?_) (fun _ ih => ?_) hs.sm.c).trans ?_
    · have hm := List.getElem_mem hi
      simp only [lt_len hi, inB_len hi, cond_true, lget_at _ hi, iadd_nat (show i < 4611686018427387904 by omega), anyE, List.getElem?_eq_getElem hi]
      generalize s.2.2.1[i] = c at *
      have hrl := rowsS_len (s := s) c.1 hr h0N
      obtain ⟨t, h1, _⟩ := hv.con hm
      simp only [rowsOf_eq N s rels _ hs hF.len, oSome_some, oGet_some, cond_true]
      refine (iterF_first (S := Int × Unit) (fun k => ((k : Int), ())) (rowsS s rels c.1).length (anyE (fun r => !satS c r) (11 : Int) (rowsS s rels c.1)) (fun e => some ((e, ()), ())) (ih (((i + 1 : Nat) : Int), ())) rfl (fun k hk2 _ ih2 => ?_) (fun _ ih2 => ?_) hrl).trans ?_
      · have hmk := List.getElem_mem hk2
        simp only [lt_len hk2, inB_len hk2, cond_true, lget_at _ hk2, iadd_nat (show k < 4611686018427387904 by omega), anyE, List.getElem?_eq_getElem hk2, (schSatT N hv hF hm h1 (hF.rowLen h1 hmk)).2, oSome_some, oGet_some]
        by_cases hz : satS c (rowsS s rels c.1)[k] = true <;> simp [hz]
      · simp only
        rw [cond_neg (nlt_len (Nat.lt_irrefl _))]
      · rw [anyE_first, badC]
    · simp only
      rw [cond_neg (nlt_len (Nat.lt_irrefl _))]
    · rw [anyE_first]
      cases s.2.2.1.any (badC s rels) <;> rfl
  · rw [anyE_first]
    cases s.2.1.any (badF s rels) <;> rfl

end
end Go.Proofs.YtjjfjgpjbhjpfaaGreatDoor

/- Instances: equality, copies, the empty one. -/
namespace Go.Proofs.YtjjfjgpjbhjpfaaGreatDoor
open Go.Vi
noncomputable section

theorem eqRelForm (N : Nat) (xs ys : List DRel) (φ : (DRel × (DRel × Unit)) → Option (Bool × Unit)) (hφ : ∀ a ∈ xs, ∀ b ∈ ys, φ (a, (b, ())) = some (decide (a = b), ())) (hN : xs.length < N) (hB : N ≤ 1099511627776) :
    F_slices_EqualFunc_api_Relation N (xs, (ys, (φ, ()))) = some ((decide (xs = ys), ()), ()) := by
  simp only [F_slices_EqualFunc_api_Relation]
  by_cases hl : xs.length = ys.length
  · rw [cond_neg (by rw [neI_dec, lenI_def, lenI_def, hl]; simp)]
    refine iterF_post (S := Int × Unit) (R := (Bool × Unit) × Unit) (fun p => xs.length - p.1.toNat) (fun p => ∃ i : Nat, p.1 = (i : Int) ∧ i ≤ xs.length ∧ xs.take i = ys.take i) (fun _ => ((decide (xs = ys), ()), ())) ?_ N _ ⟨0, rfl, Nat.zero_le _, by simp⟩ (by simp; omega)
    rintro ih ⟨_, _⟩ ⟨i, rfl, h2, h3⟩ hih
    simp only [Int.toNat_natCast] at hih ⊢
    by_cases hi : i < xs.length
    · have hj : i < ys.length := by omega
      rw [cond_pos (lt_len hi), inB_len hi, inB_len hj, lget_at _ hi, lget_at _ hj, hφ _ (List.getElem_mem hi) _ (List.getElem_mem hj)]
      simp only [oSome_some, oGet_some, cond_true]
      by_cases e : xs[i] = ys[i]
      · rw [cond_neg (by simp [e]), iadd_nat (by omega), hih _ ⟨i + 1, rfl, by omega, by rw [take_snoc hi, take_snoc hj, h3, e]⟩ (by simp only [Int.toNat_natCast]; omega)]
      · rw [cond_pos (by simp [e])]
        have : xs ≠ ys := fun h => e (by subst h; rfl)
        simp [this]
    · rw [cond_neg (nlt_len hi)]
      have e1 : i = xs.length := by omega
      subst e1
      have : xs = ys := by
        have := h3
        rwa [List.take_length, hl, List.take_length] at this
      simp [this]
  · rw [cond_pos (by rw [neI_dec, lenI_def, lenI_def]; simp; omega)]
    have : xs ≠ ys := fun h => hl (by rw [h])
    simp [this]
theorem rel_eq (a b : DRel) : (decide (a.1 = b.1) && decide (a.2.1 = b.2.1)) = decide (a = b) := by
  obtain ⟨a1, a2, ⟨⟩⟩ := a
  obtain ⟨b1, b2, ⟨⟩⟩ := b
  rw [← Bool.decide_and]
  exact decide_eq_decide.2 (by simp only [Prod.mk.injEq, and_true])
theorem instEq_eq (N : Nat) (xs ys : List DRel) (hx : RSmall N xs) (hB : N ≤ 1099511627776) : F_instance_Equal N (xs, (ys, ())) = some ((decide (xs = ys), ()), ()) := by
  have h : F_slices_EqualFunc_api_Relation N (xs, (ys, ((fun x0 => (omap (fun y1 : ((Bool × Unit) × Unit) => (y1.1.1, ())) (F_instance_Equal_1 N (x0.1, (x0.2.1, ()))))), ()))) = some ((decide (xs = ys), ()), ()) :=
    eqRelForm N xs ys _ (fun a ha b hb => by
      simp only [F_instance_Equal_1, relEqual_eq N a.2.1 b.2.1 (hx.rows a ha) hB (hx.row a ha), oSome_some, oGet_some, Bool.or_true, cond_true, omap_def, Option.map_some, eqS_dec, rel_eq]) hx.n hB
  simp only [F_instance_Equal, h, oSome_some, oGet_some, cond_true]
theorem refEq_eq (N : Nat) (xs ys : List DRel) (hx : RSmall N xs) (hy : RSmall N ys) (hB : N ≤ 1099511627776) : F_stemref2_EqualInstances N (xs, (ys, ())) = some ((decide (xs = ys), ()), ()) := by
  have h : F_slices_EqualFunc_api_Relation N (xs, (ys, ((fun x0 => (omap (fun y1 : ((Bool × Unit) × Unit) => (y1.1.1, ())) (F_stemref2_EqualInstances_1 N (x0.1, (x0.2.1, ()))))), ()))) = some ((decide (xs = ys), ()), ()) :=
    eqRelForm N xs ys _ (fun a ha b hb => by
      simp only [F_stemref2_EqualInstances_1, equalRows_eq N a.2.1 b.2.1 (hx.rows a ha) hB (hx.enc a ha) (hy.enc b hb), oSome_some, oGet_some, Bool.or_true, cond_true, omap_def, Option.map_some, eqS_dec, rel_eq]) hx.n hB
  simp only [F_stemref2_EqualInstances, h, oSome_some, oGet_some, cond_true]
theorem instClone_eq (N : Nat) (xs : List DRel) (hx : RSmall N xs) (hB : N ≤ 1099511627776) : F_instance_Clone N (xs, ()) = some ((xs, ()), ()) := by
  have hn := hx.n
  simp only [F_instance_Clone]
  refine iterF_seq (S := (List DRel) × (Int × Unit)) (fun i => (xs.take i, ((i : Int), ()))) xs.length _ (by simp) (fun i hi ih => ?_) (fun ih => ?_) hn
  · have hm := List.getElem_mem hi
    have e5 : room2 (lenI (xs.take i)) (lenI ([((xs[i]).1, ((xs[i]).2.1, ()))] : List DRel)) 40 = true := room2_ok (by rw [List.length_take]; simp; omega)
    simp only [lt_len hi, inB_len hi, cond_true, lget_at _ hi, relClone_eq N _ (hx.rows _ hm) hB (fun r h => by have := hx.row _ hm r h; omega), oSome_some, oGet_some, e5, Bool.and_self, lapp_def, iadd_nat (show i < 4611686018427387904 by omega)]
    rw [take_snoc hi]
  · simp only
    rw [cond_neg (nlt_len (Nat.lt_irrefl _)), List.take_length]
def emptyS (s : D_api_Schema) : List DRel := s.1.map fun t => (t.1, (([] : List Row'), ()))
theorem empty_eq (N : Nat) (s : D_api_Schema) (hs : SSmall N s) : F_instance_Empty N (s, ()) = some ((emptyS s, ()), ()) := by
  have hn := hs.sm.n
  have ht := hs.sm.t
  simp only [F_instance_Empty]
  refine iterF_seq (S := (List DRel) × (Int × Unit)) (fun i => ((s.1.take i).map (fun t => (t.1, (([] : List Row'), ()))), ((i : Int), ()))) s.1.length _ (by simp) (fun i hi ih => ?_) (fun ih => ?_) ht
  · have e5 : room2 (lenI ((s.1.take i).map (fun t => ((t.1, (([] : List Row'), ())) : DRel)))) (lenI ([((s.1[i]).1, (([] : List Row'), ()))] : List DRel)) 40 = true := room2_ok (by rw [List.length_map, List.length_take]; simp; omega)
    simp only [lt_len hi, inB_len hi, cond_true, lget_at _ hi, e5, lapp_def, iadd_nat (show i < 4611686018427387904 by omega)]
    rw [take_snoc hi, List.map_append]
    rfl
  · simp only
    rw [cond_neg (nlt_len (Nat.lt_irrefl _)), List.take_length]
    rfl
theorem emptyR_eq (N : Nat) (s : D_api_Schema) (hs : SSmall N s) : F_stemref2_EmptyInstance N (s, ()) = some ((emptyS s, ()), ()) := by
  have hn := hs.sm.n
  have ht := hs.sm.t
  have e1 : ((leI 0 (lenI s.1)) && ((leI (lenI s.1) (lenI s.1)) && (room (lenI s.1) 40))) = true := by
    rw [leI_def, leI_def, room_def, lenI_def]; simp; omega
  simp only [F_stemref2_EmptyInstance, letJ_def, e1, cond_true]
  refine iterF_seq (S := (List DRel) × (Int × Unit)) (fun i => ((s.1.take i).map (fun t => (t.1, (([] : List Row'), ()))) ++ List.replicate (s.1.length - i) relD, ((i : Int), ()))) s.1.length _ (by rw [lrep_def, lenI_def]; simp) (fun i hi ih => ?_) (fun ih => ?_) ht
  · have hrep : List.replicate (s.1.length - i) relD = relD :: List.replicate (s.1.length - (i + 1)) relD := by
      rw [show s.1.length - i = (s.1.length - (i + 1)) + 1 by omega, List.replicate_succ]
    have hl : i < ((s.1.take i).map (fun t => ((t.1, (([] : List Row'), ())) : DRel)) ++ List.replicate (s.1.length - i) relD).length := by
      rw [List.length_append, List.length_map, List.length_take, List.length_replicate]; omega
    have hg : ((s.1.take i).map (fun t => ((t.1, (([] : List Row'), ())) : DRel)) ++ List.replicate (s.1.length - i) relD)[i] = relD := by
      rw [List.getElem_append_right (by rw [List.length_map, List.length_take]; omega)]
      simp
    simp only [lt_len hi, inB_len hi, inB_len hl, cond_true, lget_at _ hi, lget_at _ hl, hg, iadd_nat (show i < 4611686018427387904 by omega), lset_def, Int.toNat_natCast]
    have e2 : (((s.1.take i).map (fun t => ((t.1, (([] : List Row'), ())) : DRel)) ++ List.replicate (s.1.length - i) relD).set i ((s.1[i]).1, relD.2)) = (s.1.take (i + 1)).map (fun t => ((t.1, (([] : List Row'), ())) : DRel)) ++ List.replicate (s.1.length - (i + 1)) relD := by
      rw [hrep, List.set_append_right _ _ (by rw [List.length_map, List.length_take]; omega), take_snoc hi, List.map_append, List.length_map, List.length_take, show i - min i s.1.length = 0 by omega, List.set_cons_zero, List.append_assoc]
      rfl
    rw [e2]
  · simp only
    rw [cond_neg (nlt_len (Nat.lt_irrefl _)), List.take_length, Nat.sub_self]
    simp [emptyS]
theorem emptyS_small {N : Nat} {s : D_api_Schema} (hs : SSmall N s) : RSmall N (emptyS s) := by
  have ht := hs.sm.t
  have hm := hs.m
  have key : ∀ r ∈ emptyS s, r.2.1 = [] := fun r hr => by
    obtain ⟨t, _, rfl⟩ := List.mem_map.1 hr
    rfl
  refine ⟨by unfold emptyS; rw [List.length_map]; exact ht, fun r hr => by rw [key r hr]; simp; omega, fun r hr x hx => ?_, fun r hr x hx => ?_⟩
  · rw [key r hr] at hx; cases hx
  · rw [key r hr] at hx; cases hx
theorem findIdx (s : D_api_Schema) (rels : List DRel) (n : List UInt8) :
    (bif ((leI 0 (idxI (isTab n) s.1)) && (ltI (idxI (isTab n) s.1) (lenI rels))) then inB (idxI (isTab n) s.1) (lenI rels) else true) = true ∧
    (bif (leI 0 (idxI (isTab n) s.1)) then inB (idxI (isTab n) s.1) (lenI s.1) else true) = true ∧
    (bif ((leI 0 (idxI (isTab n) s.1)) && (ltI (idxI (isTab n) s.1) (lenI rels))) then (lget rels (idxI (isTab n) s.1) relD).2.1 else ([] : List Row')) = rowsS s rels n ∧
    (bif (leI 0 (idxI (isTab n) s.1)) then lget s.1 (idxI (isTab n) s.1) tabD else tabD) = tabS s n := by
  rcases tabOf_idx s n with ⟨h1, h2⟩ | ⟨i, t, h1, h2, hi, h3⟩
  · have e : idxI (isTab n) s.1 = -1 := by rw [idxI, h1]
    have e0 : leI 0 (-1) = false := by rw [leI_def]; rfl
    simp only [e, e0, Bool.false_and, cond_false, rowsS, h1, tabS, h2, Option.getD_none, and_self]
  · have e : idxI (isTab n) s.1 = (i : Int) := by rw [idxI, h1]
    have e0 : leI 0 (i : Int) = true := by rw [leI_def]; simp
    by_cases hl : i < rels.length
    · simp only [e, e0, lt_len hl, inB_len hl, inB_len hi, Bool.and_self, cond_true, h3, lget_at _ hl, rowsS, h1, List.getElem?_eq_getElem hl, tabS, h2, Option.getD_some, and_self]
    · simp only [e, e0, nlt_len hl, inB_len hi, Bool.true_and, Bool.and_false, cond_true, cond_false, h3, rowsS, h1, List.getElem?_eq_none (show rels.length ≤ i by omega), tabS, h2, Option.getD_some, and_self]

end
end Go.Proofs.YtjjfjgpjbhjpfaaGreatDoor

/- The law of instances, plain. -/
namespace Go.Proofs.YtjjfjgpjbhjpfaaGreatDoor
open Go.Vi
noncomputable section

theorem sum_mem {α : Type} (f : α → Nat) : {l : List α} → {x : α} → x ∈ l → f x ≤ (l.map f).sum
  | y :: l, x, h => by
    rw [List.map_cons, List.sum_cons]
    rcases List.mem_cons.1 h with rfl | h
    · omega
    · have := sum_mem f h; omega
theorem sum_len {α : Type} (f : α → Nat) : (l : List α) → (∀ x ∈ l, 1 ≤ f x) → l.length ≤ (l.map f).sum
  | [], _ => Nat.zero_le _
  | x :: l, h => by
    have h1 := h x List.mem_cons_self
    have h2 := sum_len f l fun y hy => h y (List.mem_cons_of_mem _ hy)
    rw [List.map_cons, List.sum_cons, List.length_cons]; omega
theorem tab_bulk (t : D_api_Table) : TTab.bulk t = t.1.length + 1 + ((t.2.1.map TCol.bulk).sum + 1 + ((t.2.2.1.map (Ty.bulk (.int .i64))).sum + 1 + 1)) := by
  obtain ⟨t1, t2, t3, ⟨⟩⟩ := t; rfl
theorem col_bulk (c : D_api_Column) : TCol.bulk c = c.1.length + 1 + (1 + (1 + 1)) := by
  obtain ⟨c1, c2, c3, ⟨⟩⟩ := c; rfl
theorem fk_bulk (f : D_api_ForeignKey) : TFk.bulk f = f.1.length + 1 + ((f.2.1.map (Ty.bulk (.int .i64))).sum + 1 + (f.2.2.1.length + 1 + 1)) := by
  obtain ⟨f1, f2, f3, ⟨⟩⟩ := f; rfl
theorem tsmall_of {t : D_api_Table} (h : TTab.bulk t ≤ 1048576) : TSmall 2000000 t := by
  rw [tab_bulk, ints_bulk] at h
  have h1 := sum_len TCol.bulk t.2.1 fun c _ => bulk_pos TCol c
  refine ⟨by omega, by omega, by omega, by omega, by omega, fun c hc => ?_⟩
  have := sum_mem TCol.bulk hc
  rw [col_bulk] at this
  omega
theorem ssmall_of {s : D_api_Schema} (h : TSch.bulk s ≤ 1048576) : SSmall 2000000 s := by
  obtain ⟨a, b, c, ⟨⟩⟩ := s
  rw [sch_bulk] at h
  have h1 := sum_len TTab.bulk a fun x _ => bulk_pos TTab x
  have h2 := sum_len TFk.bulk b fun x _ => bulk_pos TFk x
  have h3 := sum_len TCon.bulk c fun x _ => bulk_pos TCon x
  have ht : ∀ t ∈ a, TSmall 2000000 t := fun t ht => tsmall_of (by have := sum_mem TTab.bulk ht; omega)
  have hf : ∀ f ∈ b, f.2.1.length < 2000000 := fun f hf => by
    have := sum_mem TFk.bulk hf
    rw [fk_bulk, ints_bulk] at this
    omega
  exact ⟨⟨by omega, by simp only; omega, by simp only; omega, by simp only; omega, fun t h => (ht t h).c, fun t h => (ht t h).k, hf, fun t h => (ht t h).nm, fun t h => (ht t h).cn⟩, by omega⟩
theorem tabC_inj {a b : D_api_Table} (h : tabC a = tabC b) : a = b := (tabC_part (r := []) (s := []) (by rw [List.append_nil, List.append_nil]; exact h)).1

/-! ## Rows in bulk -/
theorem prod_le {a b : Nat} (h : a + b ≤ 1048576) : a * (67 + b) ≤ 1000000000000 := by
  rcases Nat.le_total a 524288 with h1 | h1
  · have := Nat.mul_le_mul h1 (show 67 + b ≤ 67 + 1048576 by omega)
    omega
  · have := Nat.mul_le_mul (show a ≤ 1048576 by omega) (show 67 + b ≤ 67 + 524288 by omega)
    omega
theorem flat_le {M : Nat} : (r : Row') → (∀ v ∈ r, (encV v).length ≤ M) → ((r.map encV).flatten).length ≤ r.length * M
  | [], _ => by simp
  | v :: r, h => by
    have h1 := h v List.mem_cons_self
    have h2 := flat_le r fun u hu => h u (List.mem_cons_of_mem _ hu)
    simp only [List.map_cons, List.flatten_cons, List.length_append, List.length_cons, Nat.add_mul, Nat.one_mul] at h2 ⊢
    omega
/-- So many values, none of a longer text. -/
theorem encR_small {r : Row'} {a b : Nat} (ha : r.length ≤ a) (hab : a + b ≤ 1048576) (h : ∀ v ∈ r, TVal.good v ∧ v.2.2.1.length ≤ b) : (encR r).length ≤ 1099511627776 := by
  have h1 := flat_le (M := 67 + b) r fun v hv => by
    obtain ⟨⟨g1, g2, g3, _⟩, g4⟩ := h v hv
    have := encV_len (v := v) ⟨g1, g2, g3⟩
    omega
  have h2 := Nat.mul_le_mul_right (67 + b) ha
  have h3 := prod_le hab
  have h4 := itoa_len_nat (n := r.length) (by unfold maxLen; omega)
  unfold encR
  rw [List.length_append]
  omega

theorem row_bulk : (r : Row') → ∀ v ∈ r, v.2.2.1.length + r.length ≤ (r.map TVal.bulk).sum
  | [], v, hv => by cases hv
  | u :: r, v, hv => by
    have hu : TVal.bulk u = 1 + (1 + (u.2.2.1.length + 1 + 1)) := rfl
    have hr : r.length ≤ (r.map TVal.bulk).sum := by
      have := bulk_slice TVal r
      have e : (Ty.slice TVal).bulk r = (r.map TVal.bulk).sum + 1 := rfl
      omega
    simp only [List.map_cons, List.sum_cons, List.length_cons]
    rcases List.mem_cons.1 hv with rfl | hv
    · omega
    · have := row_bulk r v hv
      omega
theorem rows_bulk : (rows : List Row') → ∀ r ∈ rows, (r.map TVal.bulk).sum + 1 ≤ (rows.map (Ty.slice TVal).bulk).sum
  | [], r, hr => by cases hr
  | q :: rows, r, hr => by
    simp only [List.map_cons, List.sum_cons]
    have e : (Ty.slice TVal).bulk q = (q.map TVal.bulk).sum + 1 := rfl
    rcases List.mem_cons.1 hr with rfl | hr
    · omega
    · have := rows_bulk rows r hr
      omega

abbrev TRel : Ty := .pair .str (.pair (.slice (.slice TVal)) .unit)
theorem rel_bulk (r : DRel) : TRel.bulk r = r.1.length + 1 + ((r.2.1.map (Ty.slice TVal).bulk).sum + 1 + 1) := by
  obtain ⟨r1, r2, ⟨⟩⟩ := r; rfl
theorem cellV_mem (row : Row') (i : Int) : cellV row i ∈ row ∨ cellV row i = zV := by
  unfold cellV
  split
  · exact .inl (List.getElem_mem _)
  · exact .inr rfl
structure RIn (b : Nat) (rels : List DRel) : Prop where
  good : ∀ r ∈ rels, ∀ row ∈ r.2.1, ∀ v ∈ row, TVal.good v
  bulk : (rels.map TRel.bulk).sum ≤ b
theorem rin_of {rels : List DRel} {b : Nat} (hg : (Ty.slice TRel).good rels) (hb : (Ty.slice TRel).bulk rels ≤ b + 1) : RIn b rels := by
  have e : (Ty.slice TRel).bulk rels = (rels.map TRel.bulk).sum + 1 := rfl
  refine ⟨fun r hr row hrow v hv => ?_, by omega⟩
  have h := hg.2 r hr
  obtain ⟨r1, r2, ⟨⟩⟩ := r
  exact (h.2.1.2 row hrow).2 v hv
theorem rlen (r : Row') : r.length ≤ (r.map TVal.bulk).sum := by
  have := bulk_slice TVal r
  have e : (Ty.slice TVal).bulk r = (r.map TVal.bulk).sum + 1 := rfl
  omega
theorem RIn.rows {b : Nat} {rels : List DRel} (h : RIn b rels) {r : DRel} (hr : r ∈ rels) : r.2.1.length ≤ b ∧ ∀ row ∈ r.2.1, (row.map TVal.bulk).sum ≤ b := by
  have h1 := sum_mem TRel.bulk hr
  have h2 := h.bulk
  rw [rel_bulk] at h1
  refine ⟨?_, fun row hrow => ?_⟩
  · have := bulk_slice (.slice TVal) r.2.1
    have e : (Ty.slice (.slice TVal)).bulk r.2.1 = (r.2.1.map (Ty.slice TVal).bulk).sum + 1 := rfl
    omega
  · have := rows_bulk r.2.1 row hrow
    omega
theorem rsmall_of {b : Nat} {rels : List DRel} (h : RIn b rels) (hb : b ≤ 1048576) : RSmall 2000000 rels := by
  refine ⟨?_, fun r hr => ?_, fun r hr row hrow => ?_, fun r hr row hrow => ?_⟩
  · have h1 := sum_len TRel.bulk rels fun x _ => bulk_pos TRel x
    have := h.bulk
    omega
  · have := (h.rows hr).1; omega
  · have := (h.rows hr).2 row hrow
    have := rlen row
    omega
  · have h2 := (h.rows hr).2 row hrow
    have h3 := rlen row
    exact encR_small (a := row.length) (b := 1048576 - row.length) (Nat.le_refl _) (by omega) fun v hv => ⟨h.good r hr row hrow v hv, by have := row_bulk row v hv; omega⟩
theorem keyEnc {b : Nat} {rels : List DRel} (h : RIn b rels) {cs : List Int} {a : Nat} (hc : cs.length ≤ a) (hab : a + b ≤ 1048576) {r : DRel} (hr : r ∈ rels) {row : Row'} (hrow : row ∈ r.2.1) : (encR (keyC cs row)).length ≤ 1099511627776 := by
  have h2 := (h.rows hr).2 row hrow
  refine encR_small (a := a) (b := b) (by rw [keyC_len]; exact hc) hab fun v hv => ?_
  obtain ⟨i, _, rfl⟩ := List.mem_map.1 hv
  rcases cellV_mem row i with hm | hm
  · exact ⟨h.good r hr row hrow _ hm, by have := row_bulk row _ hm; omega⟩
  · rw [hm]; exact ⟨⟨has_zero, has_zero, Nat.zero_le _, trivial⟩, Nat.zero_le _⟩
theorem ksmall_of {s : D_api_Schema} {rels : List DRel} {b : Nat} (h : RIn b rels) (hb : TSch.bulk s + b ≤ 1048576) : KSmall s rels := by
  obtain ⟨x, y, z, ⟨⟩⟩ := s
  rw [sch_bulk] at hb
  refine ⟨fun r hr row hrow t ht => keyEnc h (a := TTab.bulk t) ?_ ?_ hr hrow, fun r hr row hrow f hf => keyEnc h (a := TFk.bulk f) ?_ ?_ hr hrow⟩
  · rw [tab_bulk, ints_bulk]; omega
  · have := sum_mem TTab.bulk ht; simp only at this; omega
  · rw [fk_bulk, ints_bulk]; omega
  · have := sum_mem TFk.bulk hf; simp only at this; omega
theorem law22 (x : D_api_Schema × (List DRel × (List DRel × (List UInt8 × Unit)))) (hg : goodAll [T_api_Schema, .slice T_api_Relation, .slice T_api_Relation, .str] x) (hb : bulkAll [T_api_Schema, .slice T_api_Relation, .slice T_api_Relation, .str] x ≤ 1048576) : ∃ N z, F_stemlaw2_InstanceMatchesReference N x = some ((true, ()), z) := by
  obtain ⟨s, rels, other, n, ⟨⟩⟩ := x
  have gs : TSch.good s := hg.1
  have gr : (Ty.slice TRel).good rels := hg.2.1
  have go : (Ty.slice TRel).good other := hg.2.2.1
  have hb' : TSch.bulk s + ((Ty.slice TRel).bulk rels + ((Ty.slice TRel).bulk other + (n.length + 1 + 0))) ≤ 1048576 := hb
  have ss := ssmall_of (s := s) (by omega)
  have ir : RIn ((Ty.slice TRel).bulk rels - 1) rels := rin_of gr (by omega)
  have io : RIn ((Ty.slice TRel).bulk other - 1) other := rin_of go (by omega)
  have sr := rsmall_of ir (by omega)
  have so := rsmall_of io (by omega)
  have kr : KSmall s rels := ksmall_of ir (by omega)
  have gf : ∀ f ∈ s.2.1, TFk.good f := by
    obtain ⟨a, b, c, ⟨⟩⟩ := s
    exact gs.2.1.2
  have gt : ∀ t ∈ s.1, TTab.good t := by
    obtain ⟨a, b, c, ⟨⟩⟩ := s
    exact gs.1.2
  have bt : ∀ t ∈ s.1, TTab.bulk t ≤ 1048576 := fun t ht => by
    obtain ⟨a, b, c, ⟨⟩⟩ := s
    rw [sch_bulk] at hb'
    have := sum_mem TTab.bulk ht
    simp only at this
    omega
  have bf : ∀ f ∈ s.2.1, TFk.bulk f ≤ 1048576 := fun f hf => by
    obtain ⟨a, b, c, ⟨⟩⟩ := s
    rw [sch_bulk] at hb'
    have := sum_mem TFk.bulk hf
    simp only at this
    omega
  obtain ⟨N, hNe⟩ : ∃ N, N = 2000000 := ⟨_, rfl⟩
  rw [← hNe] at ss sr so
  have hB : N ≤ 1099511627776 := by omega
  refine ⟨N, (), ?_⟩
  have f1 := refSch_eq N s ss (fun f hf => by have := fkC_len (gf f hf); have := bf f hf; omega)
  by_cases hv0 : ¬ vSch s = 0
  · have e1 : neI (vSch s) 0 = true := by rw [neI_dec]; simp [hv0]
    simp only [F_stemlaw2_InstanceMatchesReference, letJ_def, f1, oSome_some, oGet_some, cond_true, e1]
  replace hv0 : vSch s = 0 := by omega
  have hv := valid_of hv0
  have f2 := schConf_eq N s rels ss sr
  have f3 := refConf_eq N s rels ss sr
  have f4 := schInst_eq N s rels ss sr hv
  have f5 := refInst_eq N s rels ss sr kr hv
  have f6 := empty_eq N s ss
  have f7 := emptyR_eq N s ss
  have f8 := refEq_eq N (emptyS s) (emptyS s) (emptyS_small ss) (emptyS_small ss) hB
  have f9 := instEq_eq N rels other sr hB
  have fA := refEq_eq N rels other sr so hB
  have fB := instClone_eq N rels sr hB
  have fC := refEq_eq N rels rels sr sr hB
  have fD := instEq_eq N rels rels sr hB
  have fE := instTable_eq N s rels n ss sr
  have hrl := rowsS_len (s := s) n sr (show 0 < N by omega)
  have her : ∀ r ∈ rowsS s rels n, (encR r).length ≤ 1099511627776 := fun r hr => by
    obtain ⟨q, hq, hqr⟩ := rowsS_sub hr
    exact sr.enc q hq r hqr
  have fF := equalRows_eq N (rowsS s rels n) (rowsS s rels n) hrl hB her her
  have hts : TSmall N (tabS s n) ∧ (tabC (tabS s n)).length ≤ 1099511627776 := by
    unfold tabS
    cases ht : tabOf s n with
    | none => exact ⟨⟨hB, by omega, by simp; omega, by simp; omega, by simp; omega, fun _ h => by simp at h⟩, by
        have := tabC_len (t := tabD) ⟨Nat.zero_le _, ⟨Nat.zero_le _, fun _ h => by simp at h⟩, ⟨Nat.zero_le _, fun _ h => by simp at h⟩, trivial⟩
        have e : TTab.bulk tabD ≤ 100 := by decide
        simp only [Option.getD_none]
        omega⟩
    | some t =>
      have hm := tabOf_some ht
      have := tabC_len (gt t hm)
      have := bt t hm
      exact ⟨ss.tab hm, by simp only [Option.getD_some]; omega⟩
  have fG := tableID_eq N (tabS s n) hts.1.c hts.1.k hts.2 (by have := hts.1.c; omega) (by have := hts.1.k; omega)
  have fH : F_slices_IndexFunc_api_Table N (s.1, ((fun x7 => (omap (fun y8 : ((Bool × Unit) × Unit) => (y8.1.1, ())) (F_stemlaw2_InstanceMatchesReference_1 N (x7.1, (n, ()))))), ())) = some ((idxI (isTab n) s.1, ()), ()) :=
    indexFunc_form (fun x0 => (omap (fun y1 : ((Bool × Unit) × Unit) => (y1.1.1, ())) (F_stemlaw2_InstanceMatchesReference_1 N (x0.1, (n, ()))))) (isTab n) s.1 (fun a _ => by simp only [F_stemlaw2_InstanceMatchesReference_1, omap_def, Option.map_some, eqS_dec, isTab]) tabD N ss.sm.t (by have := ss.sm.t; omega)
  obtain ⟨w1, w2, w3, w4⟩ := findIdx s rels n
  have e1 : neI (vSch s) 0 = false := by rw [neI_dec, hv0]; rfl
  have e2 : ∀ k : Int, neI k k = false := fun k => by rw [neI_dec]; simp
  have e3 : ∀ b : Bool, eqB b b = true := fun b => by rw [eqB_dec]; simp
  have e4 : ∀ b : List UInt8, eqS b b = true := fun b => by rw [eqS_dec]; simp
  simp only [F_stemlaw2_InstanceMatchesReference, letJ_def, f1, f2, f3, f4, f5, f6, f7, f8, oSome_some, oGet_some, e1, e2, cond_true, cond_false, Bool.or_self, Bool.not_false, Bool.not_true, Bool.or_true, Bool.and_self, decide_true, f9, fA, fB, fC, fD, e3, fE, fH, w1, w2, w3, w4, fF, fG, e4]
  by_cases hc0 : ¬ vConf s rels = 0
  · have e5 : neI (vConf s rels) 0 = true := by rw [neI_dec]; simp [hc0]
    rw [e5]; rfl
  replace hc0 : vConf s rels = 0 := by omega
  have hF := form_of hc0
  have e5 : neI (vConf s rels) 0 = false := by rw [neI_dec, hc0]; rfl
  rw [e5, cond_false]
  have hst := ss.sm.t
  have hsf := ss.sm.f
  have hsc := ss.sm.c
  refine iterF_seq (S := Int × Unit) (fun i => ((i : Int), ())) s.1.length _ rfl (fun i hi ih => ?_) (fun ih => ?_) hst
  · have hri : i < rels.length := by rw [hF.len]; exact hi
    have hm := List.getElem_mem hri
    simp only [lt_len hi, inB_len hi, inB_len hri, cond_true, lget_at _ hi, lget_at _ hri, iadd_nat (show i < 4611686018427387904 by omega)]
    have hself := hv.self hi
    have ht : tabOf s (s.1[i]).1 = some s.1[i] := by unfold tabOf; rw [hself]; simp [hi]
    have hlen := hF.row i hri hi
    have hrl2 := sr.rows _ hm
    have hrow2 := sr.row _ hm
    generalize s.1[i] = t at *
    generalize rels[i] = r at *
    refine iterF_run (S := Int × Unit) (fun k => ((k : Int), ())) r.2.1.length _ rfl (fun k hk ih2 => ?_) (fun ih2 => ?_) hrl2
    · have hmk := List.getElem_mem hk
      have hl := hlen _ hmk
      have hln := hrow2 _ hmk
      simp only [lt_len hk, inB_len hk, cond_true, lget_at _ hk, iadd_nat (show k < 4611686018427387904 by omega)]
      have hex : ∃ q ∈ rels, r.2.1[k] ∈ q.2.1 := ⟨r, hm, hmk⟩
      generalize r.2.1[k] = row at *
      refine iterF_run (S := Int × Unit) (fun j => ((j : Int), ())) s.1.length _ rfl (fun j hj ih3 => ?_) (fun ih3 => ?_) hst
      · simp only [lt_len hj, inB_len hj, cond_true, lget_at _ hj, iadd_nat (show j < 4611686018427387904 by omega), schRow_eq N _ _ hln hB, refRow_eq N _ _ hln hB, oSome_some, oGet_some, Bool.and_self, e2, cond_false]
      · simp only
        rw [cond_neg (nlt_len (Nat.lt_irrefl _))]
        refine iterF_run (S := Int × Unit) (fun j => ((j : Int), ())) s.2.1.length _ rfl (fun j hj ih4 => ?_) (fun ih4 => ?_) hsf
        · have hmj := List.getElem_mem hj
          simp only [lt_len hj, inB_len hj, cond_true, lget_at _ hj, iadd_nat (show j < 4611686018427387904 by omega)]
          generalize s.2.1[j] = f at *
          by_cases hq : f.1 = t.1
          · have ht' : tabOf s f.1 = some t := by rw [hq]; exact ht
            simp only [schRefs_eq N s rels f row ss sr hv hF hmj ht' hl, refRefs_eq N s rels f row ss sr kr hv hF hmj hex, oSome_some, oGet_some, Bool.or_true, Bool.and_self, cond_true, e3, Bool.not_true, Bool.and_false, cond_false]
          · have e6 : eqS f.1 t.1 = false := by rw [eqS_dec]; simp [hq]
            simp only [e6, Bool.not_false, Bool.true_or, Bool.and_self, cond_true, Bool.false_and, cond_false]
        · simp only
          rw [cond_neg (nlt_len (Nat.lt_irrefl _))]
          refine iterF_run (S := Int × Unit) (fun j => ((j : Int), ())) s.2.2.1.length _ rfl (fun j hj ih5 => ?_) (fun ih5 => ?_) hsc
          · have hmj := List.getElem_mem hj
            simp only [lt_len hj, inB_len hj, cond_true, lget_at _ hj, iadd_nat (show j < 4611686018427387904 by omega)]
            generalize s.2.2.1[j] = c at *
            by_cases hq : c.1 = t.1
            · have ht' : tabOf s c.1 = some t := by rw [hq]; exact ht
              obtain ⟨g1, g2⟩ := schSatT N hv hF hmj ht' hl
              simp only [g1, g2, oSome_some, oGet_some, Bool.or_true, Bool.and_self, cond_true, e3, Bool.not_true, Bool.and_false, cond_false]
            · have e6 : eqS c.1 t.1 = false := by rw [eqS_dec]; simp [hq]
              simp only [e6, Bool.not_false, Bool.true_or, Bool.and_self, cond_true, Bool.false_and, cond_false]
          · simp only
            rw [cond_neg (nlt_len (Nat.lt_irrefl _))]
    · simp only
      rw [cond_neg (nlt_len (Nat.lt_irrefl _))]
  · simp only
    rw [cond_neg (nlt_len (Nat.lt_irrefl _))]

end
end Go.Proofs.YtjjfjgpjbhjpfaaGreatDoor

