/- Violations. -/
import Derived.Test.YtjjfjgpjbhjpfaaGreatDoorLaw
set_option linter.unusedVariables false
set_option linter.unusedSimpArgs false
set_option linter.unnecessarySimpa false
set_option linter.unusedSectionVars false
set_option linter.unusedSimpArgs false
set_option maxRecDepth 100000
namespace Go.Proofs.YtjjfjgpjbhjpfaaGreatDoor
open Go.Vi
noncomputable section

abbrev DViol : Type := Int × (Int × (Int × (Row' × Unit)))
def mkV (code : Int) (k : Nat) (pk : List Int) (r : Row') : DViol := (0, (code, ((k : Int), (keyC pk r, ()))))
def gF (s : D_api_Schema) (rels : List DRel) (k : Nat) (f : D_api_ForeignKey) : List DViol := ((rowsS s rels f.1).filter (fun r => !refS s rels f r)).map (mkV 10 k (tabS s f.1).2.2.1)
def gC (s : D_api_Schema) (rels : List DRel) (k : Nat) (c : D_api_Constraint) : List DViol := ((rowsS s rels c.1).filter (fun r => !satS c r)).map (mkV 11 k (tabS s c.1).2.2.1)
def gather {α : Type} (g : Nat → α → List DViol) (xs : List α) : Nat → List DViol
  | 0 => []
  | n + 1 => gather g xs n ++ (match xs[n]? with
    | none => []
    | some x => g n x)
theorem gather_succ {α : Type} {g : Nat → α → List DViol} {xs : List α} {i : Nat} (hi : i < xs.length) : gather g xs (i + 1) = gather g xs i ++ g i xs[i] := by
  simp only [gather, List.getElem?_eq_getElem hi]
theorem gather_len {α : Type} {g : Nat → α → List DViol} {xs : List α} (h : ∀ k x, (g k x).length ≤ 24) : (n : Nat) → (gather g xs n).length ≤ 24 * n
  | 0 => by simp [gather]
  | n + 1 => by
    have ih := gather_len (xs := xs) h n
    simp only [gather, List.length_append]
    split
    · simp; omega
    · rename_i x _; have := h n x; omega
theorem gather_mem {α : Type} {g : Nat → α → List DViol} {xs : List α} {P : DViol → Prop} (h : ∀ k, ∀ x ∈ xs, ∀ v ∈ g k x, P v) : (n : Nat) → ∀ v ∈ gather g xs n, P v
  | 0, v, hv => by simp [gather] at hv
  | n + 1, v, hv => by
    simp only [gather, List.mem_append] at hv
    rcases hv with hv | hv
    · exact gather_mem h n v hv
    · split at hv
      · cases hv
      · rename_i x hx
        obtain ⟨hi, rfl⟩ := List.getElem?_eq_some_iff.1 hx
        exact h n _ (List.getElem_mem hi) v hv
/-- What both sides ask of a schema and an instance in form. -/
structure VIn (N : Nat) (s : D_api_Schema) (rels : List DRel) : Prop where
  ss : SSmall N s
  sr : RSmall N rels
  v : Valid s
  f : Form s rels
  few : s.2.1.length ≤ 8
  few2 : s.2.2.1.length ≤ 8
  rows : ∀ r ∈ rels, r.2.1.length ≤ 24
theorem few_of {s : D_api_Schema} (h : vSch s = 0) : s.2.1.length ≤ 8 ∧ s.2.2.1.length ≤ 8 := by
  unfold vSch at h
  split at h
  · cases h
  · omega
theorem rows_of {s : D_api_Schema} {rels : List DRel} (h : vConf s rels = 0) : ∀ r ∈ rels, r.2.1.length ≤ 24 := fun r hr => by
  unfold vConf at h
  split at h
  · cases h
  obtain ⟨h1, _⟩ := firstE_code (relE_code s.1 rels) h
  obtain ⟨i, hi, rfl⟩ := List.getElem_of_mem hr
  have := firstE_none h1 i hi
  simp only [relE, List.getElem?_eq_getElem hi] at this
  split at this
  · cases this
  split at this
  · cases this
  · omega
theorem vin_of {N : Nat} {s : D_api_Schema} {rels : List DRel} (ss : SSmall N s) (sr : RSmall N rels) (h1 : vSch s = 0) (h2 : vConf s rels = 0) : VIn N s rels :=
  ⟨ss, sr, valid_of h1, form_of h2, (few_of h1).1, (few_of h1).2, rows_of h2⟩
theorem VIn.rows24 {N : Nat} {s : D_api_Schema} {rels : List DRel} (h : VIn N s rels) (n : List UInt8) : (rowsS s rels n).length ≤ 24 := by
  unfold rowsS
  split
  · simp
  split
  · simp
  · rename_i i _ q hq
    obtain ⟨hi, rfl⟩ := List.getElem?_eq_some_iff.1 hq
    exact h.rows _ (List.getElem_mem hi)
theorem VIn.gF {N : Nat} {s : D_api_Schema} {rels : List DRel} (h : VIn N s rels) (k : Nat) (f : D_api_ForeignKey) : (gF s rels k f).length ≤ 24 := by
  have h1 := h.rows24 f.1
  have h2 := List.length_filter_le (fun r => !refS s rels f r) (rowsS s rels f.1)
  rw [Go.Proofs.YtjjfjgpjbhjpfaaGreatDoor.gF, List.length_map]; omega
theorem VIn.gC {N : Nat} {s : D_api_Schema} {rels : List DRel} (h : VIn N s rels) (k : Nat) (c : D_api_Constraint) : (gC s rels k c).length ≤ 24 := by
  have h1 := h.rows24 c.1
  have h2 := List.length_filter_le (fun r => !satS c r) (rowsS s rels c.1)
  rw [Go.Proofs.YtjjfjgpjbhjpfaaGreatDoor.gC, List.length_map]; omega
theorem VIn.pk {N : Nat} {s : D_api_Schema} {rels : List DRel} (h : VIn N s rels) {n : List UInt8} {t : D_api_Table} (ht : tabOf s n = some t) : (tabS s n).2.2.1.length < N := by
  obtain ⟨_, _, _, _, _, _, e⟩ := h.f.at ht
  rw [e]
  exact (h.ss.tab (tabOf_some ht)).k
/-- One row more, if it is bad. -/
theorem snocV (acc : List DViol) (rows : List Row') (p : Row' → Bool) (e : Row' → DViol) {j : Nat} (hj : j < rows.length) :
    acc ++ ((rows.take (j + 1)).filter p).map e = if p rows[j] = true then acc ++ ((rows.take j).filter p).map e ++ [e rows[j]] else acc ++ ((rows.take j).filter p).map e := by
  rw [take_snoc hj, List.filter_append, List.map_append, ← List.append_assoc]
  by_cases h : p rows[j] = true
  · rw [if_pos h]; simp [h]
  · rw [if_neg h]; simp [h]
theorem roomV (acc : List DViol) (rows : List Row') (p : Row' → Bool) (e : Row' → DViol) (j : Nat) (v : DViol) (h1 : acc.length ≤ 1000) (h2 : rows.length ≤ 24) : room2 (lenI (acc ++ ((rows.take j).filter p).map e)) (lenI ([v] : List DViol)) 48 = true := by
  refine room2_ok ?_
  have h3 := List.length_filter_le p (rows.take j)
  rw [List.length_take] at h3
  rw [List.length_append, List.length_map, List.length_singleton]
  omega
theorem violF_eq (N : Nat) (s : D_api_Schema) (rels : List DRel) (h : VIn N s rels) : F_violations_foreignKeys N (s, (rels, ())) = some ((gather (gF s rels) s.2.1 s.2.1.length, ()), ()) := by
  have hn := h.ss.sm.n
  have h0N : 0 < N := by have := h.ss.m; omega
  have hfl := h.ss.sm.f
  simp only [F_violations_foreignKeys, letJ_def]
  refine iterF_seq (S := List DViol × (Int × Unit)) (fun i => (gather (gF s rels) s.2.1 i, ((i : Int), ()))) s.2.1.length _ rfl (fun i hi ih => ?_) (fun ih => ?_) hfl
  · have hm := List.getElem_mem hi
    have hgl : (gather (gF s rels) s.2.1 i).length ≤ 1000 := by have := gather_len (xs := s.2.1) h.gF i; have := h.few; omega
    rw [gather_succ hi]
    simp only [lt_len hi, inB_len hi, cond_true, lget_at _ hi, iadd_nat (show i < 4611686018427387904 by omega)]
    generalize s.2.1[i] = f at *
    generalize gather (gF s rels) s.2.1 i = acc at *
    obtain ⟨t, r, h1, h2, h3, h4⟩ := h.v.fk hm
    have hpk := h.pk h1
    have h24 := h.rows24 f.1
    have hrl := rowsS_len (s := s) f.1 h.sr h0N
    simp only [instTable_eq N s rels _ h.ss h.sr, oSome_some, oGet_some, cond_true]
    refine iterF_run (S := List DViol × (Int × Unit)) (fun j => (acc ++ (((rowsS s rels f.1).take j).filter (fun r => !refS s rels f r)).map (mkV 10 i (tabS s f.1).2.2.1), ((j : Int), ()))) (rowsS s rels f.1).length _ (by simp) (fun j hj ih2 => ?_) (fun ih2 => ?_) hrl
    · have hmj := List.getElem_mem hj
      rw [snocV _ _ _ _ hj]
      simp only [lt_len hj, inB_len hj, cond_true, lget_at _ hj, iadd_nat (show j < 4611686018427387904 by omega), schRefs_eq N s rels f _ h.ss h.sr h.v h.f hm h1 (h.f.rowLen h1 hmj), key_eq N _ _ hpk hn, oSome_some, oGet_some, roomV acc (rowsS s rels f.1) _ _ j _ hgl h24, Bool.and_self, lapp_def]
      by_cases hz : refS s rels f (rowsS s rels f.1)[j] = true
      · simp [hz]
      · simp [hz, mkV]
    · simp only
      rw [cond_neg (nlt_len (Nat.lt_irrefl _)), List.take_length]
      rfl
  · simp only
    rw [cond_neg (nlt_len (Nat.lt_irrefl _))]
theorem violC_eq (N : Nat) (s : D_api_Schema) (rels : List DRel) (h : VIn N s rels) : F_violations_constraints N (s, (rels, ())) = some ((gather (gC s rels) s.2.2.1 s.2.2.1.length, ()), ()) := by
  have hn := h.ss.sm.n
  have h0N : 0 < N := by have := h.ss.m; omega
  have hcl := h.ss.sm.c
  simp only [F_violations_constraints, letJ_def]
  refine iterF_seq (S := List DViol × (Int × Unit)) (fun i => (gather (gC s rels) s.2.2.1 i, ((i : Int), ()))) s.2.2.1.length _ rfl (fun i hi ih => ?_) (fun ih => ?_) hcl
  · have hm := List.getElem_mem hi
    have hgl : (gather (gC s rels) s.2.2.1 i).length ≤ 1000 := by have := gather_len (xs := s.2.2.1) h.gC i; have := h.few2; omega
    rw [gather_succ hi]
    simp only [lt_len hi, inB_len hi, cond_true, lget_at _ hi, iadd_nat (show i < 4611686018427387904 by omega)]
    generalize s.2.2.1[i] = c at *
    generalize gather (gC s rels) s.2.2.1 i = acc at *
    obtain ⟨t, h1, _⟩ := h.v.con hm
    have hpk := h.pk h1
    have h24 := h.rows24 c.1
    have hrl := rowsS_len (s := s) c.1 h.sr h0N
    simp only [instTable_eq N s rels _ h.ss h.sr, oSome_some, oGet_some, cond_true]
    refine iterF_run (S := List DViol × (Int × Unit)) (fun j => (acc ++ (((rowsS s rels c.1).take j).filter (fun r => !satS c r)).map (mkV 11 i (tabS s c.1).2.2.1), ((j : Int), ()))) (rowsS s rels c.1).length _ (by simp) (fun j hj ih2 => ?_) (fun ih2 => ?_) hrl
    · have hmj := List.getElem_mem hj
      rw [snocV _ _ _ _ hj]
      simp only [lt_len hj, inB_len hj, cond_true, lget_at _ hj, iadd_nat (show j < 4611686018427387904 by omega), (schSatT N h.v h.f hm h1 (h.f.rowLen h1 hmj)).1, key_eq N _ _ hpk hn, oSome_some, oGet_some, roomV acc (rowsS s rels c.1) _ _ j _ hgl h24, Bool.and_self, lapp_def]
      by_cases hz : satS c (rowsS s rels c.1)[j] = true
      · simp [hz]
      · simp [hz, mkV]
    · simp only
      rw [cond_neg (nlt_len (Nat.lt_irrefl _)), List.take_length]
      rfl
  · simp only
    rw [cond_neg (nlt_len (Nat.lt_irrefl _))]

/-! ## The reference's -/
theorem tableIndex_eq (N : Nat) (s : D_api_Schema) (n : List UInt8) (hs : SSmall N s) : F_stemref4_tableIndex N (s, (n, ())) = some ((idxI (isTab n) s.1, ()), ()) := by
  have hn := hs.sm.n
  have ht := hs.sm.t
  simp only [F_stemref4_tableIndex]
  refine (iterF_first (S := Int × Unit) (fun i => ((i : Int), ())) s.1.length (atE (isTab n) s.1) (fun i => some (((i : Int), ()), ())) (some ((-1, ()), ())) rfl (fun i hi _ ih => ?_) (fun _ ih => ?_) ht).trans ?_
  · simp only [lt_len hi, inB_len hi, cond_true, lget_at _ hi, iadd_nat (show i < 4611686018427387904 by omega), eqS_dec, cond_dec, atE, List.getElem?_eq_getElem hi, isTab, decide_eq_true_eq]
    by_cases h : (s.1[i]).1 = n
    · rw [if_pos h, if_pos h]
    · rw [if_neg h, if_neg h]
  · simp only
    rw [cond_neg (nlt_len (Nat.lt_irrefl _))]
  · rw [idxI, idxE]
    cases firstE (atE (isTab n) s.1) s.1.length <;> rfl
theorem rowsEqual_eq (N : Nat) (xs ys : Row') (hN : xs.length < N) (hb : xs.length ≤ 1099511627776) : F_stemref4_RowsEqual N (xs, (ys, ())) = some ((decide (xs = ys), ()), ()) := by
  simp only [F_stemref4_RowsEqual]
  by_cases hl : xs.length = ys.length
  · rw [cond_neg (by rw [neI_dec, lenI_def, lenI_def, hl]; simp)]
    refine equalLoop (ne := fun (a b : D_api_Value) => !((eqI a.1 b.1) && ((eqI a.2.1 b.2.1) && (eqS a.2.2.1 b.2.2.1)))) (fun a b => ?_) xs ys (0, (0, (([] : List UInt8), ()))) hl hb hN
    obtain ⟨a1, a2, a3, ⟨⟩⟩ := a
    obtain ⟨b1, b2, b3, ⟨⟩⟩ := b
    simp only [eqS_dec, eqI_dec, Prod.mk.injEq, and_true, Bool.decide_and]
  · rw [cond_pos (by rw [neI_dec, lenI_def, lenI_def]; simp; omega)]
    have : xs ≠ ys := fun h => hl (by rw [h])
    simp [this]
theorem exists_eq (N : Nat) (s : D_api_Schema) (rels : List DRel) (h : VIn N s rels) (f : D_api_ForeignKey) (hf : f ∈ s.2.1) (row : Row') {t : D_api_Table} (ht : tabOf s f.1 = some t) (hl : row.length = t.2.1.length) :
    F_stemref4_referenceExists N (s, (rels, (f, (row, ())))) = some ((refS s rels f row, ()), ()) := by
  obtain ⟨t', r, h1, h2, h3, h4⟩ := h.v.fk hf
  rw [ht] at h1
  injection h1 with h1
  subst h1
  obtain ⟨i, hi, hri, e1, e2, e3, e4⟩ := h.f.at h2
  have hn := h.ss.sm.n
  have hfl := h.ss.sm.fc f hf
  have tr := h.ss.tab (tabOf_some h2)
  have hrl := rowsS_len (s := s) f.2.2.1 h.sr (show 0 < N by omega)
  have hix : idxI (isTab f.2.2.1) s.1 = (i : Int) := by rw [idxI, e1]
  simp only [F_stemref4_referenceExists, letJ_def]
  refine (iterF_first (S := Row' × (Int × Unit)) (fun i => (keyC (f.2.1.take i) row, ((i : Int), ()))) f.2.1.length (anyE (fun c => nullV (cellV row c)) () f.2.1) (fun _ => some ((true, ()), ())) (some (((rowsS s rels f.2.2.1).any (fun r => decide (keyC (tabS s f.2.2.1).2.2.1 r = keyC f.2.1 row)), ()), ())) (by simp [keyC]) (fun i hi _ ih => ?_) (fun _ ih => ?_) hfl).trans ?_
  · obtain ⟨c1, c2⟩ := h4 _ (List.getElem_mem hi)
    have c2' : (f.2.1[i]) < (row.length : Int) := by omega
    have b3 : inB (f.2.1[i]) (lenI row) = true := by rw [inB_dec, lenI_def]; simp; omega
    have b4 := cellV_at row c1 c2'
    have e1 : keyC (f.2.1.take (i + 1)) row = keyC (f.2.1.take i) row ++ [cellV row f.2.1[i]] := by unfold keyC; rw [take_snoc hi, List.map_append]; rfl
    have e5 : room2 (lenI (keyC (f.2.1.take i) row)) (lenI ([cellV row f.2.1[i]] : Row')) 32 = true := room2_ok (by rw [keyC_len, List.length_take]; simp; omega)
    rw [e1]
    simp only [lt_len hi, inB_len hi, cond_true, lget_at _ hi, b3, b4, e5, Bool.and_self, lapp_def, iadd_nat (show i < 4611686018427387904 by omega), anyE, List.getElem?_eq_getElem hi, nullV, eqI_dec, decide_eq_true_eq, cond_dec]
    by_cases q : (cellV row f.2.1[i]).1 = 0
    · rw [if_pos q, if_pos q]
    · rw [if_neg q, if_neg q]
  · simp only
    rw [cond_neg (nlt_len (Nat.lt_irrefl _)), List.take_length]
    have e3' : (rels[i]).2.1 = rowsS s rels f.2.2.1 := e3.symm
    have e4' : s.1[i] = tabS s f.2.2.1 := by rw [e2, e4]
    have htk : (tabS s f.2.2.1).2.2.1.length < N := h.pk h2
    simp only [tableIndex_eq N s _ h.ss, hix, oSome_some, oGet_some, cond_true, inB_len hri, lget_at _ hri, inB_len hi, lget_at _ hi, e3', e4', keyOf_eq N _ _ htk hn, Bool.true_and]
    refine (iterF_first (S := Int × Unit) (fun k => ((k : Int), ())) (rowsS s rels f.2.2.1).length (anyE (fun r => decide (keyC (tabS s f.2.2.1).2.2.1 r = keyC f.2.1 row)) () (rowsS s rels f.2.2.1)) (fun _ => some ((true, ()), ())) (some ((false, ()), ())) rfl (fun k hk _ ih2 => ?_) (fun _ ih2 => ?_) hrl).trans ?_
    · have hre : ∀ ys, F_stemref4_RowsEqual N (keyC (tabS s f.2.2.1).2.2.1 (rowsS s rels f.2.2.1)[k], (ys, ())) = some ((decide (keyC (tabS s f.2.2.1).2.2.1 (rowsS s rels f.2.2.1)[k] = ys), ()), ()) := fun ys => rowsEqual_eq N _ ys (by rw [keyC_len]; exact htk) (by rw [keyC_len]; omega)
      simp only [lt_len hk, inB_len hk, cond_true, lget_at _ hk, iadd_nat (show k < 4611686018427387904 by omega), hre, oSome_some, oGet_some, anyE, List.getElem?_eq_getElem hk, decide_eq_true_eq, cond_dec]
      by_cases q : keyC (tabS s f.2.2.1).2.2.1 (rowsS s rels f.2.2.1)[k] = keyC f.2.1 row
      · rw [if_pos q, if_pos q]
      · rw [if_neg q, if_neg q]
    · simp only
      rw [cond_neg (nlt_len (Nat.lt_irrefl _))]
    · rw [anyE_first]
      cases (rowsS s rels f.2.2.1).any (fun r => decide (keyC (tabS s f.2.2.1).2.2.1 r = keyC f.2.1 row)) <;> rfl
  · have e5 : ((keyC f.2.1 row).any nullV) = f.2.1.any (fun c => nullV (cellV row c)) := by unfold keyC; rw [List.any_map]; rfl
    rw [anyE_first, refS, e5]
    cases f.2.1.any (fun c => nullV (cellV row c)) <;> rfl
theorem refViol_eq (N : Nat) (s : D_api_Schema) (rels : List DRel) (h : VIn N s rels) : F_stemref4_FindViolations N (s, (rels, ())) = some ((gather (gF s rels) s.2.1 s.2.1.length ++ gather (gC s rels) s.2.2.1 s.2.2.1.length, ()), ()) := by
  have hn := h.ss.sm.n
  have h0N : 0 < N := by have := h.ss.m; omega
  have hfl := h.ss.sm.f
  have hcl := h.ss.sm.c
  simp only [F_stemref4_FindViolations, letJ_def]
  refine iterF_seq (S := List DViol × (Int × Unit)) (fun i => (gather (gF s rels) s.2.1 i, ((i : Int), ()))) s.2.1.length _ rfl (fun i hi ih => ?_) (fun ih => ?_) hfl
  · have hm := List.getElem_mem hi
    have hgl : (gather (gF s rels) s.2.1 i).length ≤ 1000 := by have := gather_len (xs := s.2.1) h.gF i; have := h.few; omega
    rw [gather_succ hi]
    simp only [lt_len hi, inB_len hi, cond_true, lget_at _ hi, iadd_nat (show i < 4611686018427387904 by omega)]
    generalize s.2.1[i] = f at *
    generalize gather (gF s rels) s.2.1 i = acc at *
    obtain ⟨t, r, h1, h2, h3, h4⟩ := h.v.fk hm
    obtain ⟨q, hq, hrq, e1, e2, e3, e4⟩ := h.f.at h1
    have hix : idxI (isTab f.1) s.1 = (q : Int) := by rw [idxI, e1]
    have e3' : (rels[q]).2.1 = rowsS s rels f.1 := e3.symm
    have e4' : s.1[q] = tabS s f.1 := by rw [e2, e4]
    have hpk := h.pk h1
    have h24 := h.rows24 f.1
    have hrl := rowsS_len (s := s) f.1 h.sr h0N
    simp only [tableIndex_eq N s _ h.ss, hix, oSome_some, oGet_some, cond_true, inB_len hrq, lget_at _ hrq, inB_len hq, lget_at _ hq, e3', e4', keyOf_eq N _ _ hpk hn, Bool.true_and]
    refine iterF_run (S := List DViol × (Int × Unit)) (fun j => (acc ++ (((rowsS s rels f.1).take j).filter (fun r => !refS s rels f r)).map (mkV 10 i (tabS s f.1).2.2.1), ((j : Int), ()))) (rowsS s rels f.1).length _ (by simp) (fun j hj ih2 => ?_) (fun ih2 => ?_) hrl
    · have hmj := List.getElem_mem hj
      rw [snocV _ _ _ _ hj]
      simp only [lt_len hj, inB_len hj, cond_true, lget_at _ hj, iadd_nat (show j < 4611686018427387904 by omega), exists_eq N s rels h f hm _ h1 (h.f.rowLen h1 hmj), oSome_some, oGet_some, roomV acc (rowsS s rels f.1) _ _ j _ hgl h24, Bool.and_self, lapp_def]
      by_cases hz : refS s rels f (rowsS s rels f.1)[j] = true
      · simp [hz]
      · simp [hz, mkV]
    · simp only
      rw [cond_neg (nlt_len (Nat.lt_irrefl _)), List.take_length]
      rfl
  · simp only
    rw [cond_neg (nlt_len (Nat.lt_irrefl _))]
    have hgf : (gather (gF s rels) s.2.1 s.2.1.length).length ≤ 500 := by have := gather_len (xs := s.2.1) h.gF s.2.1.length; have := h.few; omega
    generalize gather (gF s rels) s.2.1 s.2.1.length = acc0 at *
    refine iterF_run (S := List DViol × (Int × Unit)) (fun i => (acc0 ++ gather (gC s rels) s.2.2.1 i, ((i : Int), ()))) s.2.2.1.length _ (by simp [gather]) (fun i hi ih => ?_) (fun ih => ?_) hcl
    · have hm := List.getElem_mem hi
      have hgl : (acc0 ++ gather (gC s rels) s.2.2.1 i).length ≤ 1000 := by have := gather_len (xs := s.2.2.1) h.gC i; have := h.few2; rw [List.length_append]; omega
      rw [gather_succ hi, ← List.append_assoc]
      simp only [lt_len hi, inB_len hi, cond_true, lget_at _ hi, iadd_nat (show i < 4611686018427387904 by omega)]
      generalize s.2.2.1[i] = c at *
      generalize acc0 ++ gather (gC s rels) s.2.2.1 i = acc at *
      obtain ⟨t, h1, k1, k2, k3, k4, k5⟩ := h.v.con hm
      obtain ⟨q, hq, hrq, e1, e2, e3, e4⟩ := h.f.at h1
      have hix : idxI (isTab c.1) s.1 = (q : Int) := by rw [idxI, e1]
      have e3' : (rels[q]).2.1 = rowsS s rels c.1 := e3.symm
      have e4' : s.1[q] = tabS s c.1 := by rw [e2, e4]
      have hpk := h.pk h1
      have h24 := h.rows24 c.1
      have hrl := rowsS_len (s := s) c.1 h.sr h0N
      simp only [tableIndex_eq N s _ h.ss, hix, oSome_some, oGet_some, cond_true, inB_len hrq, lget_at _ hrq, inB_len hq, lget_at _ hq, e3', e4', keyOf_eq N _ _ hpk hn, Bool.true_and, less_eq]
      refine iterF_run (S := List DViol × (Int × Unit)) (fun j => (acc ++ (((rowsS s rels c.1).take j).filter (fun r => !satS c r)).map (mkV 11 i (tabS s c.1).2.2.1), ((j : Int), ()))) (rowsS s rels c.1).length _ (by simp) (fun j hj ih2 => ?_) (fun ih2 => ?_) hrl
      · have hmj := List.getElem_mem hj
        have hrow := h.f.rowLen h1 hmj
        rw [snocV _ _ _ _ hj]
        simp only [lt_len hj, inB_len hj, cond_true, lget_at _ hj, iadd_nat (show j < 4611686018427387904 by omega), roomV acc (rowsS s rels c.1) _ _ j _ hgl h24, Bool.and_self, lapp_def]
        generalize (rowsS s rels c.1)[j] = row at *
        have i1 : inB c.2.1 (lenI row) = true := by rw [inB_dec, lenI_def]; simp; omega
        have i2 : (bif neI c.2.2.2.1 (-1) then inB c.2.2.2.1 (lenI row) else true) = true := by
          by_cases hz : c.2.2.2.1 = -1
          · rw [cond_neg (by rw [neI_dec]; simp [hz])]
          · rw [cond_pos (by rw [neI_dec]; simp [hz]), inB_dec, lenI_def]; simp; omega
        have i3 : (bif neI c.2.2.2.1 (-1) then lget row c.2.2.2.1 (0, (0, (([] : List UInt8), ()))) else c.2.2.2.2.1) = (if 0 ≤ c.2.2.2.1 then cellV row c.2.2.2.1 else c.2.2.2.2.1) := by
          by_cases hz : c.2.2.2.1 = -1
          · rw [cond_neg (by rw [neI_dec]; simp [hz]), if_neg (by omega)]
          · rw [cond_pos (by rw [neI_dec]; simp [hz]), if_pos (by omega), cellV_at row (by omega) (by omega)]
        have i4 := cellV_at row k1 (show c.2.1 < (row.length : Int) by omega)
        simp only [i1, i2, i3, i4, cond_true]
        have i5 : ((((eqI (cellV row c.2.1).1 0) || (eqI (if 0 ≤ c.2.2.2.1 then cellV row c.2.2.2.1 else c.2.2.2.2.1).1 0)) || (((eqI (cellV row c.2.1).1 (if 0 ≤ c.2.2.2.1 then cellV row c.2.2.2.1 else c.2.2.2.2.1).1) && ((eqI (cellV row c.2.1).2.1 (if 0 ≤ c.2.2.2.1 then cellV row c.2.2.2.1 else c.2.2.2.2.1).2.1) && (eqS (cellV row c.2.1).2.2.1 (if 0 ≤ c.2.2.2.1 then cellV row c.2.2.2.1 else c.2.2.2.2.1).2.2.1))) && (!(eqS c.2.2.1 ([60] : List UInt8))))) || (decide (vc (cellV row c.2.1) (if 0 ≤ c.2.2.2.1 then cellV row c.2.2.2.1 else c.2.2.2.2.1) < 0) && (!(eqS c.2.2.1 ([61] : List UInt8))))) = satS c row := by
          unfold satS satB
          generalize (if 0 ≤ c.2.2.2.1 then cellV row c.2.2.2.1 else c.2.2.2.2.1) = b
          generalize cellV row c.2.1 = a
          have e : (decide (a.1 = b.1) && (decide (a.2.1 = b.2.1) && decide (a.2.2.1 = b.2.2.1))) = decide (vc a b = 0) := by
            rw [← Bool.decide_and, ← Bool.decide_and]
            refine decide_eq_decide.2 (Iff.trans ?_ (vc_zero a b).symm)
            obtain ⟨a1, a2, a3, ⟨⟩⟩ := a
            obtain ⟨b1, b2, b3, ⟨⟩⟩ := b
            simp only [Prod.mk.injEq, and_true]
          simp only [eqI_dec, eqS_dec, e, Bool.or_assoc]
        simp only [oSome_some, oGet_some, Bool.or_true, cond_true, i5]
        by_cases hz : satS c row = true
        · simp [hz]
        · simp [hz, mkV]
      · simp only
        rw [cond_neg (nlt_len (Nat.lt_irrefl _)), List.take_length]
        rfl
    · simp only
      rw [cond_neg (nlt_len (Nat.lt_irrefl _))]

/-! ## Find -/
theorem grow_eq (N : Nat) (n : Nat) (hn : n ≤ 1000) : F_slices_Grow_violations_Violation N ((), ((n : Int), ())) = some (([], ()), ()) := by
  have e1 : isub .i64 (n : Int) (isub .i64 0 (lenI ([] : List DViol))) = (n : Int) := by
    rw [lenI_def, List.length_nil, isub64 (x := 0) (by omega) (by omega), isub64 (by omega) (by omega)]
    omega
  have e2 : ltI (n : Int) 0 = false := by rw [ltI_dec]; exact decide_eq_false (by omega)
  have e4 : lslice (lrep (α := DViol) (n : Int) (0, (0, (0, (([] : Row'), ()))))) 0 (lenI ([] : List DViol)) = [] := by
    rw [lslice_def, lenI_def]; simp
  have e5 : inS 0 0 0 = true := by rw [inS_dec]; simp
  have e6 : room (n : Int) 48 = true := by rw [room_def]; simp; omega
  have e7 : inS 0 (lenI ([] : List DViol)) (lenI (lrep (α := DViol) (n : Int) (0, (0, (0, (([] : Row'), ())))))) = true := by rw [inS_dec, lenI_def, lenI_def]; simp
  simp only [F_slices_Grow_violations_Violation, letJ_def, e1, e2, e4, e5, e6, e7, cond_false]
  cases ltI 0 (n : Int) <;> rfl
theorem concat_eq (N : Nat) (a b : List DViol) (hN : 100 < N) (h : a.length + b.length ≤ 1000) : F_slices_Concat_violations_Violation N ([a, b], ()) = some ((a ++ b, ()), ()) := by
  obtain ⟨M, rfl⟩ : ∃ M, N = M + 3 := ⟨N - 3, by omega⟩
  have l0 : ltI 0 (lenI [a, b]) = true := by rw [ltI_dec, lenI_def]; simp
  have l1 : ltI 1 (lenI [a, b]) = true := by rw [ltI_dec, lenI_def]; simp
  have l2 : ltI 2 (lenI [a, b]) = false := by rw [ltI_dec, lenI_def]; simp
  have b0 : inB 0 (lenI [a, b]) = true := by rw [inB_dec, lenI_def]; simp
  have b1 : inB 1 (lenI [a, b]) = true := by rw [inB_dec, lenI_def]; simp
  have g0 : lget [a, b] 0 [] = a := by rw [lget_def]; rfl
  have g1 : lget [a, b] 1 [] = b := by rw [lget_def]; rfl
  have a0 : iadd .i64 0 1 = 1 := iadd_nat (i := 0) (by omega)
  have a1 : iadd .i64 1 1 = 2 := iadd_nat (i := 1) (by omega)
  have s0 : iadd .i64 0 (lenI a) = ((a.length : Nat) : Int) := by rw [lenI_def, iadd64 (by omega) (by omega)]; omega
  have s1 : iadd .i64 ((a.length : Nat) : Int) (lenI b) = ((a.length + b.length : Nat) : Int) := by rw [lenI_def, iadd64 (by omega) (by omega)]; omega
  have n0 : ltI ((a.length : Nat) : Int) 0 = false := by rw [ltI_dec]; exact decide_eq_false (by omega)
  have n1 : ltI ((a.length + b.length : Nat) : Int) 0 = false := by rw [ltI_dec]; exact decide_eq_false (by omega)
  have r0 : room2 (lenI ([] : List DViol)) (lenI a) 48 = true := room2_ok (by simp; omega)
  have r1 : room2 (lenI a) (lenI b) 48 = true := room2_ok (by omega)
  simp only [F_slices_Concat_violations_Violation, letJ_def]
  rw [iterF_succ]
  simp only [l0, b0, g0, s0, n0, a0, cond_true, cond_false]
  rw [iterF_succ]
  simp only [l1, b1, g1, s1, n1, a1, cond_true, cond_false]
  rw [iterF_succ]
  simp only [l2, cond_false, grow_eq _ _ h, oSome_some, oGet_some, cond_true]
  rw [iterF_succ]
  simp only [l0, b0, g0, r0, a0, cond_true, lapp_def, List.nil_append]
  rw [iterF_succ]
  simp only [l1, b1, g1, r1, a1, cond_true, lapp_def]
  rw [iterF_succ]
  simp only [l2, cond_false]
def viol (s : D_api_Schema) (rels : List DRel) : List DViol := gather (gF s rels) s.2.1 s.2.1.length ++ gather (gC s rels) s.2.2.1 s.2.2.1.length
theorem findV_eq (N : Nat) (s : D_api_Schema) (rels : List DRel) (ss : SSmall N s) (sr : RSmall N rels) : F_violations_Find N (s, (rels, ())) = some ((if vSch s ≠ 0 then ([], (vSch s, ())) else if vConf s rels ≠ 0 then ([], (vConf s rels, ())) else (viol s rels, (0, ()))), ()) := by
  simp only [F_violations_Find, letJ_def, schSch_eq N s ss, oSome_some, oGet_some, cond_true, neI_dec, decide_not]
  by_cases h1 : ¬ vSch s = 0
  · simp only [h1, ne_eq, not_false_eq_true, if_true, decide_false, Bool.not_false, cond_true]
  replace h1 : vSch s = 0 := by omega
  simp only [h1, ne_eq, not_true_eq_false, if_false, decide_true, Bool.not_true, cond_false, schConf_eq N s rels ss sr, oSome_some, oGet_some, cond_true]
  by_cases h2 : ¬ vConf s rels = 0
  · simp only [h2, ne_eq, not_false_eq_true, if_true, decide_false, Bool.not_false, cond_true]
  replace h2 : vConf s rels = 0 := by omega
  have hv := vin_of ss sr h1 h2
  have k1 := gather_len (xs := s.2.1) hv.gF s.2.1.length
  have k2 := gather_len (xs := s.2.2.1) hv.gC s.2.2.1.length
  have := hv.few
  have := hv.few2
  simp only [h2, ne_eq, not_true_eq_false, if_false, decide_true, Bool.not_true, cond_false, violF_eq N s rels hv, violC_eq N s rels hv, oSome_some, oGet_some, cond_true, concat_eq N _ _ ss.m (show (gather (gF s rels) s.2.1 s.2.1.length).length + (gather (gC s rels) s.2.2.1 s.2.2.1.length).length ≤ 1000 by omega), Bool.and_self]
  rfl
theorem violEq_eq (N : Nat) (xs : List DViol) (hN : xs.length < N) (hB : N ≤ 1099511627776) (hk : ∀ v ∈ xs, v.2.2.2.1.length < N) : F_stemlaw4_violationsEqual N (xs, (xs, ())) = some ((true, ()), ()) := by
  have h : F_slices_EqualFunc_violations_Violation N (xs, (xs, ((fun x0 => (omap (fun y1 : ((Bool × Unit) × Unit) => (y1.1.1, ())) (F_stemlaw4_violationsEqual_1 N (x0.1, (x0.2.1, ()))))), ()))) = some ((true, ()), ()) := by
    simp only [F_slices_EqualFunc_violations_Violation]
    rw [cond_neg (by rw [neI_dec]; simp)]
    refine iterF_seq (S := Int × Unit) (fun i => ((i : Int), ())) xs.length _ rfl (fun i hi ih => ?_) (fun ih => ?_) hN
    · have hm := hk _ (List.getElem_mem hi)
      simp only [lt_len hi, inB_len hi, cond_true, lget_at _ hi, iadd_nat (show i < 4611686018427387904 by omega), F_stemlaw4_violationsEqual_1, rowsEqual_eq N _ _ hm (by omega), oSome_some, oGet_some, Bool.or_true, omap_def, Option.map_some, eqI_dec, decide_true, Bool.and_self, Bool.not_true, cond_false]
    · simp only
      rw [cond_neg (nlt_len (Nat.lt_irrefl _))]
  simp only [F_stemlaw4_violationsEqual, h, oSome_some, oGet_some, cond_true]
theorem viol_mem {N : Nat} {s : D_api_Schema} {rels : List DRel} (h : VIn N s rels) : ∀ v ∈ viol s rels, v.2.2.2.1.length < N := fun v hv => by
  rcases List.mem_append.1 hv with hv | hv
  · refine gather_mem (P := fun v => v.2.2.2.1.length < N) (fun k f hf v hv => ?_) _ v hv
    obtain ⟨r, _, rfl⟩ := List.mem_map.1 hv
    obtain ⟨t, r', h1, _⟩ := h.v.fk hf
    simp only [mkV, keyC_len]
    exact h.pk h1
  · refine gather_mem (P := fun v => v.2.2.2.1.length < N) (fun k c hc v hv => ?_) _ v hv
    obtain ⟨r, _, rfl⟩ := List.mem_map.1 hv
    obtain ⟨t, h1, _⟩ := h.v.con hc
    simp only [mkV, keyC_len]
    exact h.pk h1

/-! ## The example -/
def baseS : D_api_Schema := ([([105, 116, 101, 109], ([([105, 100], (1, (false, ()))), ([115, 105, 122, 101], (1, (true, ()))), ([102, 105, 114, 115, 116], (3, (false, ()))), ([108, 97, 115, 116], (3, (false, ())))], ([0], ()))), ([111, 114, 100, 101, 114], ([([105, 100], (1, (false, ()))), ([105, 116, 101, 109], (1, (true, ()))), ([112, 97, 105, 100], (2, (false, ())))], ([0], ())))], ([([111, 114, 100, 101, 114], ([1], ([105, 116, 101, 109], ())))], ([([105, 116, 101, 109], (1, ([60, 61], (-1, ((1, (6, ([], ()))), ())))))], ())))
def baseI : List DRel := [([105, 116, 101, 109], ([], ())), ([111, 114, 100, 101, 114], ([[(1, (0, ([], ()))), (1, (9, ([], ()))), (2, (0, ([], ())))]], ()))]
theorem base_ok : vSch baseS = 0 := by
  delta vSch tabL fkL conL vTab pkE vFk vCon fkE colD
  simp only [lget_def, bless_cb]
  decide +kernel
theorem base_conf : vConf baseS baseI = 0 := by
  delta vConf relE prevE vRow cellE colD
  simp only [lget_def]
  decide +kernel
theorem base_viol : (viol baseS baseI).map (fun v => v.2.1) = [10] := by decide +kernel
theorem base_ss : SSmall 2000000 baseS := ssmall_of (by decide +kernel)
theorem base_cells : ∀ r ∈ baseI, ∀ row ∈ r.2.1, ∀ v ∈ row, (0 ≤ v.1 ∧ v.1 ≤ 9) ∧ (0 ≤ v.2.1 ∧ v.2.1 ≤ 9) ∧ v.2.2.1 = [] := by decide +kernel
theorem has_small {x : Int} (h1 : 0 ≤ x) (h2 : x ≤ 9) : IntKind.i64.has x := ⟨by show (-9223372036854775808 : Int) ≤ x; omega, by show x ≤ (9223372036854775807 : Int); omega⟩
theorem base_sr : RSmall 2000000 baseI := rsmall_of (b := 1000) ⟨fun r hr row hrow v hv => by
  obtain ⟨⟨a1, a2⟩, ⟨a3, a4⟩, a5⟩ := base_cells r hr row hrow v hv
  obtain ⟨v1, v2, v3, ⟨⟩⟩ := v
  simp only at a1 a2 a3 a4 a5
  subst a5
  exact ⟨has_small a1 a2, has_small a3 a4, Nat.zero_le _, trivial⟩, by decide +kernel⟩ (by omega)
theorem work_eq : F_stemlaw4_violationsWork 2000000 () = some ((true, ()), ()) := by
  have hb : F_stemref4_BaseSchema 2000000 () = some ((baseS, ()), ()) := rfl
  have hf := findV_eq 2000000 baseS baseI base_ss base_sr
  rw [if_neg (by simp [base_ok]), if_neg (by simp [base_conf])] at hf
  have hi : F_violations_Find 2000000 (baseS, (([(([105, 116, 101, 109] : List UInt8), (([] : List (List D_api_Value)), ())), (([111, 114, 100, 101, 114] : List UInt8), (([([(1, (0, (([] : List UInt8), ()))), (1, (9, (([] : List UInt8), ()))), (2, (0, (([] : List UInt8), ())))] : List D_api_Value)] : List (List D_api_Value)), ()))] : List D_api_Relation), ())) = some ((viol baseS baseI, (0, ())), ()) := hf
  have hm := base_viol
  simp only [F_stemlaw4_violationsWork, letJ_def, hb, oSome_some, oGet_some, hi, Bool.true_and, Bool.and_self, cond_true]
  generalize viol baseS baseI = vs at *
  have hl : vs.length = 1 := by have := congrArg List.length hm; simpa using this
  obtain ⟨v, rfl⟩ := List.length_eq_one_iff.1 hl
  simp only [List.map_cons, List.map_nil, List.cons.injEq, and_true] at hm
  have l1 : eqI (lenI [v]) 1 = true := by rw [eqI_dec, lenI_def]; simp
  have l2 : eqI 0 0 = true := by rw [eqI_dec]; simp
  have l3 : inB 0 (lenI [v]) = true := by rw [inB_dec, lenI_def]; simp
  have l4 : ∀ d, lget [v] 0 d = v := fun d => by rw [lget_def]; rfl
  have l5 : eqI v.2.1 10 = true := by rw [eqI_dec, hm]; simp
  simp only [l1, l2, l3, l4, l5, Bool.and_self, Bool.or_true, cond_true]
theorem law23 (x : D_api_Schema × (List DRel × Unit)) (hg : goodAll [T_api_Schema, .slice T_api_Relation] x) (hb : bulkAll [T_api_Schema, .slice T_api_Relation] x ≤ 1048576) : ∃ N z, F_stemlaw4_ViolationsFindMatchesReference N x = some ((true, ()), z) := by
  obtain ⟨s, rels, ⟨⟩⟩ := x
  have gs : TSch.good s := hg.1
  have gr : (Ty.slice TRel).good rels := hg.2.1
  have hb' : TSch.bulk s + ((Ty.slice TRel).bulk rels + 0) ≤ 1048576 := hb
  have ss := ssmall_of (s := s) (by omega)
  have ir : RIn ((Ty.slice TRel).bulk rels - 1) rels := rin_of gr (by omega)
  have sr := rsmall_of ir (by omega)
  have gf : ∀ f ∈ s.2.1, TFk.good f := by
    obtain ⟨a, b, c, ⟨⟩⟩ := s
    exact gs.2.1.2
  have bf : ∀ f ∈ s.2.1, TFk.bulk f ≤ 1048576 := fun f hf => by
    obtain ⟨a, b, c, ⟨⟩⟩ := s
    rw [sch_bulk] at hb'
    have := sum_mem TFk.bulk hf
    simp only at this
    omega
  refine ⟨2000000, (), ?_⟩
  have f1 := refSch_eq 2000000 s ss (fun f hf => by have := fkC_len (gf f hf); have := bf f hf; omega)
  have f2 := refConf_eq 2000000 s rels ss sr
  have f3 := findV_eq 2000000 s rels ss sr
  have l0 : eqI (lenI ([] : List DViol)) 0 = true := by rw [eqI_dec, lenI_def]; simp
  have l1 : ∀ k : Int, eqI k k = true := fun k => by rw [eqI_dec]; simp
  simp only [F_stemlaw4_ViolationsFindMatchesReference, letJ_def, f1, f3, work_eq, oSome_some, oGet_some, cond_true, Bool.not_true, cond_false]
  by_cases h1 : ¬ vSch s = 0
  · have e1 : eqI (vSch s) 0 = false := by rw [eqI_dec]; simp [h1]
    have e2 : neI (vSch s) 0 = true := by rw [neI_dec]; simp [h1]
    rw [if_pos h1]
    simp only [e1, e2, cond_false, cond_true, l0, l1, Bool.and_self]
  replace h1 : vSch s = 0 := by omega
  rw [if_neg (by simp [h1])]
  by_cases h2 : ¬ vConf s rels = 0
  · have e2 : neI (vConf s rels) 0 = true := by rw [neI_dec]; simp [h2]
    rw [if_pos h2]
    simp only [h1, l1, e2, f2, oSome_some, oGet_some, cond_true, l0, Bool.and_self]
  replace h2 : vConf s rels = 0 := by omega
  have hv := vin_of ss sr h1 h2
  have k1 := gather_len (xs := s.2.1) hv.gF s.2.1.length
  have k2 := gather_len (xs := s.2.2.1) hv.gC s.2.2.1.length
  have := hv.few
  have := hv.few2
  have e2 : neI 0 0 = false := by rw [neI_dec]; simp
  have f4 : F_stemref4_FindViolations 2000000 (s, (rels, ())) = some ((viol s rels, ()), ()) := refViol_eq 2000000 s rels hv
  have f5 := violEq_eq 2000000 (viol s rels) (by unfold viol; rw [List.length_append]; omega) (by omega) (viol_mem hv)
  rw [if_neg (by simp [h2])]
  simp only [h1, l1, f2, h2, e2, f4, f5, oSome_some, oGet_some, cond_true, cond_false, Bool.and_self, Bool.or_true]

end
end Go.Proofs.YtjjfjgpjbhjpfaaGreatDoor
