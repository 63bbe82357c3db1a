/- The law of schemas, plain. -/
import Derived.Test.YtolaedcogjhfbaaDoorSch
set_option linter.unusedVariables false
set_option linter.unusedSimpArgs false
set_option linter.unnecessarySimpa false
set_option linter.unusedSectionVars false
set_option linter.unusedSimpArgs false
set_option maxRecDepth 100000
namespace Go.Proofs.YtolaedcogjhfbaaDoor
open Go.Vi
noncomputable section

theorem sum_mem {α : Type} (f : α → Nat) : {l : List α} → {x : α} → x ∈ l → f x ≤ (l.map f).sum
  | y :: l, x, h => by
    rw [List.map_cons, List.sum_cons]
    rcases List.mem_cons.1 h with rfl | h
    · omega
    · have := sum_mem f h; omega
theorem sum_len {α : Type} (f : α → Nat) : (l : List α) → (∀ x ∈ l, 1 ≤ f x) → l.length ≤ (l.map f).sum
  | [], _ => Nat.zero_le _
  | x :: l, h => by
    have h1 := h x List.mem_cons_self
    have h2 := sum_len f l fun y hy => h y (List.mem_cons_of_mem _ hy)
    rw [List.map_cons, List.sum_cons, List.length_cons]; omega
theorem tab_bulk (t : D_api_Table) : TTab.bulk t = t.1.length + 1 + ((t.2.1.map TCol.bulk).sum + 1 + ((t.2.2.1.map (Ty.bulk (.int .i64))).sum + 1 + 1)) := by
  obtain ⟨t1, t2, t3, ⟨⟩⟩ := t; rfl
theorem col_bulk (c : D_api_Column) : TCol.bulk c = c.1.length + 1 + (1 + (1 + 1)) := by
  obtain ⟨c1, c2, c3, ⟨⟩⟩ := c; rfl
theorem fk_bulk (f : D_api_ForeignKey) : TFk.bulk f = f.1.length + 1 + ((f.2.1.map (Ty.bulk (.int .i64))).sum + 1 + (f.2.2.1.length + 1 + 1)) := by
  obtain ⟨f1, f2, f3, ⟨⟩⟩ := f; rfl
theorem tsmall_of {t : D_api_Table} (h : TTab.bulk t ≤ 1048576) : TSmall 2000000 t := by
  rw [tab_bulk, ints_bulk] at h
  have h1 := sum_len TCol.bulk t.2.1 fun c _ => bulk_pos TCol c
  refine ⟨by omega, by omega, by omega, by omega, by omega, fun c hc => ?_⟩
  have := sum_mem TCol.bulk hc
  rw [col_bulk] at this
  omega
theorem ssmall_of {s : D_api_Schema} (h : TSch.bulk s ≤ 1048576) : SSmall 2000000 s := by
  obtain ⟨a, b, c, ⟨⟩⟩ := s
  rw [sch_bulk] at h
  have h1 := sum_len TTab.bulk a fun x _ => bulk_pos TTab x
  have h2 := sum_len TFk.bulk b fun x _ => bulk_pos TFk x
  have h3 := sum_len TCon.bulk c fun x _ => bulk_pos TCon x
  have ht : ∀ t ∈ a, TSmall 2000000 t := fun t ht => tsmall_of (by have := sum_mem TTab.bulk ht; omega)
  have hf : ∀ f ∈ b, f.2.1.length < 2000000 := fun f hf => by
    have := sum_mem TFk.bulk hf
    rw [fk_bulk, ints_bulk] at this
    omega
  exact ⟨⟨by omega, by simp only; omega, by simp only; omega, by simp only; omega, fun t h => (ht t h).c, fun t h => (ht t h).k, hf, fun t h => (ht t h).nm, fun t h => (ht t h).cn⟩, by omega⟩
theorem tabC_inj {a b : D_api_Table} (h : tabC a = tabC b) : a = b := (tabC_part (r := []) (s := []) (by rw [List.append_nil, List.append_nil]; exact h)).1
theorem emptyValid (N : Nat) (h1 : 100 < N) (h2 : N ≤ 1099511627776) : F_schema_Validate N ((([] : List D_api_Table), (([] : List D_api_ForeignKey), (([] : List D_api_Constraint), ()))), ()) = some ((0, ()), ()) := by
  rw [schSch_eq N _ ⟨⟨h2, by simp; omega, by simp; omega, by simp; omega, fun _ h => by simp at h, fun _ h => by simp at h, fun _ h => by simp at h, fun _ h => by simp at h, fun _ h => by simp at h⟩, h1⟩]
  rfl

theorem law21 (x : D_api_Schema × (D_api_Schema × (List UInt8 × Unit))) (hg : goodAll [T_api_Schema, T_api_Schema, .str] x) (hb : bulkAll [T_api_Schema, T_api_Schema, .str] x ≤ 1048576) : ∃ N z, F_stemlaw2_SchemaMatchesReference N x = some ((true, ()), z) := by
  obtain ⟨s, u, n, ⟨⟩⟩ := x
  have gs : TSch.good s := hg.1
  have gu : TSch.good u := hg.2.1
  have hb' : TSch.bulk s + (TSch.bulk u + (n.length + 1 + 0)) ≤ 1048576 := hb
  have ss := ssmall_of (s := s) (by omega)
  have su := ssmall_of (s := u) (by omega)
  have ls := schC_len gs
  have lu := schC_len gu
  have gt : ∀ {s : D_api_Schema}, TSch.good s → ∀ t ∈ s.1, TTab.good t := fun {s} hs => by
    obtain ⟨a, b, c, ⟨⟩⟩ := s
    exact hs.1.2
  have gf : ∀ f ∈ s.2.1, TFk.good f := by
    obtain ⟨a, b, c, ⟨⟩⟩ := s
    exact gs.2.1.2
  have bt : ∀ {s : D_api_Schema}, TSch.bulk s ≤ 1048576 → ∀ t ∈ s.1, TTab.bulk t ≤ 1048576 := fun {s} hs t ht => by
    obtain ⟨a, b, c, ⟨⟩⟩ := s
    rw [sch_bulk] at hs
    have := sum_mem TTab.bulk ht
    simp only at this
    omega
  have bf : ∀ f ∈ s.2.1, TFk.bulk f ≤ 1048576 := fun f hf => by
    obtain ⟨a, b, c, ⟨⟩⟩ := s
    rw [sch_bulk] at hb'
    have := sum_mem TFk.bulk hf
    simp only at this
    omega
  refine ⟨2000000, (), ?_⟩
  simp only [F_stemlaw2_SchemaMatchesReference, letJ_def]
  rw [validName_eq 2000000 n (by omega) (by omega), refName_eq 2000000 n (by omega), schSch_eq 2000000 s ss, refSch_eq 2000000 s ss (fun f hf => by have := fkC_len (gf f hf); have := bf f hf; omega),
    schEqual_eq 2000000 s u ss.sm, schemaID_eq 2000000 s ss.sm (by omega), schemaID_eq 2000000 u su.sm (by omega), schClone_eq 2000000 s ss.sm]
  simp only [oSome_some, oGet_some, cond_true]
  rw [schEqual_eq 2000000 s s ss.sm, findTable_eq 2000000 s n ss.sm.t (by omega)]
  have e1 : eqB (decide (s = u)) (eqS (schC s) (schC u)) = true := by
    rw [eqB_dec, eqS_dec]
    by_cases h : s = u
    · subst h; simp
    · have : schC s ≠ schC u := fun e => h (schC_inj e)
      simp [h, this]
  have e2 : eqB (nameOk n) (nameOk n) = true := by rw [eqB_dec]; simp
  have e3 : neI (vSch s) (vSch s) = false := by rw [neI_dec]; simp
  rw [e1, e2, e3]
  simp only [oSome_some, oGet_some, cond_true, Bool.not_true, Bool.or_self, Bool.not_false, Bool.false_or, Bool.and_self, decide_true, cond_false]
  have e4 := indexFunc_form (fun x0 => (omap (fun y1 : ((Bool × Unit) × Unit) => (y1.1.1, ())) (F_stemlaw2_SchemaMatchesReference_1 2000000 (x0.1, (n, ()))))) (isTab n) s.1 (fun a _ => by simp only [F_stemlaw2_SchemaMatchesReference_1, omap_def, Option.map_some, eqS_dec, isTab]) (([] : List UInt8), (([] : List D_api_Column), (([] : List Int), ()))) 2000000 ss.sm.t (by have := ss.sm.t; omega)
  rw [show F_slices_IndexFunc_api_Table 2000000 (s.1, ((fun x3 => (omap (fun y4 => (y4.1.1, ())) (F_stemlaw2_SchemaMatchesReference_1 2000000 (x3.1, (n, ()))))), ())) = some ((idxI (isTab n) s.1, ()), ()) from e4]
  simp only [oSome_some, oGet_some, cond_true, maxI_idx, leI_idx]
  have e5 : ∀ b : Bool, eqB b b = true := fun b => by rw [eqB_dec]; simp
  have e6 : ∀ k : Int, neI k k = false := fun k => by rw [neI_dec]; simp
  rw [e5, e6]
  simp only [Bool.not_true, Bool.or_self, cond_false]
  refine iterF_seq (S := Int × Unit) (fun i => ((i : Int), ())) s.1.length _ rfl (fun i hi ih => ?_) (fun ih => ?_) ss.sm.t
  · simp only
    have hm := List.getElem_mem hi
    have ts := ss.tab hm
    have htl := ss.sm.t
    have q := tabC_len (gt gs _ hm)
    have q2 := bt (s := s) (by omega) _ hm
    rw [cond_pos (lt_len hi), cond_pos (inB_len hi), lget_at _ hi, iadd_nat (by omega)]
    generalize s.1[i] = t at *
    rw [findColumn_eq 2000000 t n ts.c (by omega)]
    have g4 := indexFunc_form (fun x0 => (omap (fun y1 : ((Bool × Unit) × Unit) => (y1.1.1, ())) (F_stemlaw2_SchemaMatchesReference_2 2000000 (x0.1, (n, ()))))) (isCol n) t.2.1 (fun a _ => by simp only [F_stemlaw2_SchemaMatchesReference_2, omap_def, Option.map_some, eqS_dec, isCol]) (([] : List UInt8), (0, (false, ()))) 2000000 ts.c (by have := ts.c; omega)
    rw [show F_slices_IndexFunc_api_Column 2000000 (t.2.1, ((fun x3 => (omap (fun y4 => (y4.1.1, ())) (F_stemlaw2_SchemaMatchesReference_2 2000000 (x3.1, (n, ()))))), ())) = some ((idxI (isCol n) t.2.1, ()), ()) from g4]
    simp only [oSome_some, oGet_some, cond_true, maxI_idx, leI_idx]
    rw [schTable_eq 2000000 t ts, refTable_eq 2000000 t ts, cloneTable_eq 2000000 t (by have := ts.c; omega) (by have := ts.k; omega)]
    simp only [oGet_some, e5, e6]
    rw [equalTables_eq 2000000 t t ts.c ts.k (by omega)]
    simp only [oSome_some, oGet_some, cond_true, Bool.not_true, Bool.or_self, Bool.not_false, Bool.false_or, Bool.and_self, decide_true, cond_false]
    refine iterF_run (S := Int × Unit) (fun j => ((j : Int), ())) u.1.length _ rfl (fun j hj ih2 => ?_) (fun ih2 => ?_) su.sm.t
    · simp only
      have hmu := List.getElem_mem hj
      have tu := su.tab hmu
      have hul := su.sm.t
      have r := tabC_len (gt gu _ hmu)
      have r2 := bt (s := u) (by omega) _ hmu
      rw [cond_pos (lt_len hj), cond_pos (inB_len hj), lget_at _ hj, iadd_nat (by omega)]
      generalize u.1[j] = v at *
      rw [equalTables_eq 2000000 t v ts.c ts.k (by omega), tableID_eq 2000000 t ts.c ts.k (by omega) (by have := ts.c; omega) (by have := ts.k; omega), tableID_eq 2000000 v tu.c tu.k (by omega) (by have := tu.c; omega) (by have := tu.k; omega)]
      have e7 : eqB (decide (t = v)) (eqS (tabC t) (tabC v)) = true := by
        rw [eqB_dec, eqS_dec]
        by_cases h : t = v
        · subst h; simp
        · have : tabC t ≠ tabC v := fun e => h (tabC_inj e)
          simp [h, this]
      simp only [oSome_some, oGet_some, cond_true, Bool.and_self, e7, Bool.not_true, cond_false]
    · simp only
      rw [cond_neg (nlt_len (Nat.lt_irrefl _))]
  · simp only
    rw [cond_neg (nlt_len (Nat.lt_irrefl _)), validName_eq 2000000 [97, 49] (by decide) (by decide), emptyValid 2000000 (by omega) (by omega)]
    have e8 : nameOk [97, 49] = true := by decide
    simp only [oSome_some, oGet_some, cond_true, e8, Bool.not_true, Bool.or_true, Bool.and_self, Bool.true_and, eqI_dec, decide_true]

end
end Go.Proofs.YtolaedcogjhfbaaDoor
