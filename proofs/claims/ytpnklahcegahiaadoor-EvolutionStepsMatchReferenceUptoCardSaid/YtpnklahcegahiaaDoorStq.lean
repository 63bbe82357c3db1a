/- Steps: the fields that a kind uses; the law. -/
import Derived.Test.YtpnklahcegahiaaDoorStp
set_option linter.unusedVariables false
set_option linter.unusedSimpArgs false
set_option linter.unnecessarySimpa false
set_option linter.unusedSectionVars false
set_option linter.unusedSimpArgs false
set_option maxRecDepth 100000
namespace Go.Proofs.YtpnklahcegahiaaDoor
open Go.Vi
noncomputable section

def norm (x : D_api_Step) : D_api_Step := match F_evolution_normalized 0 (x, ()) with
  | some y => y.1.1
  | none => x
theorem norm_eq (N : Nat) (x : D_api_Step) : F_evolution_normalized N (x, ()) = some ((norm x, ()), ()) := rfl

set_option maxHeartbeats 4000000 in
theorem used_eq (N : Nat) (x : D_api_Step) (hN : 10 < N) (h1 : 1 ≤ x.1) (h2 : x.1 ≤ 16) : F_stemref2_usedFields N (x, ()) = some ((norm x, ()), ()) := by
  have u := fun l hl => uses_eq N l x hN hl
  obtain ⟨k, a2, a3, a4, a5, a6, a7, a8, a9, a10, a11, a12, ⟨⟩⟩ := x
  simp only at h1 h2
  have u1 := u [10, 13, 14, 15, 16] (by decide)
  have u2 := u [1, 2, 3, 5, 8, 9, 12] (by decide)
  have u3 := u [1, 5] (by decide)
  have u4 := u [1, 2, 8] (by decide)
  have u5 := u [3, 4] (by decide)
  have u6 := u [6, 7, 8, 9] (by decide)
  have u7 := u [6, 12] (by decide)
  have u8 := u [8] (by decide)
  have u9 := u [10] (by decide)
  have uA := u [13, 14] (by decide)
  have uB := u [15, 16] (by decide)
  clear u
  simp only [F_stemref2_usedFields, letJ_def, u1, u2, u3, u4, u5, u6, u7, u8, u9, uA, uB, omap_def, Option.map_some, oSome_some, oGet_some]
  clear u1 u2 u3 u4 u5 u6 u7 u8 u9 uA uB
  have hk : k = 1 ∨ k = 2 ∨ k = 3 ∨ k = 4 ∨ k = 5 ∨ k = 6 ∨ k = 7 ∨ k = 8 ∨ k = 9 ∨ k = 10 ∨ k = 11 ∨ k = 12 ∨ k = 13 ∨ k = 14 ∨ k = 15 ∨ k = 16 := by omega
  rcases hk with rfl | rfl | rfl | rfl | rfl | rfl | rfl | rfl | rfl | rfl | rfl | rfl | rfl | rfl | rfl | rfl <;> simp [norm, F_evolution_normalized, eqI_dec]

theorem bulk_step (a1 : Int) (a2 a3 a4 a5 : List UInt8) (a6 : Int) (a7 : List Int) (a8 : List UInt8) (a9 : D_api_Value) (a10 : D_api_Table) (a11 : D_api_Constraint) (a12 : D_api_ForeignKey) :
    TStep.bulk (a1, a2, a3, a4, a5, a6, a7, a8, a9, a10, a11, a12, PUnit.unit) = 1 + (a2.length + 1 + (a3.length + 1 + (a4.length + 1 + (a5.length + 1 + (1 + ((a7.map (Ty.bulk (.int .i64))).sum + 1 + (a8.length + 1 + (TVal.bulk a9 + (TTab.bulk a10 + (TCon.bulk a11 + (TFk.bulk a12 + 1))))))))))) := rfl
theorem good_step (a1 : Int) (a2 a3 a4 a5 : List UInt8) (a6 : Int) (a7 : List Int) (a8 : List UInt8) (a9 : D_api_Value) (a10 : D_api_Table) (a11 : D_api_Constraint) (a12 : D_api_ForeignKey) :
    TStep.good (a1, a2, a3, a4, a5, a6, a7, a8, a9, a10, a11, a12, PUnit.unit) ↔ IntKind.i64.has a1 ∧ a2.length ≤ maxLen ∧ a3.length ≤ maxLen ∧ a4.length ≤ maxLen ∧ a5.length ≤ maxLen ∧ IntKind.i64.has a6 ∧ (a7.length ≤ maxLen ∧ ∀ y ∈ a7, IntKind.i64.has y) ∧ a8.length ≤ maxLen ∧ TVal.good a9 ∧ TTab.good a10 ∧ TCon.good a11 ∧ TFk.good a12 ∧ True := Iff.rfl
abbrev zVal : D_api_Value := (0, (0, ([], ())))
abbrev zTab : D_api_Table := ([], ([], ([], ())))
abbrev zCon : D_api_Constraint := ([], (0, ([], (0, (zVal, ())))))
abbrev zFk : D_api_ForeignKey := ([], ([], ([], ())))
theorem zero_good : TVal.good zVal ∧ TTab.good zTab ∧ TCon.good zCon ∧ TFk.good zFk := by
  refine ⟨⟨has_zero, has_zero, Nat.zero_le _, trivial⟩, ⟨Nat.zero_le _, ⟨Nat.zero_le _, fun y h => by cases h⟩, ⟨Nat.zero_le _, fun y h => by cases h⟩, trivial⟩, ⟨Nat.zero_le _, has_zero, Nat.zero_le _, has_zero, ⟨has_zero, has_zero, Nat.zero_le _, trivial⟩, trivial⟩, ⟨Nat.zero_le _, ⟨Nat.zero_le _, fun y h => by cases h⟩, Nat.zero_le _, trivial⟩⟩
theorem val_bulk (v : D_api_Value) : TVal.bulk zVal ≤ TVal.bulk v := by
  have : TVal.bulk v = 1 + (1 + (v.2.2.1.length + 1 + 1)) := rfl
  have h2 : TVal.bulk zVal = 4 := rfl
  omega
theorem tab_bulk (v : D_api_Table) : TTab.bulk zTab ≤ TTab.bulk v := by
  have : TTab.bulk v = v.1.length + 1 + ((v.2.1.map TCol.bulk).sum + 1 + ((v.2.2.1.map (Ty.bulk (.int .i64))).sum + 1 + 1)) := rfl
  have h2 : TTab.bulk zTab = 4 := rfl
  omega
theorem con_bulk (v : D_api_Constraint) : TCon.bulk zCon ≤ TCon.bulk v := by
  have : TCon.bulk v = v.1.length + 1 + (1 + (v.2.2.1.length + 1 + (1 + (TVal.bulk v.2.2.2.2.1 + 1)))) := rfl
  have h2 : TCon.bulk zCon = 9 := rfl
  have := val_bulk v.2.2.2.2.1
  have h3 : TVal.bulk zVal = 4 := rfl
  omega
theorem fk_bulk (v : D_api_ForeignKey) : TFk.bulk zFk ≤ TFk.bulk v := by
  have : TFk.bulk v = v.1.length + 1 + ((v.2.1.map (Ty.bulk (.int .i64))).sum + 1 + (v.2.2.1.length + 1 + 1)) := rfl
  have h2 : TFk.bulk zFk = 4 := rfl
  omega

/-- What is left of a step is no greater. -/
theorem norm_small (x : D_api_Step) (h1 : 1 ≤ x.1) (h2 : x.1 ≤ 16) (hg : TStep.good x) : TStep.good (norm x) ∧ TStep.bulk (norm x) ≤ TStep.bulk x := by
  obtain ⟨k, a2, a3, a4, a5, a6, a7, a8, a9, a10, a11, a12, ⟨⟩⟩ := x
  simp only at h1 h2
  obtain ⟨g1, g2, g3, g4, g5, g6, g7, g8, g9, g10, g11, g12, _⟩ := (good_step k a2 a3 a4 a5 a6 a7 a8 a9 a10 a11 a12).1 hg
  obtain ⟨z1, z2, z3, z4⟩ := zero_good
  have b1 := val_bulk a9
  have b2 := tab_bulk a10
  have b3 := con_bulk a11
  have b4 := fk_bulk a12
  have n0 : ([] : List UInt8).length ≤ maxLen := Nat.zero_le _
  have n1 : ([] : List Int).length ≤ maxLen ∧ ∀ y ∈ ([] : List Int), IntKind.i64.has y := ⟨Nat.zero_le _, fun y h => by cases h⟩
  have hz := has_zero
  have hk : k = 1 ∨ k = 2 ∨ k = 3 ∨ k = 4 ∨ k = 5 ∨ k = 6 ∨ k = 7 ∨ k = 8 ∨ k = 9 ∨ k = 10 ∨ k = 11 ∨ k = 12 ∨ k = 13 ∨ k = 14 ∨ k = 15 ∨ k = 16 := by omega
  have key : ∃ c2 c3 c4 c5 c6 c7 c8 c9 c10 c11 c12, norm (k, a2, a3, a4, a5, a6, a7, a8, a9, a10, a11, a12, PUnit.unit) = (k, c2, c3, c4, c5, c6, c7, c8, c9, c10, c11, c12, PUnit.unit) ∧
      (c2 = a2 ∨ c2 = []) ∧ (c3 = a3 ∨ c3 = []) ∧ (c4 = a4 ∨ c4 = []) ∧ (c5 = a5 ∨ c5 = []) ∧ (c6 = a6 ∨ c6 = 0) ∧ (c7 = a7 ∨ c7 = []) ∧ (c8 = a8 ∨ c8 = []) ∧ (c9 = a9 ∨ c9 = zVal) ∧ (c10 = a10 ∨ c10 = zTab) ∧ (c11 = a11 ∨ c11 = zCon) ∧ (c12 = a12 ∨ c12 = zFk) := by
    rcases hk with rfl | rfl | rfl | rfl | rfl | rfl | rfl | rfl | rfl | rfl | rfl | rfl | rfl | rfl | rfl | rfl <;> refine ⟨_, _, _, _, _, _, _, _, _, _, _, by simp only [norm, F_evolution_normalized, eqI_dec, decide_true, cond_true, cond_false, Int.reduceEq, decide_false]; rfl, ?_⟩ <;> simp
  obtain ⟨c2, c3, c4, c5, c6, c7, c8, c9, c10, c11, c12, he, e2, e3, e4, e5, e6, e7, e8, e9, e10, e11, e12⟩ := key
  rw [he]
  have two : ∀ {α : Type} {P : α → Prop} {c a z : α}, c = a ∨ c = z → P a → P z → P c := fun h ha hz => h.elim (fun e => e ▸ ha) (fun e => e ▸ hz)
  refine ⟨(good_step ..).2 ⟨g1, two (P := fun c => c.length ≤ maxLen) e2 g2 n0, two (P := fun c => c.length ≤ maxLen) e3 g3 n0, two (P := fun c => c.length ≤ maxLen) e4 g4 n0, two (P := fun c => c.length ≤ maxLen) e5 g5 n0, two (P := fun c => IntKind.i64.has c) e6 g6 hz,
    two (P := fun c => c.length ≤ maxLen ∧ ∀ y ∈ c, IntKind.i64.has y) e7 g7 n1, two (P := fun c => c.length ≤ maxLen) e8 g8 n0, two (P := TVal.good) e9 g9 z1, two (P := TTab.good) e10 g10 z2, two (P := TCon.good) e11 g11 z3, two (P := TFk.good) e12 g12 z4, trivial⟩, ?_⟩
  rw [bulk_step, bulk_step, ints_bulk, ints_bulk]
  have f2 : c2.length ≤ a2.length := two (P := fun c => c.length ≤ a2.length) e2 (Nat.le_refl _) (Nat.zero_le _)
  have f3 : c3.length ≤ a3.length := two (P := fun c => c.length ≤ a3.length) e3 (Nat.le_refl _) (Nat.zero_le _)
  have f4 : c4.length ≤ a4.length := two (P := fun c => c.length ≤ a4.length) e4 (Nat.le_refl _) (Nat.zero_le _)
  have f5 : c5.length ≤ a5.length := two (P := fun c => c.length ≤ a5.length) e5 (Nat.le_refl _) (Nat.zero_le _)
  have f7 : c7.length ≤ a7.length := two (P := fun c => c.length ≤ a7.length) e7 (Nat.le_refl _) (Nat.zero_le _)
  have f8 : c8.length ≤ a8.length := two (P := fun c => c.length ≤ a8.length) e8 (Nat.le_refl _) (Nat.zero_le _)
  have f9 : TVal.bulk c9 ≤ TVal.bulk a9 := two (P := fun c => TVal.bulk c ≤ TVal.bulk a9) e9 (Nat.le_refl _) b1
  have f10 : TTab.bulk c10 ≤ TTab.bulk a10 := two (P := fun c => TTab.bulk c ≤ TTab.bulk a10) e10 (Nat.le_refl _) b2
  have f11 : TCon.bulk c11 ≤ TCon.bulk a11 := two (P := fun c => TCon.bulk c ≤ TCon.bulk a11) e11 (Nat.le_refl _) b3
  have f12 : TFk.bulk c12 ≤ TFk.bulk a12 := two (P := fun c => TFk.bulk c ≤ TFk.bulk a12) e12 (Nat.le_refl _) b4
  omega

/-- How many there are. -/
theorem step_lens {x : D_api_Step} (hb : TStep.bulk x ≤ 1048576) : x.2.2.2.2.2.2.1.length ≤ 1048576 ∧ x.2.2.2.2.2.2.2.2.2.1.2.1.length ≤ 1048576 ∧ x.2.2.2.2.2.2.2.2.2.1.2.2.1.length ≤ 1048576 ∧ x.2.2.2.2.2.2.2.2.2.2.2.1.2.1.length ≤ 1048576 := by
  obtain ⟨k, a2, a3, a4, a5, a6, a7, a8, a9, ⟨t1, t2, t3, ⟨⟩⟩, a11, ⟨f1, f2, f3, ⟨⟩⟩, ⟨⟩⟩ := x
  rw [bulk_step, ints_bulk] at hb
  have h1 : TTab.bulk (t1, t2, t3, PUnit.unit) = t1.length + 1 + ((t2.map TCol.bulk).sum + 1 + ((t3.map (Ty.bulk (.int .i64))).sum + 1 + 1)) := rfl
  have h2 : TFk.bulk (f1, f2, f3, PUnit.unit) = f1.length + 1 + ((f2.map (Ty.bulk (.int .i64))).sum + 1 + (f3.length + 1 + 1)) := rfl
  have h3 : t2.length + 1 ≤ (t2.map TCol.bulk).sum + 1 := bulk_slice TCol t2
  rw [ints_bulk] at h1 h2
  simp only
  omega

theorem stepID_small (N : Nat) (x : D_api_Step) (hN : 1048576 < N) (hB : N ≤ 1099511627776) (hg : TStep.good x) (hb : TStep.bulk x ≤ 1048576) : F_stemref2_StepID N (x, ()) = some ((stepC x, ()), ()) := by
  obtain ⟨h1, h2, h3, h4⟩ := step_lens hb
  have := stepC_len hg
  exact stepID_eq N x (by omega) (by omega) (by omega) (by omega) hB (by omega)
theorem equal_small (N : Nat) (x y : D_api_Step) (hN : 1048576 < N) (hB : N ≤ 1099511627776) (hb : TStep.bulk x ≤ 1048576) : F_evolution_Equal N (x, (y, ())) = some ((decide (x = y), ()), ()) := by
  obtain ⟨h1, h2, h3, h4⟩ := step_lens hb
  exact equal_eq N x y (by omega) (by omega) (by omega) (by omega) hB
theorem clone_small (N : Nat) (x : D_api_Step) (hb : TStep.bulk x ≤ 1048576) : F_evolution_Clone N (x, ()) = some ((x, ()), ()) := by
  obtain ⟨h1, h2, h3, h4⟩ := step_lens hb
  exact clone_eq N x (by omega) (by omega) (by omega) (by omega)

def vStep (x : D_api_Step) : Int := if 1 ≤ x.1 ∧ x.1 ≤ 16 ∧ x = norm x then 0 else 3
theorem validate_eq (N : Nat) (x : D_api_Step) (hN : 1048576 < N) (hB : N ≤ 1099511627776) (hb : TStep.bulk x ≤ 1048576) : F_evolution_Validate N (x, ()) = some ((vStep x, ()), ()) := by
  simp only [F_evolution_Validate, letJ_def, norm_eq, equal_small N x _ hN hB hb, oSome_some, oGet_some, Bool.or_true, Bool.and_self, cond_true, ltI_dec, vStep]
  by_cases h1 : 1 ≤ x.1
  · by_cases h2 : x.1 ≤ 16
    · by_cases h3 : x = norm x
      · rw [if_pos ⟨h1, h2, h3⟩, cond_neg (by simp [← h3]; omega)]
      · rw [if_neg (fun h => h3 h.2.2), cond_pos (by simp [h3])]
    · rw [if_neg (fun h => h2 h.2.1), cond_pos (by simp; omega)]
  · rw [if_neg (fun h => h1 h.1), cond_pos (by simp; omega)]
theorem validateStep_eq (N : Nat) (x : D_api_Step) (hN : 1048576 < N) (hB : N ≤ 1099511627776) (hg : TStep.good x) (hb : TStep.bulk x ≤ 1048576) : F_stemref2_ValidateStep N (x, ()) = some ((vStep x, ()), ()) := by
  simp only [F_stemref2_ValidateStep, letJ_def, ltI_dec, vStep]
  by_cases h1 : 1 ≤ x.1
  · by_cases h2 : x.1 ≤ 16
    · obtain ⟨g1, g2⟩ := norm_small x h1 h2 hg
      simp only [stepID_small N x hN hB hg hb, used_eq N x (by omega) h1 h2, oSome_some, oGet_some, stepID_small N (norm x) hN hB g1 (Nat.le_trans g2 hb), Bool.or_true, Bool.and_self, cond_true, eqS_dec]
      by_cases h3 : x = norm x
      · rw [if_pos ⟨h1, h2, h3⟩, cond_neg (by simp [← h3]; omega)]
      · have : stepC x ≠ stepC (norm x) := fun e => h3 (stepC_inj e)
        rw [if_neg (fun h => h3 h.2.2), cond_pos (by simp [this])]
    · rw [if_neg (fun h => h2 h.2.1)]
      have e : decide (16 < x.1) = true := by simp; omega
      simp [e]
  · rw [if_neg (fun h => h1 h.1)]
    have e : decide (x.1 < 1) = true := by simp; omega
    simp [e]

theorem law10 (x : D_api_Step × (D_api_Step × Unit)) (hg : goodAll [T_api_Step, T_api_Step] x) (hb : bulkAll [T_api_Step, T_api_Step] x ≤ 1048576) : ∃ N z, F_stemlaw2_EvolutionStepsMatchReference N x = some ((true, ()), z) := by
  obtain ⟨a, b, ⟨⟩⟩ := x
  have ga : TStep.good a := hg.1
  have gb : TStep.good b := hg.2.1
  have hb' : TStep.bulk a + (TStep.bulk b + 0) ≤ 1048576 := hb
  refine ⟨1048600, (), ?_⟩
  have v0 : F_evolution_Validate 1048600 ((11, ([97], ([], ([], ([], (0, ([], ([], (zVal, (zTab, (zCon, (zFk, ())))))))))))), ()) = some ((0, ()), ()) := by
    rw [validate_eq _ _ (by omega) (by omega) (by rw [bulk_step]; decide)]
    simp [vStep, norm, F_evolution_normalized, eqI_dec]
  simp only [F_stemlaw2_EvolutionStepsMatchReference, letJ_def]
  rw [v0]
  simp only [equal_small 1048600 a b (by omega) (by omega) (by omega), stepID_small 1048600 a (by omega) (by omega) ga (by omega), stepID_small 1048600 b (by omega) (by omega) gb (by omega), clone_small 1048600 a (by omega), validate_eq 1048600 a (by omega) (by omega) (by omega), validateStep_eq 1048600 a (by omega) (by omega) ga (by omega), oSome_some, oGet_some, cond_true, eqI_dec, neI_dec, eqB_dec, eqS_dec, F_evolution_TableName, condO]
  have e1 : decide (decide (a = b) = decide (stepC a = stepC b)) = true := by
    by_cases h : a = b
    · subst h; simp
    · have : stepC a ≠ stepC b := fun e => h (stepC_inj e)
      simp [h, this]
  have e2 : a = b ↔ stepC a = stepC b := ⟨fun h => by rw [h], stepC_inj⟩
  by_cases hk : a.1 = 10 <;> simp [hk, e1, oSome_some, oGet_some] <;> exact e2

end
end Go.Proofs.YtpnklahcegahiaaDoor
