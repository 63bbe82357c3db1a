/- The law of compaction, plain. -/
import Derived.Test.YtjjfjgpjbhjpfaaGreatDoorCha
set_option linter.unusedVariables false
set_option linter.unusedSimpArgs false
set_option linter.unnecessarySimpa false
set_option linter.unusedSectionVars false
set_option linter.unusedSimpArgs false
set_option maxRecDepth 100000
namespace Go.Proofs.YtjjfjgpjbhjpfaaGreatDoor
open Go.Vi
noncomputable section

theorem eqChgForm (N : Nat) (xs ys : List DChg) (φ : (DChg × (DChg × Unit)) → Option (Bool × Unit)) (hφ : ∀ a ∈ xs, ∀ b ∈ ys, φ (a, (b, ())) = some (decide (a = b), ())) (hN : xs.length < N) (hB : N ≤ 1099511627776) :
    F_slices_EqualFunc_api_Change N (xs, (ys, (φ, ()))) = some ((decide (xs = ys), ()), ()) := by
  simp only [F_slices_EqualFunc_api_Change]
  by_cases hl : xs.length = ys.length
  · rw [cond_neg (by rw [neI_dec, lenI_def, lenI_def, hl]; simp)]
    refine iterF_post (S := Int × Unit) (R := (Bool × Unit) × Unit) (fun p => xs.length - p.1.toNat) (fun p => ∃ i : Nat, p.1 = (i : Int) ∧ i ≤ xs.length ∧ xs.take i = ys.take i) (fun _ => ((decide (xs = ys), ()), ())) ?_ N _ ⟨0, rfl, Nat.zero_le _, by simp⟩ (by simp; omega)
    rintro ih ⟨_, _⟩ ⟨i, rfl, h2, h3⟩ hih
    simp only [Int.toNat_natCast] at hih ⊢
    by_cases hi : i < xs.length
    · have hj : i < ys.length := by omega
      rw [cond_pos (lt_len hi), inB_len hi, inB_len hj, lget_at _ hi, lget_at _ hj, hφ _ (List.getElem_mem hi) _ (List.getElem_mem hj)]
      simp only [oSome_some, oGet_some, cond_true]
      by_cases e : xs[i] = ys[i]
      · rw [cond_neg (by simp [e]), iadd_nat (by omega), hih _ ⟨i + 1, rfl, by omega, by rw [take_snoc hi, take_snoc hj, h3, e]⟩ (by simp only [Int.toNat_natCast]; omega)]
      · rw [cond_pos (by simp [e])]
        have : xs ≠ ys := fun h => e (by subst h; rfl)
        simp [this]
    · rw [cond_neg (nlt_len hi)]
      have e1 : i = xs.length := by omega
      subst e1
      have : xs = ys := by
        have := h3
        rwa [List.take_length, hl, List.take_length] at this
      simp [this]
  · rw [cond_pos (by rw [neI_dec, lenI_def, lenI_def]; simp; omega)]
    have : xs ≠ ys := fun h => hl (by rw [h])
    simp [this]
theorem chg_eq (a b : DChg) : (((decide (a.1 = b.1) && decide (a.2.1 = b.2.1)) && decide (a.2.2.1 = b.2.2.1)) && decide (a.2.2.2.1 = b.2.2.2.1)) = decide (a = b) := by
  obtain ⟨a1, a2, a3, a4, ⟨⟩⟩ := a
  obtain ⟨b1, b2, b3, b4, ⟨⟩⟩ := b
  rw [← Bool.decide_and, ← Bool.decide_and, ← Bool.decide_and]
  exact decide_eq_decide.2 (by simp only [Prod.mk.injEq, and_true]; constructor <;> simp +contextual)
theorem encEq (x y : Row') : decide (encR x = encR y) = decide (x = y) := by
  by_cases h : x = y
  · simp [h]
  · have : encR x ≠ encR y := fun e => h (encR_inj e)
    simp [h, this]
structure ESmall (cs : List DChg) : Prop where
  ek : ∀ c ∈ cs, (encR c.2.2.1).length ≤ 1099511627776
  er : ∀ c ∈ cs, (encR c.2.2.2.1).length ≤ 1099511627776
theorem eqChgs (N : Nat) (xs ys : List DChg) (hx : ESmall xs) (hy : ESmall ys) (hN : xs.length < N) (hB : N ≤ 1099511627776) : F_stemref2_EqualChanges N (xs, (ys, ())) = some ((decide (xs = ys), ()), ()) := by
  have h : F_slices_EqualFunc_api_Change N (xs, (ys, ((fun x0 => (omap (fun y1 : ((Bool × Unit) × Unit) => (y1.1.1, ())) (F_stemref2_EqualChanges_1 N (x0.1, (x0.2.1, ()))))), ()))) = some ((decide (xs = ys), ()), ()) :=
    eqChgForm N xs ys _ (fun a ha b hb => by
      simp only [F_stemref2_EqualChanges_1, encode_eq N _ (hx.ek a ha), encode_eq N _ (hx.er a ha), encode_eq N _ (hy.ek b hb), encode_eq N _ (hy.er b hb), oSome_some, oGet_some, Bool.or_true, Bool.and_self, cond_true, omap_def, Option.map_some, encEq, eqS_dec, eqI_dec, chg_eq]) hN hB
  simp only [F_stemref2_EqualChanges, h, oSome_some, oGet_some, cond_true]

/-! ## Conflicts -/
def confB (s : D_api_Schema) (d c : DChg) : Bool := sameB s d c && (decide (d.1 ≠ c.1) || !decide (d.2.2.2.1 = c.2.2.2.1))
def refB (s : D_api_Schema) (c d : DChg) : Bool := sameB s c d && !decide (c = d)
theorem conf_ref {s : D_api_Schema} {c d : DChg} (hc : vChg s c = 0) (hd : vChg s d = 0) : confB s d c = refB s c d := by
  have kinds : ∀ {c : DChg}, vChg s c = 0 → (c.1 = 1 → c.2.2.1 = []) ∧ (c.1 = 1 ∨ c.1 = 2) := fun {c} h => by
    unfold vChg at h
    split at h
    · cases h
    rename_i hb
    have hb : badK c = false := by simpa using hb
    unfold badK at hb
    simp only [Bool.or_eq_false_iff, Bool.and_eq_false_iff, decide_eq_false_iff_not, Bool.not_eq_false', decide_eq_true_eq] at hb
    refine ⟨fun h1 => ?_, ?_⟩
    · rcases hb.1.1 with h2 | h2
      · exact absurd h1 h2
      · exact List.length_eq_zero_iff.1 (by omega)
    · exact hb.2
  obtain ⟨c1, c2⟩ := kinds hc
  obtain ⟨d1, d2⟩ := kinds hd
  have sym : sameB s d c = sameB s c d := by
    unfold sameB
    rw [decide_eq_decide.2 (eq_comm (a := d.2.1)), decide_eq_decide.2 (eq_comm (a := tgtS s d))]
  unfold confB refB
  rw [sym]
  cases hs : sameB s c d with
  | false => rfl
  | true =>
    unfold sameB at hs
    simp only [Bool.and_eq_true, decide_eq_true_eq] at hs
    obtain ⟨h1, h2⟩ := hs
    have key : (¬ d.1 ≠ c.1 ∧ d.2.2.2.1 = c.2.2.2.1) ↔ c = d := by
      constructor
      · rintro ⟨k1, k2⟩
        have k1 : d.1 = c.1 := by omega
        have k3 : c.2.2.1 = d.2.2.1 := by
          rcases c2 with q | q
          · rw [c1 q, d1 (by omega)]
          · unfold tgtS tgtT at h2
            rw [if_neg (by omega), if_neg (by omega)] at h2
            exact h2
        obtain ⟨a1, a2, a3, a4, ⟨⟩⟩ := c
        obtain ⟨b1, b2, b3, b4, ⟨⟩⟩ := d
        simp only at k1 k2 k3 h1
        subst k1; subst k2; subst k3; subst h1
        rfl
      · rintro rfl
        exact ⟨fun h => h rfl, rfl⟩
    by_cases hq : c = d
    · obtain ⟨k1, k2⟩ := key.2 hq
      simp [hq]
    · have : ¬ (¬ d.1 ≠ c.1 ∧ d.2.2.2.1 = c.2.2.2.1) := fun h => hq (key.1 h)
      simp only [hq, decide_false, Bool.not_false, Bool.and_true, Bool.true_and]
      by_cases k1 : d.1 = c.1
      · have k2 : ¬ d.2.2.2.1 = c.2.2.2.1 := fun h => this ⟨fun h2 => h2 k1, h⟩
        simp [k2]
      · simp [k1]
theorem conf1_eq (N : Nat) (s : D_api_Schema) (d c : DChg) {t : D_api_Table} (ht : tabS s c.2.1 = t) (hN : t.2.2.1.length < N) (h1 : d.2.2.1.length < N) (h2 : c.2.2.1.length < N) (h3 : d.2.2.2.1.length < N) (hB : N ≤ 1099511627776) : F_change_Conflicts_1 N (d, (c, (t, ()))) = some ((confB s d c, ()), ()) := by
  have hl := tgt_len (c := d) hN h1
  have ec : tgtS s c = tgtT t c := by unfold tgtS; rw [ht]
  simp only [F_change_Conflicts_1, target_eq N t d hN h1 hB, target_eq N t c hN h2 hB, oSome_some, oGet_some, equalVal N _ _ hl (by omega), equalVal N d.2.2.2.1 c.2.2.2.1 h3 (by omega), Bool.or_true, Bool.and_self, cond_true, eqS_dec, neI_dec, confB, sameB, ne_eq, decide_not]
  by_cases hq : d.2.1 = c.2.1
  · have el : tgtS s d = tgtT t d := by unfold tgtS; rw [hq, ht]
    rw [ec, el]
  · simp [hq]
theorem conflicts_eq (N : Nat) (s : D_api_Schema) (xa xb A B : List DChg) (hs : SSmall N s) (ha : CSmall N s xa) (hb : CSmall N s xb) (hva : vComp s xa = 0) (hvb : vComp s xb = 0)
    (fA : F_change_Compact N (s, (xa, ())) = some ((A, (0, ())), ())) (fB : F_change_Compact N (s, (xb, ())) = some ((B, (0, ())), ())) (mA : ∀ c ∈ A, c ∈ xa) (mB : ∀ c ∈ B, c ∈ xb) (lA : A.length ≤ xa.length) (lB : B.length ≤ xb.length) :
    F_change_Conflicts N (s, (xa, (xb, ()))) = some ((A.any (fun c => B.any (fun d => confB s d c)), (0, ())), ()) := by
  have hn := hs.sm.n
  have hna := ha.n
  have hnb := hb.n
  obtain ⟨h0, halla⟩ := comp_all hva
  simp only [F_change_Conflicts, letJ_def, fA, fB, oSome_some, oGet_some, cond_true, neF (rfl : (0 : Int) = 0), cond_false]
  refine (iterF_first (S := Int × Unit) (fun i => ((i : Int), ())) A.length (anyE (fun c => B.any (fun d => confB s d c)) () A) (fun _ => some ((true, (0, ())), ())) (some ((false, (0, ())), ())) rfl (fun i hi _ ih => ?_) (fun _ ih => ?_) (by omega)).trans ?_
  · have hm := mA _ (List.getElem_mem hi)
    simp only [lt_len hi, inB_len hi, cond_true, lget_at _ hi, iadd_nat (show i < 4611686018427387904 by omega), anyE, List.getElem?_eq_getElem hi]
    generalize A[i] = c at *
    obtain ⟨q, t, hq, a1, a2, a3, a4, a5⟩ := valid_tab (halla c hm)
    have ht := hs.tab (tabOf_some a2)
    have g : ∀ d, lget s.1 ((q : Nat) : Int) d = t := fun d => by rw [lget_at _ hq, a3]
    have hcon : F_slices_ContainsFunc_api_Change N (B, ((fun x6 => (omap (fun y7 : ((Bool × Unit) × Unit) => (y7.1.1, ())) (F_change_Conflicts_1 N (x6.1, (c, (t, ())))))), ())) = some ((B.any (fun d => confB s d c), ()), ()) :=
      containsChg_eq N _ (fun d => confB s d c) _ (fun d hd => by
        simp only [conf1_eq N s d c a5 ht.k (hb.key d (mB d hd)) (ha.key c hm) (hb.row d (mB d hd)) hn, omap_def, Option.map_some]) (by omega) hn
    simp only [findTable_eq N s c.2.1 hs.sm.t hn, a1, oSome_some, oGet_some, Option.getD_some, cond_true, inB_len hq, g, hcon]
    by_cases hz : B.any (fun d => confB s d c) = true <;> simp [hz]
  · simp only
    rw [cond_neg (nlt_len (Nat.lt_irrefl _))]
  · rw [anyE_first]
    cases A.any (fun c => B.any (fun d => confB s d c)) <;> rfl

/-! ## The law -/
abbrev TChg : Ty := .pair (.int .i64) (.pair .str (.pair (.slice TVal) (.pair (.slice TVal) .unit)))
theorem chg_bulk (c : DChg) : TChg.bulk c = 1 + (c.2.1.length + 1 + ((c.2.2.1.map TVal.bulk).sum + 1 + ((c.2.2.2.1.map TVal.bulk).sum + 1 + 1))) := by
  obtain ⟨c1, c2, c3, c4, ⟨⟩⟩ := c; rfl
theorem rowEnc {r : Row'} (hg : ∀ v ∈ r, TVal.good v) (hb : (r.map TVal.bulk).sum ≤ 1048576) : (encR r).length ≤ 1099511627776 := by
  have h3 := rlen r
  exact encR_small (a := r.length) (b := 1048576 - r.length) (Nat.le_refl _) (by omega) fun v hv => ⟨hg v hv, by have := row_bulk r v hv; omega⟩
theorem csmall_of {s : D_api_Schema} {cs : List DChg} (hg : (Ty.slice TChg).good cs) (hb : TSch.bulk s + (Ty.slice TChg).bulk cs ≤ 1048577) : CSmall 5000000 s cs := by
  have e : (Ty.slice TChg).bulk cs = (cs.map TChg.bulk).sum + 1 := rfl
  have hl := sum_len TChg.bulk cs fun x _ => bulk_pos TChg x
  have hone : ∀ c ∈ cs, TChg.bulk c ≤ (cs.map TChg.bulk).sum := fun c hc => sum_mem TChg.bulk hc
  have good : ∀ c ∈ cs, (∀ v ∈ c.2.2.1, TVal.good v) ∧ ∀ v ∈ c.2.2.2.1, TVal.good v := fun c hc => by
    have h := hg.2 c hc
    obtain ⟨c1, c2, c3, c4, ⟨⟩⟩ := c
    exact ⟨h.2.2.1.2, h.2.2.2.1.2⟩
  refine ⟨by omega, fun c hc => ?_, fun c hc => ?_, fun c hc => ?_, fun c hc => ?_, fun c hc t ht => ?_, fun c hc => ?_⟩
  · have := hone c hc; rw [chg_bulk] at this; have := rlen c.2.2.1; omega
  · have := hone c hc; rw [chg_bulk] at this; have := rlen c.2.2.2.1; omega
  · have := hone c hc; rw [chg_bulk] at this; exact rowEnc (good c hc).1 (by omega)
  · have := hone c hc; rw [chg_bulk] at this; exact rowEnc (good c hc).2 (by omega)
  · have h1 := hone c hc
    rw [chg_bulk] at h1
    unfold tgtT
    split
    · have h2 : TTab.bulk t ≤ TSch.bulk s := by
        obtain ⟨x, y, z, ⟨⟩⟩ := s
        rw [sch_bulk]
        have := sum_mem TTab.bulk ht
        simp only at this
        omega
      refine encR_small (a := TTab.bulk t) (b := (c.2.2.2.1.map TVal.bulk).sum) (by rw [keyC_len, tab_bulk, ints_bulk]; omega) (by omega) fun v hv => ?_
      obtain ⟨i, _, rfl⟩ := List.mem_map.1 hv
      rcases cellV_mem c.2.2.2.1 i with hm | hm
      · exact ⟨(good c hc).2 _ hm, by have := row_bulk c.2.2.2.1 _ hm; omega⟩
      · rw [hm]; exact ⟨⟨has_zero, has_zero, Nat.zero_le _, trivial⟩, Nat.zero_le _⟩
    · exact rowEnc (good c hc).1 (by omega)
  · have := hone c hc; rw [chg_bulk] at this; omega
theorem SSmall.mono {N M : Nat} {s : D_api_Schema} (h : SSmall N s) (hNM : N ≤ M) (hM : M ≤ 1099511627776) : SSmall M s := by
  obtain ⟨⟨_, t, f, c, tc, tk, fc, tn, cn⟩, m⟩ := h
  exact ⟨⟨hM, by omega, by omega, by omega, fun x hx => Nat.lt_of_lt_of_le (tc x hx) hNM, fun x hx => Nat.lt_of_lt_of_le (tk x hx) hNM, fun x hx => Nat.lt_of_lt_of_le (fc x hx) hNM, fun x hx => Nat.lt_of_lt_of_le (tn x hx) hNM, fun x hx y hy => Nat.lt_of_lt_of_le (cn x hx y hy) hNM⟩, by omega⟩
theorem CSmall.enc {N : Nat} {s : D_api_Schema} {cs xs : List DChg} (h : CSmall N s cs) (hx : ∀ c ∈ xs, c ∈ cs) : ESmall xs :=
  ⟨fun c hc => h.ek c (hx c hc), fun c hc => h.er c (hx c hc)⟩
theorem comp_any (N : Nat) (s : D_api_Schema) (cs : List DChg) (hs : SSmall N s) (hid : ∀ f ∈ s.2.1, (fkC f).length ≤ 1099511627776) (hc : CSmall N s cs) :
    ∃ out, F_change_Compact N (s, (cs, ())) = some ((out, (vComp s cs, ())), ()) ∧ F_stemlaw2_compact N (s, (cs, ())) = some ((out, (vComp s cs, ())), ()) ∧ out.length ≤ cs.length ∧ ∀ c ∈ out, c ∈ cs := by
  by_cases h : vComp s cs = 0
  · obtain ⟨out, h1, h2, h3, h4⟩ := compOk N s cs hs hid hc h
    rw [h]
    exact ⟨out, h1, h2, h3, h4⟩
  · obtain ⟨h1, h2⟩ := compErr N s cs hs hid hc h
    exact ⟨[], h1, h2, Nat.zero_le _, fun c hc => by cases hc⟩
theorem confErr (N : Nat) (s : D_api_Schema) (xa xb A B : List DChg) (fA : F_change_Compact N (s, (xa, ())) = some ((A, (vComp s xa, ())), ())) (fB : F_change_Compact N (s, (xb, ())) = some ((B, (vComp s xb, ())), ())) :
    (vComp s xa ≠ 0 → F_change_Conflicts N (s, (xa, (xb, ()))) = some ((false, (vComp s xa, ())), ())) ∧ (vComp s xa = 0 → vComp s xb ≠ 0 → F_change_Conflicts N (s, (xa, (xb, ()))) = some ((false, (vComp s xb, ())), ())) := by
  refine ⟨fun h => ?_, fun h h2 => ?_⟩
  · simp only [F_change_Conflicts, letJ_def, fA, oSome_some, oGet_some, cond_true, neT h]
  · simp only [F_change_Conflicts, letJ_def, fA, fB, oSome_some, oGet_some, cond_true, neF h, cond_false, neT h2]
theorem law28 (x : D_api_Schema × (List DChg × (List DChg × Unit))) (hg : goodAll [T_api_Schema, .slice T_api_Change, .slice T_api_Change] x) (hb : bulkAll [T_api_Schema, .slice T_api_Change, .slice T_api_Change] x ≤ 1048576) : ∃ N z, F_stemlaw2_ChangeCompactMatchesReference N x = some ((true, ()), z) := by
  obtain ⟨s, xa, xb, ⟨⟩⟩ := x
  have gs : TSch.good s := hg.1
  have ga : (Ty.slice TChg).good xa := hg.2.1
  have gb : (Ty.slice TChg).good xb := hg.2.2.1
  have hb' : TSch.bulk s + ((Ty.slice TChg).bulk xa + ((Ty.slice TChg).bulk xb + 0)) ≤ 1048576 := hb
  have ss := (ssmall_of (s := s) (by omega)).mono (M := 5000000) (by omega) (by omega)
  have ca := csmall_of (s := s) ga (by omega)
  have cb := csmall_of (s := s) gb (by omega)
  have gf : ∀ f ∈ s.2.1, TFk.good f := by
    obtain ⟨a, b, c, ⟨⟩⟩ := s
    exact gs.2.1.2
  have bf : ∀ f ∈ s.2.1, TFk.bulk f ≤ 1048576 := fun f hf => by
    obtain ⟨a, b, c, ⟨⟩⟩ := s
    rw [sch_bulk] at hb'
    have := sum_mem TFk.bulk hf
    simp only at this
    omega
  obtain ⟨N, hNe⟩ : ∃ N, N = 5000000 := ⟨_, rfl⟩
  rw [← hNe] at ss ca cb
  have hn := ss.sm.n
  have hid : ∀ f ∈ s.2.1, (fkC f).length ≤ 1099511627776 := fun f hf => by have := fkC_len (gf f hf); have := bf f hf; omega
  refine ⟨N, (), ?_⟩
  have hna := ca.n
  have hnb := cb.n
  obtain ⟨A, a1, a2, a3, a4⟩ := comp_any N s xa ss hid ca
  obtain ⟨B, b1, b2, b3, b4⟩ := comp_any N s xb ss hid cb
  have eA := ca.enc a4
  have eB := cb.enc b4
  have f1 := eqChgs N A A eA eA (by omega) hn
  have l1 : ∀ k : Int, eqI k k = true := fun k => eqT rfl
  have l2 : ∀ k : Int, neI k k = false := fun k => neF rfl
  obtain ⟨c1, c2⟩ := confErr N s xa xb A B a1 b1
  by_cases ha : vComp s xa ≠ 0
  · simp only [F_stemlaw2_ChangeCompactMatchesReference, letJ_def, a1, a2, b2, c1 ha, oSome_some, oGet_some, cond_true, l2, f1, decide_true, Bool.not_true, Bool.or_self, Bool.or_true, cond_false, neT ha, l1, Bool.not_false, Bool.and_self]
  replace ha : vComp s xa = 0 := by omega
  by_cases hv : vComp s xb ≠ 0
  · simp only [F_stemlaw2_ChangeCompactMatchesReference, letJ_def, a1, a2, b2, c2 ha hv, oSome_some, oGet_some, cond_true, l2, f1, decide_true, Bool.not_true, Bool.or_self, Bool.or_true, cond_false, neF ha, neT hv, l1, Bool.not_false, Bool.and_self]
  replace hv : vComp s xb = 0 := by omega
  obtain ⟨_, halla⟩ := comp_all ha
  obtain ⟨_, hallb⟩ := comp_all hv
  rw [ha] at a1 a2
  rw [hv] at b1 b2
  have c3 := conflicts_eq N s xa xb A B ss ca cb ha hv a1 b1 a4 b4 a3 b3
  simp only [F_stemlaw2_ChangeCompactMatchesReference, letJ_def, a1, a2, b2, c3, oSome_some, oGet_some, cond_true, l2, f1, decide_true, Bool.not_true, Bool.or_self, Bool.or_true, cond_false, l1, Bool.true_and]
  refine iterF_run (S := Bool × (Int × Unit)) (fun i => ((A.take i).any (fun c => B.any (fun d => refB s c d)), ((i : Int), ()))) A.length _ (by simp) (fun i hi ih => ?_) (fun ih => ?_) (by omega)
  · have hm := a4 _ (List.getElem_mem hi)
    rw [take_snoc hi, List.any_append]
    simp only [lt_len hi, inB_len hi, cond_true, lget_at _ hi, iadd_nat (show i < 4611686018427387904 by omega), List.any_cons, List.any_nil, Bool.or_false]
    generalize A[i] = c at *
    generalize (A.take i).any (fun c => B.any (fun d => refB s c d)) = w
    refine iterF_run (S := Bool × (Int × Unit)) (fun j => (w || (B.take j).any (fun d => refB s c d), ((j : Int), ()))) B.length _ (by simp) (fun j hj ih2 => ?_) (fun ih2 => ?_) (by omega)
    · have hmj := b4 _ (List.getElem_mem hj)
      rw [take_snoc hj, List.any_append]
      simp only [lt_len hj, inB_len hj, cond_true, lget_at _ hj, iadd_nat (show j < 4611686018427387904 by omega), List.any_cons, List.any_nil, Bool.or_false]
      generalize B[j] = d at *
      obtain ⟨q, t, hq, p1, p2, p3, p4, p5⟩ := valid_tab (halla c hm)
      obtain ⟨q', u, hq', r1, r2, r3, r4, r5⟩ := valid_tab (hallb d hmj)
      have k1 : tgtS s c = tgtT t c := by rw [tgtS, p5]
      have k2 : tgtS s d = tgtT u d := by rw [tgtS, r5]
      have g1 := ca.et c hm t (tabOf_some p2)
      have g2 := cb.et d hmj u (tabOf_some r2)
      rw [← k1] at g1
      rw [← k2] at g2
      have e1 : ESmall [c] := ⟨fun x hx => by rw [List.mem_singleton.1 hx]; exact ca.ek c hm, fun x hx => by rw [List.mem_singleton.1 hx]; exact ca.er c hm⟩
      have e2 : ESmall [d] := ⟨fun x hx => by rw [List.mem_singleton.1 hx]; exact cb.ek d hmj, fun x hx => by rw [List.mem_singleton.1 hx]; exact cb.er d hmj⟩
      have f2 := eqChgs N [c] [d] e1 e2 (by simp; omega) hn
      have f3 : decide ([c] = [d]) = decide (c = d) := decide_eq_decide.2 (by simp)
      simp only [affected_eq N s c ss p2, affected_eq N s d ss r2, encode_eq N _ g1, encode_eq N _ g2, f2, f3, oSome_some, oGet_some, Bool.or_true, Bool.and_self, cond_true, eqS_dec, encEq]
      have hrb : refB s c d = ((decide (c.2.1 = d.2.1) && decide (tgtS s c = tgtS s d)) && !decide (c = d)) := rfl
      rw [hrb, Bool.or_assoc]
    · simp only
      rw [cond_neg (nlt_len (Nat.lt_irrefl _)), List.take_length]
  · simp only
    rw [cond_neg (nlt_len (Nat.lt_irrefl _)), List.take_length]
    have e : (A.any (fun c => B.any (fun d => confB s d c))) = A.any (fun c => B.any (fun d => refB s c d)) := by
      rw [Bool.eq_iff_iff, List.any_eq_true, List.any_eq_true]
      constructor
      · rintro ⟨c, hc, h⟩
        obtain ⟨d, hd, h⟩ := List.any_eq_true.1 h
        exact ⟨c, hc, List.any_eq_true.2 ⟨d, hd, by rw [← conf_ref (halla c (a4 c hc)) (hallb d (b4 d hd))]; exact h⟩⟩
      · rintro ⟨c, hc, h⟩
        obtain ⟨d, hd, h⟩ := List.any_eq_true.1 h
        exact ⟨c, hc, List.any_eq_true.2 ⟨d, hd, by rw [conf_ref (halla c (a4 c hc)) (hallb d (b4 d hd))]; exact h⟩⟩
    rw [e, eqB_dec]
    simp

end
end Go.Proofs.YtjjfjgpjbhjpfaaGreatDoor
