/- Changes: validity, targets. -/
import Derived.Test.YtjjfjgpjbhjpfaaGreatDoorLaw
import Derived.Test.YtjjfjgpjbhjpfaaGreatDoorViSrt
set_option linter.unusedVariables false
set_option linter.unusedSimpArgs false
set_option linter.unnecessarySimpa false
set_option linter.unusedSectionVars false
set_option linter.unusedSimpArgs false
set_option maxRecDepth 100000
namespace Go.Proofs.YtjjfjgpjbhjpfaaGreatDoor
open Go.Vi
noncomputable section

abbrev DChg : Type := Int × (List UInt8 × (Row' × (Row' × Unit)))
def keyE (t : D_api_Table) (key : Row') (i : Nat) : Option Int := match key[i]? with
  | none => none
  | some v => if vVal v ≠ 0 then some (vVal v) else if v.1 ≠ (lget t.2.1 (lget t.2.2.1 (i : Int) 0) colD).2.1 then some 7 else none
def vKey (t : D_api_Table) (key : Row') : Int := if key.length ≠ t.2.2.1.length then 3 else match firstE (keyE t key) key.length with
  | some e => e
  | none => 0
def badK (c : DChg) : Bool := ((decide (c.1 = 1) && decide (0 < c.2.2.1.length)) || (decide (c.1 = 2) && decide (0 < c.2.2.2.1.length))) || (!decide (c.1 = 1) && !decide (c.1 = 2))
def vChg (s : D_api_Schema) (c : DChg) : Int := if badK c = true then 3 else match tabOf s c.2.1 with
  | none => 4
  | some t => if c.1 = 1 then vRow t c.2.2.2.1 else vKey t c.2.2.1
theorem pos_dec {α : Type} (xs : List α) : ltI 0 (lenI xs) = decide (0 < xs.length) := gt_dec xs 0
theorem schKey_eq (N : Nat) (t : D_api_Table) (key : Row') (hk : ∀ k ∈ t.2.2.1, 0 ≤ k ∧ k < (t.2.1.length : Int)) (hN : key.length < N) (hB : N ≤ 1099511627776) : F_change_validateKey N (t, (key, ())) = some ((vKey t key, ()), ()) := by
  simp only [F_change_validateKey, letJ_def, ne_len, cond_dec]
  unfold vKey
  by_cases h0 : key.length ≠ t.2.2.1.length
  · rw [if_pos h0, if_pos h0]
  rw [if_neg h0, if_neg h0]
  have hl : key.length = t.2.2.1.length := by omega
  refine (iterF_first (S := Int × Unit) (fun i => ((i : Int), ())) key.length (keyE t key) (fun e => some ((e, ()), ())) (some ((0, ()), ())) rfl (fun i hi _ ih => ?_) (fun _ ih => ?_) hN).trans ?_
  · have hip : i < t.2.2.1.length := by omega
    obtain ⟨c1, c2⟩ := hk _ (List.getElem_mem hip)
    have b3 : inB (t.2.2.1[i]) (lenI t.2.1) = true := by rw [inB_dec, lenI_def]; simp; omega
    simp only [lt_len hi, inB_len hi, cond_true, lget_at _ hi, inB_len hip, lget_at _ hip, b3, schVal_eq, oSome_some, oGet_some, Bool.and_self, iadd_nat (show i < 4611686018427387904 by omega), keyE, List.getElem?_eq_getElem hi, neI_dec, ← decide_not, cond_dec, colD]
    by_cases h1 : vVal key[i] = 0
    · simp only [h1, not_true_eq_false, ne_eq, if_false]
      split <;> rfl
    · simp only [h1, not_false_eq_true, ne_eq, if_true]
  · simp only
    rw [cond_neg (nlt_len (Nat.lt_irrefl _))]
  · cases firstE (keyE t key) key.length <;> rfl
theorem schChg_eq (N : Nat) (s : D_api_Schema) (c : DChg) (hs : SSmall N s) (hk : KeysIn s) (h1 : c.2.2.1.length < N) (h2 : c.2.2.2.1.length < N) : F_change_Validate N (s, (c, ())) = some ((vChg s c, ()), ()) := by
  have hn := hs.sm.n
  have e0 : ((((eqI c.1 1) && (ltI 0 (lenI c.2.2.1))) || ((eqI c.1 2) && (ltI 0 (lenI c.2.2.2.1)))) || ((neI c.1 1) && (neI c.1 2))) = badK c := by
    simp only [eqI_dec, neI_dec, pos_dec, badK]
  simp only [F_change_Validate, letJ_def, e0, findTable_eq N s c.2.1 hs.sm.t hn, oSome_some, oGet_some, cond_true]
  unfold vChg
  by_cases hb : badK c = true
  · rw [if_pos hb, hb]; rfl
  rw [if_neg hb, cond_neg (by simpa using hb)]
  rcases tabOf_idx s c.2.1 with ⟨g1, g2⟩ | ⟨i, t, g1, g2, hi, g3⟩
  · simp only [g1, g2, Option.isSome_none, Bool.not_false, cond_true]
  · have hm := tabOf_some g2
    simp only [g1, g2, Option.isSome_some, Option.getD_some, Bool.not_true, cond_false, inB_len hi, g3, schRow_eq N t _ h2 hn, schKey_eq N t _ (hk t hm) h1 hn, oSome_some, oGet_some, Bool.and_self, cond_true, eqI_dec, cond_dec]
    split <;> rfl
theorem refChg_eq (N : Nat) (s : D_api_Schema) (c : DChg) (hs : SSmall N s) (hk : KeysIn s) (h1 : c.2.2.1.length < N) (h2 : c.2.2.2.1.length < N) : F_stemref2_ValidateChange N (s, (c, ())) = some ((vChg s c, ()), ()) := by
  have hn := hs.sm.n
  have e0 : ((((neI c.1 1) && (neI c.1 2)) || ((eqI c.1 1) && (ltI 0 (lenI c.2.2.1)))) || ((eqI c.1 2) && (ltI 0 (lenI c.2.2.2.1)))) = badK c := by
    simp only [eqI_dec, neI_dec, pos_dec, badK]
    rw [Bool.or_assoc, Bool.or_comm]
  simp only [F_stemref2_ValidateChange, letJ_def, e0, refFind_eq N s c.2.1 hs.sm.t hn, oSome_some, oGet_some, cond_true]
  unfold vChg
  by_cases hb : badK c = true
  · rw [if_pos hb, hb]; rfl
  rw [if_neg hb, cond_neg (by simpa using hb)]
  rcases tabOf_idx s c.2.1 with ⟨g1, g2⟩ | ⟨i, t, g1, g2, hi, g3⟩
  · simp only [g2, oSome_none, Bool.not_false, cond_true]
  · have hm := tabOf_some g2
    simp only [g2, oSome_some, oGet_some, Bool.not_true, cond_false, refRow_eq N t _ h2 hn, Bool.and_self, cond_true, eqI_dec, cond_dec, Bool.true_and]
    by_cases hq : c.1 = 1
    · rw [if_pos hq, if_pos hq]
    rw [if_neg hq, if_neg hq]
    simp only [ne_len, cond_dec]
    unfold vKey
    generalize c.2.2.1 = key at *
    by_cases h0 : key.length ≠ t.2.2.1.length
    · rw [if_pos h0, if_pos h0]
    rw [if_neg h0, if_neg h0]
    have hl : key.length = t.2.2.1.length := by omega
    refine (iterF_first (S := Int × Unit) (fun i => ((i : Int), ())) key.length (keyE t key) (fun e => some ((e, ()), ())) (some ((0, ()), ())) rfl (fun i hi _ ih => ?_) (fun _ ih => ?_) h1).trans ?_
    · have hip : i < t.2.2.1.length := by omega
      obtain ⟨c1, c2⟩ := hk t hm _ (List.getElem_mem hip)
      have b3 : inB (t.2.2.1[i]) (lenI t.2.1) = true := by rw [inB_dec, lenI_def]; simp; omega
      simp only [lt_len hi, inB_len hi, cond_true, lget_at _ hi, inB_len hip, lget_at _ hip, b3, refVal_eq, oSome_some, oGet_some, Bool.and_self, iadd_nat (show i < 4611686018427387904 by omega), keyE, List.getElem?_eq_getElem hi, neI_dec, ← decide_not, cond_dec, colD]
      by_cases h1 : vVal key[i] = 0
      · simp only [h1, not_true_eq_false, ne_eq, if_false]
        split <;> rfl
      · simp only [h1, not_false_eq_true, ne_eq, if_true]
    · simp only
      rw [cond_neg (nlt_len (Nat.lt_irrefl _))]
    · cases firstE (keyE t key) key.length <;> rfl

/-! ## Targets -/
def tgtT (t : D_api_Table) (c : DChg) : Row' := if c.1 = 1 then keyC t.2.2.1 c.2.2.2.1 else c.2.2.1
def tgtS (s : D_api_Schema) (c : DChg) : Row' := tgtT (tabS s c.2.1) c
theorem target_eq (N : Nat) (t : D_api_Table) (c : DChg) (hN : t.2.2.1.length < N) (h1 : c.2.2.1.length < N) (hB : N ≤ 1099511627776) : F_change_target N (t, (c, ())) = some ((tgtT t c, ()), ()) := by
  simp only [F_change_target, key_eq N t _ hN hB, clone_row N c.2.2.1 (by omega), oSome_some, oGet_some, cond_true, eqI_dec, cond_dec, tgtT]
  split <;> rfl
theorem affected_eq (N : Nat) (s : D_api_Schema) (c : DChg) (hs : SSmall N s) {t : D_api_Table} (ht : tabOf s c.2.1 = some t) : F_stemref2_AffectedKey N (s, (c, ())) = some ((tgtS s c, ()), ()) := by
  have hn := hs.sm.n
  have e : tabS s c.2.1 = t := by unfold tabS; rw [ht]; rfl
  simp only [F_stemref2_AffectedKey, letJ_def, refFind_eq N s c.2.1 hs.sm.t hn, ht, oSome_some, oGet_some, cond_true, keyOf_eq N t _ (hs.tab (tabOf_some ht)).k hn, Bool.and_true, Bool.and_self, eqI_dec, cond_dec, tgtS, tgtT, e]
  split <;> rfl

/-! ## Compact -/
structure CSmall (N : Nat) (s : D_api_Schema) (cs : List DChg) : Prop where
  n : 2 * cs.length + 100 < N
  key : ∀ c ∈ cs, c.2.2.1.length < N
  row : ∀ c ∈ cs, c.2.2.2.1.length < N
  ek : ∀ c ∈ cs, (encR c.2.2.1).length ≤ 1099511627776
  er : ∀ c ∈ cs, (encR c.2.2.2.1).length ≤ 1099511627776
  et : ∀ c ∈ cs, ∀ t ∈ s.1, (encR (tgtT t c)).length ≤ 1099511627776
  nm : ∀ c ∈ cs, c.2.1.length ≤ 1048576
def chgE (s : D_api_Schema) (cs : List DChg) (i : Nat) : Option Int := match cs[i]? with
  | none => none
  | some c => if vChg s c ≠ 0 then some (vChg s c) else none
def vComp (s : D_api_Schema) (cs : List DChg) : Int := if vSch s ≠ 0 then vSch s else match firstE (chgE s cs) cs.length with
  | some e => e
  | none => 0
def sameB (s : D_api_Schema) (a b : DChg) : Bool := decide (a.2.1 = b.2.1) && decide (tgtS s a = tgtS s b)
def keepP (s : D_api_Schema) (cs : List DChg) : Nat → List DChg
  | 0 => []
  | n + 1 => keepP s cs n ++ (match cs[n]? with
    | none => []
    | some c => if (cs.drop (n + 1)).any (fun l => sameB s l c) = true then [] else [c])
theorem keepP_succ {s : D_api_Schema} {cs : List DChg} {i : Nat} (hi : i < cs.length) : keepP s cs (i + 1) = keepP s cs i ++ (if (cs.drop (i + 1)).any (fun l => sameB s l cs[i]) = true then [] else [cs[i]]) := by
  simp only [keepP, List.getElem?_eq_getElem hi]
theorem keepP_len (s : D_api_Schema) (cs : List DChg) : (n : Nat) → (keepP s cs n).length ≤ n
  | 0 => by simp [keepP]
  | n + 1 => by
    have ih := keepP_len s cs n
    simp only [keepP, List.length_append]
    split
    · simp; omega
    · split
      · simp; omega
      · simp; omega
theorem keepP_mem (s : D_api_Schema) (cs : List DChg) : (n : Nat) → ∀ c ∈ keepP s cs n, c ∈ cs
  | 0, c, h => by simp [keepP] at h
  | n + 1, c, h => by
    simp only [keepP, List.mem_append] at h
    rcases h with h | h
    · exact keepP_mem s cs n c h
    · split at h
      · cases h
      · rename_i x hx
        obtain ⟨hi, rfl⟩ := List.getElem?_eq_some_iff.1 hx
        split at h
        · cases h
        · rw [List.mem_singleton.1 h]; exact List.getElem_mem hi
theorem valid_tab {s : D_api_Schema} {c : DChg} (h : vChg s c = 0) : ∃ (i : Nat) (t : D_api_Table) (hi : i < s.1.length), idxE (isTab c.2.1) s.1 = some i ∧ tabOf s c.2.1 = some t ∧ s.1[i] = t ∧ t.1 = c.2.1 ∧ tabS s c.2.1 = t := by
  rcases tabOf_idx s c.2.1 with ⟨g1, g2⟩ | ⟨i, t, g1, g2, hi, g3⟩
  · unfold vChg at h
    rw [g2] at h
    split at h <;> cases h
  · have e : s.1[i] = t := by have := g3 tabD; rwa [lget_at _ hi] at this
    obtain ⟨hj, k1, _⟩ := idxE_some g1
    refine ⟨i, t, hi, g1, g2, e, ?_, by unfold tabS; rw [g2]; rfl⟩
    rw [← e]
    simpa [isTab] using k1
theorem containsChg_eq (N : Nat) (φ : (DChg × Unit) → Option (Bool × Unit)) (q : DChg → Bool) (cs : List DChg) (hφ : ∀ a ∈ cs, φ (a, ()) = some (q a, ())) (hN : cs.length < N) (hB : N ≤ 1099511627776) : F_slices_ContainsFunc_api_Change N (cs, (φ, ())) = some ((cs.any q, ()), ()) := by
  have e : F_slices_IndexFunc_api_Change N (cs, (φ, ())) = some ((idxI q cs, ()), ()) := indexFunc_form φ q cs hφ ((0, (([] : List UInt8), (([] : Row'), (([] : Row'), ())))) : DChg) N hN (by omega)
  simp only [F_slices_ContainsFunc_api_Change, e, oSome_some, oGet_some, cond_true, leI_idx, idxE_any]
theorem tgt_len {N : Nat} {t : D_api_Table} {c : DChg} (hN : t.2.2.1.length < N) (h1 : c.2.2.1.length < N) : (tgtT t c).length < N := by
  unfold tgtT
  split
  · rw [keyC_len]; exact hN
  · exact h1
theorem compact1_eq (N : Nat) (s : D_api_Schema) (l c : DChg) {t : D_api_Table} (ht : tabS s c.2.1 = t) (hN : t.2.2.1.length < N) (h1 : l.2.2.1.length < N) (h2 : c.2.2.1.length < N) (hB : N ≤ 1099511627776) : F_change_Compact_1 N (l, (c, (t, ()))) = some ((sameB s l c, ()), ()) := by
  have hl := tgt_len (c := l) hN h1
  simp only [F_change_Compact_1, target_eq N t l hN h1 hB, target_eq N t c hN h2 hB, oSome_some, oGet_some, equalVal N _ _ hl (by omega), Bool.or_true, Bool.and_self, cond_true, eqS_dec, sameB]
  have ec : tgtS s c = tgtT t c := by unfold tgtS; rw [ht]
  by_cases hq : l.2.1 = c.2.1
  · have el : tgtS s l = tgtT t l := by unfold tgtS; rw [hq, ht]
    rw [ec, el]
  · simp [hq]
abbrev zChg : DChg := (0, (([] : List UInt8), (([] : Row'), (([] : Row'), ()))))
abbrev phiC (N : Nat) (s : D_api_Schema) : (DChg × (DChg × Unit)) → Option (Int × Unit) := fun x5 => (omap (fun y6 : ((Int × Unit) × Unit) => (y6.1.1, ())) (F_change_Compact_2 N (x5.1, (x5.2.1, (s, ())))))
abbrev psiC (N : Nat) (s : D_api_Schema) : (DChg × (DChg × Unit)) → Option (Int × Unit) := fun x5 => (omap (fun y6 : ((Int × Unit) × Unit) => (y6.1.1, ())) (F_stemref2_CompactChanges_2 N (x5.1, (x5.2.1, (s, ())))))
theorem alikeC (N : Nat) (s : D_api_Schema) (cs : List DChg) (hs : SSmall N s) (hv : Valid s) (hc : CSmall N s cs) (hall : ∀ c ∈ cs, vChg s c = 0) : Go.Vi.Alike (fun c => c ∈ cs) (phiC N s) (psiC N s) := fun a b ha hb => by
  have hn := hs.sm.n
  have hst := hs.sm.t
  obtain ⟨i, t, hi, a1, a2, a3, a4, a5⟩ := valid_tab (hall a ha)
  obtain ⟨k, u, hk, b1, b2, b3, b4, b5⟩ := valid_tab (hall b hb)
  have ht := hs.tab (tabOf_some a2)
  have hu := hs.tab (tabOf_some b2)
  have less : ∀ (i k : Nat) (hi : i < s.1.length) (hk : k < s.1.length), i < k → bless (s.1[i]).1 (s.1[k]).1 = true := fun i k hi hk h => List.pairwise_iff_getElem.1 hv.names i k hi hk h
  simp only [phiC, psiC, F_change_Compact_2, F_stemref2_CompactChanges_2, letJ_def, findTable_eq N s a.2.1 hst hn, findTable_eq N s b.2.1 hst hn, a1, b1, oSome_some, oGet_some, Option.getD_some, cond_true]
  rcases Nat.lt_trichotomy i k with h | h | h
  · have e1 : neI ((i : Nat) : Int) ((k : Nat) : Int) = true := neT (by omega)
    have e2 : isub .i64 ((i : Nat) : Int) ((k : Nat) : Int) = (i : Int) - k := isub64 (by omega) (by omega)
    have e3 : bless a.2.1 b.2.1 = true := by have := less i k hi hk h; rwa [a3, b3, a4, b4] at this
    simp only [e1, e2, e3, cond_true, omap_def, Option.map_some]
    exact ⟨_, _, rfl, rfl, by constructor <;> intro _ <;> omega⟩
  · subst h
    have hut : u = t := by rw [← a3, ← b3]
    subst hut
    have e1 : neI ((i : Nat) : Int) ((i : Nat) : Int) = false := neF rfl
    have e4 : a.2.1 = b.2.1 := by rw [← a4, ← b4]
    have e3 : bless a.2.1 b.2.1 = false := by rw [e4, bless_irr]
    have e5 : eqS a.2.1 b.2.1 = true := by rw [eqS_dec]; simp [e4]
    have l1 := tgt_len (t := u) (c := a) ht.k (hc.key a ha)
    have g : ∀ d, lget s.1 ((i : Nat) : Int) d = u := fun d => by rw [lget_at _ hi, a3]
    have t1 : tgtS s a = tgtT u a := by rw [tgtS, a5]
    have t2 : tgtS s b = tgtT u b := by rw [tgtS, b5]
    simp only [e1, e3, e5, cond_false, Bool.or_true, Bool.not_true, inB_len hi, g, target_eq N u a ht.k (hc.key a ha) hn, target_eq N u b ht.k (hc.key b hb) hn, oSome_some, oGet_some, Bool.and_self, cond_true, compareRows_eq N (tgtT u a) (tgtT u b) l1 hn, affected_eq N s a hs a2, affected_eq N s b hs b2, t1, t2, compareRowsR_eq N (tgtT u a) (tgtT u b) l1 hn, omap_def, Option.map_some]
    exact ⟨_, _, rfl, rfl, Iff.rfl⟩
  · have e1 : neI ((i : Nat) : Int) ((k : Nat) : Int) = true := neT (by omega)
    have e2 : isub .i64 ((i : Nat) : Int) ((k : Nat) : Int) = (i : Int) - k := isub64 (by omega) (by omega)
    have e3' : bless b.2.1 a.2.1 = true := by have := less k i hk hi h; rwa [a3, b3, a4, b4] at this
    have e3 : bless a.2.1 b.2.1 = false := by
      cases hq : bless a.2.1 b.2.1 with
      | false => rfl
      | true =>
        have := bless_trans hq e3'
        rw [bless_irr] at this
        cases this
    have e5 : eqS a.2.1 b.2.1 = false := by
      rw [eqS_dec]
      refine decide_eq_false fun q => ?_
      rw [q, bless_irr] at e3'
      cases e3'
    simp only [e1, e2, e3, e5, cond_true, cond_false, Bool.or_self, Bool.not_false, omap_def, Option.map_some]
    exact ⟨_, _, rfl, rfl, by constructor <;> intro _ <;> omega⟩
theorem sort_eq (N : Nat) (x : List DChg × (((DChg × (DChg × Unit)) → Option (Int × Unit)) × Unit)) : F_slices_SortStableFunc_api_Change N x = srtAll zChg N x := rfl
theorem chgE_code (s : D_api_Schema) (cs : List DChg) : ∀ i e, chgE s cs i = some e → e ≠ 0 := fun i e h => by
  unfold chgE at h
  split at h
  · cases h
  split at h
  · rename_i hv; injection h with h; subst h; exact hv
  · cases h
theorem comp_all {s : D_api_Schema} {cs : List DChg} (h : vComp s cs = 0) : vSch s = 0 ∧ ∀ c ∈ cs, vChg s c = 0 := by
  unfold vComp at h
  by_cases h0 : vSch s ≠ 0
  · rw [if_pos h0] at h; exact absurd h h0
  rw [if_neg h0] at h
  obtain ⟨h1, _⟩ := firstE_code (chgE_code s cs) h
  refine ⟨by omega, fun c hc => ?_⟩
  obtain ⟨i, hi, rfl⟩ := List.getElem_of_mem hc
  have := firstE_none h1 i hi
  simp only [chgE, List.getElem?_eq_getElem hi] at this
  split at this
  · cases this
  · rename_i hv; simpa using hv
theorem chg_first (s : D_api_Schema) (cs : List DChg) {i : Nat} (hi : i < cs.length) : chgE s cs i = if vChg s cs[i] ≠ 0 then some (vChg s cs[i]) else none := by
  simp only [chgE, List.getElem?_eq_getElem hi]
theorem compErr (N : Nat) (s : D_api_Schema) (cs : List DChg) (hs : SSmall N s) (hid : ∀ f ∈ s.2.1, (fkC f).length ≤ 1099511627776) (hc : CSmall N s cs) (h : vComp s cs ≠ 0) :
    F_change_Compact N (s, (cs, ())) = some ((([] : List DChg), (vComp s cs, ())), ()) ∧ F_stemlaw2_compact N (s, (cs, ())) = some ((([] : List DChg), (vComp s cs, ())), ()) := by
  have hn := hs.sm.n
  have hcl := hc.n
  simp only [F_change_Compact, F_stemlaw2_compact, letJ_def, schSch_eq N s hs, refSch_eq N s hs hid, oSome_some, oGet_some, cond_true]
  unfold vComp at h ⊢
  by_cases h0 : vSch s ≠ 0
  · rw [if_pos h0, neT h0]
    exact ⟨rfl, rfl⟩
  rw [if_neg h0] at h ⊢
  rw [neF (by omega : vSch s = 0), cond_false, cond_false]
  have hv := valid_of (s := s) (by omega)
  have hk := keysIn_of hv.tabs
  cases hf : firstE (chgE s cs) cs.length with
  | none => rw [hf] at h; exact absurd rfl h
  | some e =>
    constructor
    · refine (iterF_first (S := Int × Unit) (fun i => ((i : Int), ())) cs.length (chgE s cs) (fun e => some ((([] : List DChg), (e, ())), ())) none rfl (fun i hi _ ih => ?_) (fun hq _ => by rw [hf] at hq; cases hq) (by omega)).trans (by rw [hf])
      have hm := List.getElem_mem hi
      simp only [lt_len hi, inB_len hi, cond_true, lget_at _ hi, iadd_nat (show i < 4611686018427387904 by omega), schChg_eq N s _ hs hk (hc.key _ hm) (hc.row _ hm), oSome_some, oGet_some, chg_first s cs hi]
      by_cases h1 : vChg s cs[i] ≠ 0
      · rw [if_pos h1, neT h1]; rfl
      · rw [if_neg h1, neF (by omega : vChg s cs[i] = 0)]; rfl
    · refine (iterF_first (S := Int × Unit) (fun i => ((i : Int), ())) cs.length (chgE s cs) (fun e => some ((([] : List DChg), (e, ())), ())) none rfl (fun i hi _ ih => ?_) (fun hq _ => by rw [hf] at hq; cases hq) (by omega)).trans (by rw [hf])
      have hm := List.getElem_mem hi
      simp only [lt_len hi, inB_len hi, cond_true, lget_at _ hi, iadd_nat (show i < 4611686018427387904 by omega), refChg_eq N s _ hs hk (hc.key _ hm) (hc.row _ hm), oSome_some, oGet_some, chg_first s cs hi]
      by_cases h1 : vChg s cs[i] ≠ 0
      · rw [if_pos h1, neT h1]; rfl
      · rw [if_neg h1, neF (by omega : vChg s cs[i] = 0)]; rfl

/-! ## The reference's ids -/
def idC (s : D_api_Schema) (c : DChg) : List UInt8 := c.2.1 ++ [47] ++ encR (tgtS s c)
theorem slash_inj : (a b x y : List UInt8) → (∀ c ∈ a, c ≠ 47) → (∀ c ∈ b, c ≠ 47) → a ++ [47] ++ x = b ++ [47] ++ y → a = b ∧ x = y
  | [], [], x, y, _, _, h => ⟨rfl, by simpa using h⟩
  | [], b :: bs, x, y, _, hb, h => by
    simp only [List.nil_append, List.cons_append, List.cons.injEq] at h
    exact absurd h.1.symm (hb b List.mem_cons_self)
  | a :: ar, [], x, y, ha, _, h => by
    simp only [List.nil_append, List.cons_append, List.cons.injEq] at h
    exact absurd h.1 (ha a List.mem_cons_self)
  | a :: ar, b :: bs, x, y, ha, hb, h => by
    simp only [List.cons_append, List.cons.injEq] at h
    obtain ⟨h1, h2⟩ := slash_inj ar bs x y (fun c hc => ha c (List.mem_cons_of_mem _ hc)) (fun c hc => hb c (List.mem_cons_of_mem _ hc)) h.2
    exact ⟨by rw [h.1, h1], h2⟩
theorem Valid.nameOk {s : D_api_Schema} (h : Valid s) {t : D_api_Table} (ht : t ∈ s.1) : nameOk t.1 = true := by
  obtain ⟨i, hi, rfl⟩ := List.getElem_of_mem ht
  have := firstE_none h.tabs i hi
  simp only [tabL, List.getElem?_eq_getElem hi] at this
  split at this
  · cases this
  rename_i hv
  have hv : vTab s.1[i] = 0 := by simpa using hv
  unfold vTab at hv
  split at hv
  · cases hv
  · rename_i hq; simpa using hq
theorem noSlash {n : List UInt8} (h : nameOk n = true) : ∀ c ∈ n, c ≠ 47 := fun c hc e => by
  subst e
  unfold nameOk at h
  split at h
  · cases h
  · rename_i c0 r
    simp only [Bool.and_eq_true, List.all_eq_true] at h
    rcases List.mem_cons.1 hc with rfl | hc
    · have := h.2.1; revert this; decide
    · have := h.2.2 _ hc; revert this; decide
theorem id_iff {s : D_api_Schema} (hv : Valid s) {a b : DChg} (ha : vChg s a = 0) (hb : vChg s b = 0) : idC s a = idC s b ↔ sameB s a b = true := by
  obtain ⟨i, t, hi, a1, a2, a3, a4, a5⟩ := valid_tab ha
  obtain ⟨k, u, hk, b1, b2, b3, b4, b5⟩ := valid_tab hb
  have na := noSlash (hv.nameOk (tabOf_some a2))
  have nb := noSlash (hv.nameOk (tabOf_some b2))
  rw [a4] at na
  rw [b4] at nb
  unfold idC sameB
  simp only [Bool.and_eq_true, decide_eq_true_eq]
  constructor
  · intro h
    obtain ⟨h1, h2⟩ := slash_inj _ _ _ _ na nb h
    exact ⟨h1, encR_inj h2⟩
  · rintro ⟨h1, h2⟩
    rw [h1, h2]
def putM (ks : List (List UInt8)) : Nat → List (List UInt8 × Int)
  | 0 => []
  | n + 1 => match ks[n]? with
    | none => putM ks n
    | some k => mput (putM ks n) k (n : Int)
def lastI (ks : List (List UInt8)) (k : List UInt8) : Nat → Int
  | 0 => 0
  | n + 1 => if ks[n]? = some k then (n : Int) else lastI ks k n
theorem mget_putM (ks : List (List UInt8)) (k : List UInt8) : (n : Nat) → mget (putM ks n) k 0 = lastI ks k n
  | 0 => by simp only [putM, lastI, mget_nil]
  | n + 1 => by
    simp only [putM, lastI]
    cases h : ks[n]? with
    | none => simp only [mget_putM ks k n]; rw [if_neg (by simp)]
    | some k' =>
      simp only [mget_mput, mget_putM ks k n]
      by_cases hq : k' = k
      · rw [if_pos hq, if_pos (by rw [hq])]
      · rw [if_neg hq, if_neg (fun e => hq (Option.some.inj e))]
theorem lastI_iff (ks : List (List UInt8)) {i : Nat} {k : List UInt8} (hi : ks[i]? = some k) : (m : Nat) → (lastI ks k (i + 1 + m) = (i : Int) ↔ ∀ j, i < j → j < i + 1 + m → ks[j]? ≠ some k)
  | 0 => by
    simp only [Nat.add_zero, lastI, hi, if_true, true_iff]
    intro j h1 h2; omega
  | m + 1 => by
    have ih := lastI_iff ks hi m
    rw [show i + 1 + (m + 1) = (i + 1 + m) + 1 by omega]
    simp only [lastI]
    by_cases hq : ks[i + 1 + m]? = some k
    · rw [if_pos hq]
      constructor
      · intro h; omega
      · intro h; exact absurd hq (h _ (by omega) (by omega))
    · rw [if_neg hq, ih]
      constructor
      · intro h j h1 h2
        by_cases hj : j = i + 1 + m
        · rw [hj]; exact hq
        · exact h j h1 (by omega)
      · intro h j h1 h2
        exact h j h1 (by omega)
theorem last_keep {s : D_api_Schema} {cs : List DChg} (hv : Valid s) (hall : ∀ c ∈ cs, vChg s c = 0) {i : Nat} (hi : i < cs.length) : eqI (mget (putM (cs.map (idC s)) cs.length) (idC s cs[i]) 0) (i : Int) = !((cs.drop (i + 1)).any (fun l => sameB s l cs[i])) := by
  have hg : (cs.map (idC s))[i]? = some (idC s cs[i]) := by simp [hi]
  obtain ⟨m, hm⟩ : ∃ m, cs.length = i + 1 + m := ⟨cs.length - (i + 1), by omega⟩
  have hl := lastI_iff (cs.map (idC s)) hg m
  rw [← hm] at hl
  rw [mget_putM, eqI_dec]
  cases ha : (cs.drop (i + 1)).any (fun l => sameB s l cs[i]) with
  | false =>
    refine decide_eq_true (hl.2 fun j h1 h2 hq => ?_)
    simp only [List.getElem?_map, List.getElem?_eq_getElem h2, Option.map_some, Option.some.injEq] at hq
    have hs := (id_iff hv (hall _ (List.getElem_mem h2)) (hall _ (List.getElem_mem hi))).1 hq
    rw [List.any_eq_false] at ha
    refine ha _ ?_ hs
    rw [List.mem_iff_getElem]
    exact ⟨j - (i + 1), by rw [List.length_drop]; omega, by rw [List.getElem_drop]; congr 1; omega⟩
  | true =>
    refine decide_eq_false fun hq => ?_
    obtain ⟨l, hm2, hs⟩ := List.any_eq_true.1 ha
    obtain ⟨j, hj, rfl⟩ := List.getElem_of_mem hm2
    rw [List.length_drop] at hj
    rw [List.getElem_drop] at hs
    refine hl.1 hq (i + 1 + j) (by omega) (by omega) ?_
    simp only [List.getElem?_map, List.getElem?_eq_getElem (show i + 1 + j < cs.length by omega), Option.map_some, Option.some.injEq]
    exact (id_iff hv (hall _ (List.getElem_mem _)) (hall _ (List.getElem_mem hi))).2 hs
theorem idC_eq (N : Nat) (s : D_api_Schema) (cs : List DChg) (hs : SSmall N s) (hc : CSmall N s cs) {c : DChg} (hm : c ∈ cs) (hv : vChg s c = 0) : F_stemref2_CompactChanges_1 N (c, (s, ())) = some ((idC s c, ()), ()) := by
  obtain ⟨i, t, hi, a1, a2, a3, a4, a5⟩ := valid_tab hv
  have he := hc.et c hm t (tabOf_some a2)
  have ht : tgtS s c = tgtT t c := by rw [tgtS, a5]
  have hnm := hc.nm c hm
  have r1 : room2 (lenI c.2.1) (lenI ([47] : List UInt8)) 1 = true := room2_ok (by simp; omega)
  have r2 : room2 (lenI (c.2.1 ++ ([47] : List UInt8))) (lenI (encR (tgtT t c))) 1 = true := room2_ok (by simp; omega)
  simp only [F_stemref2_CompactChanges_1, affected_eq N s c hs a2, ht, encode_eq N _ he, oSome_some, oGet_some, r1, r2, Bool.and_self, cond_true, lapp_def, idC]
theorem compOk (N : Nat) (s : D_api_Schema) (cs : List DChg) (hs : SSmall N s) (hid : ∀ f ∈ s.2.1, (fkC f).length ≤ 1099511627776) (hc : CSmall N s cs) (h : vComp s cs = 0) :
    ∃ out, F_change_Compact N (s, (cs, ())) = some ((out, (0, ())), ()) ∧ F_stemlaw2_compact N (s, (cs, ())) = some ((out, (0, ())), ()) ∧ out.length ≤ cs.length ∧ ∀ c ∈ out, c ∈ cs := by
  have hn := hs.sm.n
  have hcl := hc.n
  obtain ⟨h0, hall⟩ := comp_all h
  have hv := valid_of h0
  have hk := keysIn_of hv.tabs
  have hlen := keepP_len s cs cs.length
  obtain ⟨out, s1, s2, s3, s4⟩ := srtAll_ok zChg (alikeC N s cs hs hv hc hall) (ys := keepP s cs cs.length) (N := N) (by omega) (by omega) (keepP_mem s cs cs.length)
  refine ⟨out, ?_, ?_, by omega, s4⟩
  · simp only [F_change_Compact, letJ_def, schSch_eq N s hs, h0, oSome_some, oGet_some, cond_true, neF (rfl : (0 : Int) = 0), cond_false]
    refine iterF_run (S := Int × Unit) (fun i => ((i : Int), ())) cs.length _ rfl (fun i hi ih => ?_) (fun ih => ?_) (by omega)
    · have hm := List.getElem_mem hi
      simp only [lt_len hi, inB_len hi, cond_true, lget_at _ hi, iadd_nat (show i < 4611686018427387904 by omega), schChg_eq N s _ hs hk (hc.key _ hm) (hc.row _ hm), hall _ hm, oSome_some, oGet_some, neF (rfl : (0 : Int) = 0), cond_false]
    · simp only
      rw [cond_neg (nlt_len (Nat.lt_irrefl _))]
      refine iterF_run (S := List DChg × (Int × Unit)) (fun i => (keepP s cs i, ((i : Int), ()))) cs.length _ rfl (fun i hi ih => ?_) (fun ih => ?_) (by omega)
      · have hm := List.getElem_mem hi
        have hkl := keepP_len s cs i
        rw [keepP_succ hi]
        have el : lslice cs (((i + 1 : Nat)) : Int) (lenI cs) = cs.drop (i + 1) := by rw [lslice_def, lenI_def]; simp
        have ei := inS_from (xs := cs) (i := i + 1) (by omega)
        simp only [lt_len hi, inB_len hi, cond_true, lget_at _ hi, iadd_nat (show i < 4611686018427387904 by omega), el, ei]
        generalize hce : cs[i] = c at *
        obtain ⟨q, t, hq, a1, a2, a3, a4, a5⟩ := valid_tab (hall c hm)
        have ht := hs.tab (tabOf_some a2)
        have g : ∀ d, lget s.1 ((q : Nat) : Int) d = t := fun d => by rw [lget_at _ hq, a3]
        have hcon : F_slices_ContainsFunc_api_Change N (cs.drop (i + 1), ((fun x6 => (omap (fun y7 : ((Bool × Unit) × Unit) => (y7.1.1, ())) (F_change_Compact_1 N (x6.1, (c, (t, ())))))), ())) = some (((cs.drop (i + 1)).any (fun l => sameB s l c), ()), ()) :=
          containsChg_eq N _ (fun l => sameB s l c) _ (fun a ha => by
            simp only [compact1_eq N s a c a5 ht.k (hc.key a (List.mem_of_mem_drop ha)) (hc.key c hm) hn, omap_def, Option.map_some]) (by rw [List.length_drop]; omega) hn
        have r1 : room2 (lenI (keepP s cs i)) (lenI ([(c.1, (c.2.1, (c.2.2.1, (c.2.2.2.1, ()))))] : List DChg)) 72 = true := room2_ok (by simp; omega)
        have hk1 := hc.key c hm
        have hk2 := hc.row c hm
        simp only [findTable_eq N s c.2.1 hs.sm.t hn, a1, oSome_some, oGet_some, Option.getD_some, cond_true, inB_len hq, g, hcon, Bool.and_self, clone_row N c.2.2.1 (by omega), clone_row N c.2.2.2.1 (by omega), r1, lapp_def]
        cases (cs.drop (i + 1)).any (fun l => sameB s l c) with
        | true => simp only [Bool.not_true, cond_false, cond_true, if_true, List.append_nil]
        | false => simp only [Bool.not_false, cond_true, Bool.false_eq_true, if_false]
      · simp only
        rw [cond_neg (nlt_len (Nat.lt_irrefl _))]
        have s1' : F_slices_SortStableFunc_api_Change N (keepP s cs cs.length, ((fun x5 => (omap (fun y6 : ((Int × Unit) × Unit) => (y6.1.1, ())) (F_change_Compact_2 N (x5.1, (x5.2.1, (s, ())))))), ())) = some ((), (out, ())) := s1
        simp only [s1', oSome_some, oGet_some, cond_true]
  · have hcc : F_stemref2_CompactChanges N (s, (cs, ())) = some ((out, ()), ()) := by
      simp only [F_stemref2_CompactChanges, letJ_def]
      refine iterF_run (S := List (List UInt8 × Int) × (Int × Unit)) (fun i => (putM (cs.map (idC s)) i, ((i : Int), ()))) cs.length _ rfl (fun i hi ih => ?_) (fun ih => ?_) (by omega)
      · have hm := List.getElem_mem hi
        have hp : putM (cs.map (idC s)) (i + 1) = mput (putM (cs.map (idC s)) i) (idC s cs[i]) (i : Int) := by
          simp only [putM, List.getElem?_map, List.getElem?_eq_getElem hi, Option.map_some]
        rw [hp]
        simp only [lt_len hi, inB_len hi, cond_true, lget_at _ hi, iadd_nat (show i < 4611686018427387904 by omega), idC_eq N s cs hs hc hm (hall _ hm), omap_def, Option.map_some, oSome_some, oGet_some]
      · simp only
        rw [cond_neg (nlt_len (Nat.lt_irrefl _))]
        refine iterF_run (S := List (List UInt8 × Int) × (List DChg × (Int × Unit))) (fun i => (putM (cs.map (idC s)) cs.length, (keepP s cs i, ((i : Int), ())))) cs.length _ rfl (fun i hi ih => ?_) (fun ih => ?_) (by omega)
        · have hm := List.getElem_mem hi
          have hkl := keepP_len s cs i
          have hlk := last_keep hv hall hi
          rw [keepP_succ hi]
          have r1 : room2 (lenI (keepP s cs i)) (lenI ([cs[i]] : List DChg)) 72 = true := room2_ok (by simp; omega)
          simp only [lt_len hi, inB_len hi, cond_true, lget_at _ hi, iadd_nat (show i < 4611686018427387904 by omega), idC_eq N s cs hs hc hm (hall _ hm), omap_def, Option.map_some, oSome_some, oGet_some, hlk, r1, lapp_def]
          cases (cs.drop (i + 1)).any (fun l => sameB s l cs[i]) with
          | true => simp only [Bool.not_true, cond_false, cond_true, if_true, List.append_nil]
          | false => simp only [Bool.not_false, cond_true, Bool.false_eq_true, if_false]
        · simp only
          rw [cond_neg (nlt_len (Nat.lt_irrefl _))]
          have s2' : F_slices_SortStableFunc_api_Change N (keepP s cs cs.length, ((fun x5 => (omap (fun y6 : ((Int × Unit) × Unit) => (y6.1.1, ())) (F_stemref2_CompactChanges_2 N (x5.1, (x5.2.1, (s, ())))))), ())) = some ((), (out, ())) := s2
          simp only [s2', oSome_some, oGet_some, cond_true]
    simp only [F_stemlaw2_compact, letJ_def, refSch_eq N s hs hid, h0, oSome_some, oGet_some, cond_true, neF (rfl : (0 : Int) = 0), cond_false]
    refine iterF_run (S := Int × Unit) (fun i => ((i : Int), ())) cs.length _ rfl (fun i hi ih => ?_) (fun ih => ?_) (by omega)
    · have hm := List.getElem_mem hi
      simp only [lt_len hi, inB_len hi, cond_true, lget_at _ hi, iadd_nat (show i < 4611686018427387904 by omega), refChg_eq N s _ hs hk (hc.key _ hm) (hc.row _ hm), hall _ hm, oSome_some, oGet_some, neF (rfl : (0 : Int) = 0), cond_false]
    · simp only
      rw [cond_neg (nlt_len (Nat.lt_irrefl _))]
      simp only [hcc, oSome_some, oGet_some, cond_true]

end
end Go.Proofs.YtjjfjgpjbhjpfaaGreatDoor
