/- Rows and relations: comparisons, keys, searches. -/
import Derived.Test.YtpnklahcegahiaaDoorFnsD
import Derived.Test.YtpnklahcegahiaaDoorViEnc
set_option linter.unusedVariables false
set_option linter.unusedSimpArgs false
set_option linter.unnecessarySimpa false
set_option linter.unusedSectionVars false
set_option linter.unusedSimpArgs false
set_option maxRecDepth 100000
namespace Go.Proofs.YtpnklahcegahiaaDoor
open Go.Vi
noncomputable section

theorem cb_cases (a b : List UInt8) : Lib.compareBytes a b = -1 ∨ Lib.compareBytes a b = 0 ∨ Lib.compareBytes a b = 1 := by
  induction a generalizing b with
  | nil => cases b <;> simp [Lib.compareBytes]
  | cons x a ih => cases b with
    | nil => simp [Lib.compareBytes]
    | cons y b =>
      simp only [Lib.compareBytes]
      split
      · simp
      · split
        · simp
        · exact ih b
theorem cb_swap (a b : List UInt8) : Lib.compareBytes b a = - Lib.compareBytes a b := by
  induction a generalizing b with
  | nil => cases b <;> simp [Lib.compareBytes]
  | cons x a ih => cases b with
    | nil => simp [Lib.compareBytes]
    | cons y b =>
      simp only [Lib.compareBytes]
      by_cases h1 : x < y
      · have h2 : ¬ y < x := fun h => by have := UInt8.lt_iff_toNat_lt.1 h; have := UInt8.lt_iff_toNat_lt.1 h1; omega
        simp [h1, h2]
      · by_cases h2 : y < x
        · simp [h1, h2]
        · simp [h1, h2, ih b]
theorem cb_zero (a b : List UInt8) : Lib.compareBytes a b = 0 ↔ a = b := by
  induction a generalizing b with
  | nil => cases b <;> simp [Lib.compareBytes]
  | cons x a ih => cases b with
    | nil => simp [Lib.compareBytes]
    | cons y b =>
      simp only [Lib.compareBytes]
      by_cases h1 : x < y
      · have : x ≠ y := fun e => by subst e; have := UInt8.lt_iff_toNat_lt.1 h1; omega
        simp [h1, this]
      · by_cases h2 : y < x
        · have : x ≠ y := fun e => by subst e; have := UInt8.lt_iff_toNat_lt.1 h2; omega
          simp [h1, h2, this]
        · have : x = y := UInt8.toNat_inj.1 (by
            have h1 : ¬ x.toNat < y.toNat := fun h => h1 (UInt8.lt_iff_toNat_lt.2 h)
            have h2 : ¬ y.toNat < x.toNat := fun h => h2 (UInt8.lt_iff_toNat_lt.2 h)
            omega)
          simp [h1, h2, ih b, this]
theorem bless_cb (a b : List UInt8) : bless a b = decide (Lib.compareBytes a b < 0) := by
  rw [bless_def]
  induction a generalizing b with
  | nil => cases b <;> simp [Lib.compareBytes, Op.bytesLess]
  | cons x a ih => cases b with
    | nil => simp [Lib.compareBytes, Op.bytesLess]
    | cons y b =>
      simp only [Lib.compareBytes, Op.bytesLess]
      by_cases h1 : x < y
      · simp [h1]
      · by_cases h2 : y < x
        · have : x ≠ y := fun e => by subst e; have := UInt8.lt_iff_toNat_lt.1 h2; omega
          simp [h1, h2, this]
        · have : x = y := UInt8.toNat_inj.1 (by
            have h1 : ¬ x.toNat < y.toNat := fun h => h1 (UInt8.lt_iff_toNat_lt.2 h)
            have h2 : ¬ y.toNat < x.toNat := fun h => h2 (UInt8.lt_iff_toNat_lt.2 h)
            omega)
          simp [h1, h2, ih b, this]

def ic (x y : Int) : Int := if x < y then -1 else if y < x then 1 else 0
def vc (a b : D_api_Value) : Int := if ic a.1 b.1 ≠ 0 then ic a.1 b.1 else if ic a.2.1 b.2.1 ≠ 0 then ic a.2.1 b.2.1 else Lib.compareBytes a.2.2.1 b.2.2.1

theorem ic_cases (x y : Int) : (x < y ∧ ic x y = -1) ∨ (x = y ∧ ic x y = 0) ∨ (y < x ∧ ic x y = 1) := by
  unfold ic
  split
  · simp [*]
  · split
    · simp [*]
    · have : x = y := by omega
      simp [this]

theorem vc_cases (a b : D_api_Value) : vc a b = -1 ∨ vc a b = 0 ∨ vc a b = 1 := by
  unfold vc
  have h1 := ic_cases a.1 b.1
  have h2 := ic_cases a.2.1 b.2.1
  have h3 := cb_cases a.2.2.1 b.2.2.1
  split
  · omega
  · split
    · omega
    · exact h3
theorem vc_swap (a b : D_api_Value) : vc b a = - vc a b := by
  have s : ∀ x y, ic y x = - ic x y := fun x y => by
    have h1 := ic_cases x y
    have h2 := ic_cases y x
    omega
  unfold vc
  rw [s a.1 b.1, s a.2.1 b.2.1, cb_swap]
  split <;> split <;> first | omega | (split <;> split <;> omega)
theorem vc_zero (a b : D_api_Value) : vc a b = 0 ↔ a = b := by
  obtain ⟨k, n, s, _⟩ := a
  obtain ⟨k', n', s', _⟩ := b
  have h1 := ic_cases k k'
  have h2 := ic_cases n n'
  have h3 := cb_zero s s'
  simp only [vc, Prod.mk.injEq, and_true]
  split
  · rename_i h
    constructor
    · intro h0; exact absurd h0 h
    · rintro ⟨rfl, _⟩; omega
  · split
    · rename_i h
      constructor
      · intro h0; exact absurd h0 h
      · rintro ⟨_, rfl, _⟩; omega
    · rw [h3]
      constructor
      · intro h; exact ⟨by omega, by omega, h⟩
      · exact fun h => h.2.2

theorem compareInts_eq (N : Nat) (x y : Int) : F_value_compareInts N (x, (y, ())) = some ((ic x y, ()), ()) := by
  simp only [F_value_compareInts, letJ_def, ltI_def, condO, decide_eq_true_eq, ic]
  split
  · rfl
  · split <;> rfl
theorem strings_eq (N : Nat) (a b : List UInt8) : F_strings_Compare N (a, (b, ())) = some ((Lib.compareBytes a b, ()), ()) := by
  simp only [F_strings_Compare, F_internal_bytealg_CompareString, letJ_def, oSome_some, oGet_some, cond_true]
theorem compare_eq (N : Nat) (a b : D_api_Value) : F_value_Compare N (a, (b, ())) = some ((vc a b, ()), ()) := by
  simp only [F_value_Compare, letJ_def, compareInts_eq, strings_eq, oSome_some, oGet_some, cond_true, neI_dec, condO, Bool.not_eq_true', decide_eq_false_iff_not, vc]
  split
  · rfl
  · split <;> rfl
theorem less_eq (N : Nat) (a b : D_api_Value) : F_stemref2_LessValue N (a, (b, ())) = some ((decide (vc a b < 0), ()), ()) := by
  simp only [F_stemref2_LessValue, letJ_def, neI_dec, ltI_def, bless_cb]
  have h1 := ic_cases a.1 b.1
  have h2 := ic_cases a.2.1 b.2.1
  by_cases e1 : a.1 = b.1
  · have f1 : ic a.1 b.1 = 0 := by omega
    by_cases e2 : a.2.1 = b.2.1
    · have f2 : ic a.2.1 b.2.1 = 0 := by omega
      have : vc a b = Lib.compareBytes a.2.2.1 b.2.2.1 := by simp [vc, f1, f2]
      simp [e1, e2, this]
    · have f2 : ic a.2.1 b.2.1 ≠ 0 := by omega
      have h3 : vc a b = ic a.2.1 b.2.1 := by simp [vc, f1, f2]
      have h4 : a.2.1 < b.2.1 ↔ vc a b < 0 := by omega
      simp [e1, e2, h4]
  · have f1 : ic a.1 b.1 ≠ 0 := by omega
    have h3 : vc a b = ic a.1 b.1 := by simp [vc, f1]
    have h4 : a.1 < b.1 ↔ vc a b < 0 := by omega
    simp [e1, h4]

/-! ## Rows held against each other -/
abbrev Row' : Type := List D_api_Value
def cmpRow : Row' → Row' → Int
  | [], ys => ic 0 (ys.length : Int)
  | _ :: xs, [] => ic ((xs.length : Int) + 1) 0
  | x :: xs, y :: ys => if vc x y ≠ 0 then vc x y else cmpRow xs ys

theorem ic_add (a b k : Int) : ic (a + k) (b + k) = ic a b := by
  unfold ic
  by_cases h1 : a < b
  · rw [if_pos h1, if_pos (by omega)]
  · rw [if_neg h1, if_neg (by omega)]
    by_cases h2 : b < a
    · rw [if_pos h2, if_pos (by omega)]
    · rw [if_neg h2, if_neg (by omega)]

theorem cmpRow_end (xs ys : Row') (i : Nat) (h : ¬ (i < xs.length ∧ i < ys.length)) (hx : i ≤ xs.length) (hy : i ≤ ys.length) : cmpRow (xs.drop i) (ys.drop i) = ic (xs.length : Int) (ys.length : Int) := by
  by_cases h1 : i < xs.length
  · have h2 : ¬ i < ys.length := fun h2 => h ⟨h1, h2⟩
    rw [List.drop_eq_getElem_cons h1, List.drop_of_length_le (l := ys) (by omega), cmpRow]
    have e1 : ((xs.drop (i + 1)).length : Int) + 1 = (xs.length : Int) + (-(i : Int)) := by rw [List.length_drop]; omega
    have e2 : (0 : Int) = (ys.length : Int) + (-(i : Int)) := by omega
    rw [e1, show ic ((xs.length : Int) + -(i : Int)) 0 = ic ((xs.length : Int) + -(i : Int)) ((ys.length : Int) + -(i : Int)) by rw [← e2], ic_add]
  · rw [List.drop_of_length_le (l := xs) (by omega)]
    rw [cmpRow.eq_def]
    simp only
    have e1 : ((ys.drop i).length : Int) = (ys.length : Int) + (-(i : Int)) := by rw [List.length_drop]; omega
    have e2 : (0 : Int) = (xs.length : Int) + (-(i : Int)) := by omega
    rw [e1, show ic 0 ((ys.length : Int) + -(i : Int)) = ic ((xs.length : Int) + -(i : Int)) ((ys.length : Int) + -(i : Int)) by rw [← e2], ic_add]

theorem compareRows_eq (N : Nat) (xs ys : Row') (hN : xs.length < N) (hB : N ≤ 1099511627776) : F_value_CompareRows N (xs, (ys, ())) = some ((cmpRow xs ys, ()), ()) := by
  simp only [F_value_CompareRows, letJ_def, compareInts_eq, compare_eq, oSome_some, oGet_some, cond_true, Bool.and_true]
  refine iterF_post (S := Int × Unit) (R := (Int × Unit) × Unit) (fun p => xs.length - p.1.toNat) (fun p => ∃ i : Nat, p.1 = (i : Int) ∧ i ≤ xs.length ∧ i ≤ ys.length ∧ cmpRow (xs.drop i) (ys.drop i) = cmpRow xs ys) (fun _ => ((cmpRow xs ys, ()), ())) ?_ N _ ⟨0, rfl, Nat.zero_le _, Nat.zero_le _, rfl⟩ (by simp; omega)
  rintro ih ⟨_, _⟩ ⟨i, rfl, hx, hy, he⟩ hih
  simp only [Int.toNat_natCast] at hih ⊢
  by_cases h : i < xs.length ∧ i < ys.length
  · obtain ⟨h1, h2⟩ := h
    rw [cond_pos (by rw [ltI_def, minI_def, lenI_def, lenI_def]; simp; omega), inB_len h1, inB_len h2, lget_at _ h1, lget_at _ h2]
    simp only [Bool.and_self, cond_true]
    rw [List.drop_eq_getElem_cons h1, List.drop_eq_getElem_cons h2, cmpRow] at he
    by_cases hv : vc xs[i] ys[i] = 0
    · rw [if_neg (fun h => h hv)] at he
      rw [cond_neg (by rw [neI_dec, hv]; rfl), iadd_nat (by omega)]
      exact hih _ ⟨i + 1, rfl, h1, h2, he⟩ (by simp only [Int.toNat_natCast]; omega)
    · rw [if_pos hv] at he
      rw [cond_pos (by rw [neI_dec]; simp [hv]), he]
  · rw [cond_neg (by rw [ltI_def, minI_def, lenI_def, lenI_def]; simp; omega)]
    rw [cmpRow_end xs ys i h hx hy] at he
    rw [lenI_def, lenI_def, he]

theorem compareRowsR_eq (N : Nat) (xs ys : Row') (hN : xs.length < N) (hB : N ≤ 1099511627776) : F_stemref2_CompareRows N (xs, (ys, ())) = some ((cmpRow xs ys, ()), ()) := by
  simp only [F_stemref2_CompareRows, letJ_def, less_eq, oSome_some, oGet_some, cond_true, Bool.and_true]
  refine iterF_post (S := Int × Unit) (R := (Int × Unit) × Unit) (fun p => xs.length - p.1.toNat) (fun p => ∃ i : Nat, p.1 = (i : Int) ∧ i ≤ xs.length ∧ i ≤ ys.length ∧ cmpRow (xs.drop i) (ys.drop i) = cmpRow xs ys) (fun _ => ((cmpRow xs ys, ()), ())) ?_ N _ ⟨0, rfl, Nat.zero_le _, Nat.zero_le _, rfl⟩ (by simp; omega)
  rintro ih ⟨_, _⟩ ⟨i, rfl, hx, hy, he⟩ hih
  simp only [Int.toNat_natCast] at hih ⊢
  by_cases h : i < xs.length ∧ i < ys.length
  · obtain ⟨h1, h2⟩ := h
    rw [lt_len h1, lt_len h2, inB_len h1, inB_len h2, lget_at _ h1, lget_at _ h2]
    simp only [Bool.and_self, cond_true]
    rw [List.drop_eq_getElem_cons h1, List.drop_eq_getElem_cons h2, cmpRow] at he
    have hs := vc_swap xs[i] ys[i]
    rcases vc_cases xs[i] ys[i] with hv | hv | hv
    · rw [if_pos (by omega)] at he
      rw [cond_pos (by rw [hv]; rfl), ← he, hv]
    · rw [if_neg (fun h => h hv)] at he
      rw [cond_neg (by rw [hv]; rfl), cond_neg (by rw [hs, hv]; rfl), iadd_nat (by omega)]
      exact hih _ ⟨i + 1, rfl, h1, h2, he⟩ (by simp only [Int.toNat_natCast]; omega)
    · rw [if_pos (by omega)] at he
      rw [cond_neg (by rw [hv]; rfl), cond_pos (by rw [hs, hv]; rfl), ← he, hv]
  · rw [cond_neg (by
      rw [ltI_def, ltI_def, lenI_def, lenI_def]
      simp only [Bool.and_eq_false_iff, decide_eq_false_iff_not]
      omega)]
    rw [cmpRow_end xs ys i h hx hy] at he
    rw [lenI_def, lenI_def, ← he]
    have := ic_cases (xs.length : Int) (ys.length : Int)
    rcases this with ⟨h1, h2⟩ | ⟨h1, h2⟩ | ⟨h1, h2⟩
    · rw [cond_pos (by rw [ltI_def]; simp; omega), h2]
    · rw [cond_neg (by rw [ltI_def]; simp; omega), cond_neg (by rw [ltI_def]; simp; omega), h2]
    · rw [cond_neg (by rw [ltI_def]; simp; omega), cond_pos (by rw [ltI_def]; simp; omega), h2]

/-! ## Keys -/
abbrev zV : D_api_Value := (0, (0, (([] : List UInt8), ())))
def keyV (row : Row') (i : Int) : D_api_Value := if h : 0 ≤ i ∧ i < (row.length : Int) then row[i.toNat]'(by omega) else zV
def keyC (pk : List Int) (row : Row') : Row' := pk.map (keyV row)
theorem keyC_len (pk : List Int) (row : Row') : (keyC pk row).length = pk.length := by simp [keyC]

theorem keyLoop (N : Nat) (pk : List Int) (row : Row') (hN : pk.length < N) (hb : pk.length ≤ 1099511627776) :
    iterF (S := ((List D_api_Value) × (Int × Unit))) (R := (((List D_api_Value) × Unit) × Unit)) N (fun ih0 => (fun p1 => (bif (ltI p1.2.1 (lenI pk)) then (bif (inB p1.2.1 (lenI pk)) then (letJ ((leI 0 (lget pk p1.2.1 0)) && (ltI (lget pk p1.2.1 0) (lenI row))) (fun y2 => (bif (bif y2 then (inB (lget pk p1.2.1 0) (lenI row)) else true) then (letJ (bif y2 then (lget row (lget pk p1.2.1 0) (0, (0, (([] : List UInt8), ())))) else (0, (0, (([] : List UInt8), ())))) (fun y3 => (bif (room2 (lenI p1.1) (lenI ([y3] : List D_api_Value)) 32) then (ih0 ((lapp p1.1 ([y3] : List D_api_Value)), ((iadd .i64 p1.2.1 1), ()))) else none))) else none))) else none) else (some ((p1.1, ()), ()))))) (([] : List D_api_Value), (0, ())) = some ((keyC pk row, ()), ()) := by
  simp only [letJ_def]
  refine iterF_seq (S := ((List D_api_Value) × (Int × Unit))) (fun i => (keyC (pk.take i) row, ((i : Int), ()))) pk.length _ (by simp [keyC]) (fun i hi ih => ?_) (fun ih => ?_) hN
  · have e1 : keyC (pk.take (i + 1)) row = keyC (pk.take i) row ++ [keyV row pk[i]] := by unfold keyC; rw [take_snoc hi, List.map_append]; rfl
    have e2 : (bif (leI 0 pk[i] && ltI pk[i] (lenI row)) then lget row pk[i] (0, (0, (([] : List UInt8), ()))) else (0, (0, (([] : List UInt8), ())))) = keyV row pk[i] := by
      unfold keyV
      by_cases h : 0 ≤ pk[i] ∧ pk[i] < (row.length : Int)
      · rw [dif_pos h, cond_pos (by rw [leI_def, ltI_def, lenI_def]; simp; exact h)]
        obtain ⟨k, hk⟩ : ∃ k : Nat, pk[i] = (k : Int) := ⟨pk[i].toNat, by omega⟩
        have hk' : k < row.length := by omega
        simp only [hk, Int.toNat_natCast]
        exact lget_at _ hk'
      · rw [dif_neg h, cond_neg (by rw [leI_def, ltI_def, lenI_def]; simp; omega)]
    have e3 : (bif (leI 0 pk[i] && ltI pk[i] (lenI row)) then inB pk[i] (lenI row) else true) = true := by
      cases hc : (leI 0 pk[i] && ltI pk[i] (lenI row)) with
      | false => rfl
      | true =>
        rw [leI_def, ltI_def, lenI_def] at hc
        rw [cond_true, inB_def, lenI_def]
        simpa using hc
    simp only
    rw [cond_pos (lt_len hi), inB_len hi, cond_true, lget_at _ hi, e3, cond_true, e2, cond_pos (room2_ok (by rw [keyC_len, List.length_take]; simp; omega)), iadd_nat (by omega), lapp_def, e1]
  · simp only
    rw [cond_neg (nlt_len (Nat.lt_irrefl _)), List.take_length]

theorem key_eq (N : Nat) (t : D_api_Table) (row : Row') (hN : t.2.2.1.length < N) (hB : N ≤ 1099511627776) : F_relation_Key N (t, (row, ())) = some ((keyC t.2.2.1 row, ()), ()) := keyLoop N t.2.2.1 row hN (by omega)
theorem keyOf_eq (N : Nat) (t : D_api_Table) (row : Row') (hN : t.2.2.1.length < N) (hB : N ≤ 1099511627776) : F_stemref2_KeyOf N (t, (row, ())) = some ((keyC t.2.2.1 row, ()), ()) := by
  have h : F_stemref2_project N (row, (t.2.2.1, ())) = some ((keyC t.2.2.1 row, ()), ()) := keyLoop N t.2.2.1 row hN (by omega)
  simp only [F_stemref2_KeyOf, h, oSome_some, oGet_some, cond_true]

/-! ## Searches -/
def findC (f : Row' → Int) : List Row' → Nat × Bool
  | [] => (0, false)
  | r :: rs => if 0 ≤ f r then (0, decide (f r = 0)) else ((findC f rs).1 + 1, (findC f rs).2)
theorem findC_spec (f : Row' → Int) : (rows : List Row') → (findC f rows).1 ≤ rows.length ∧ ((findC f rows).1 = rows.length → (findC f rows).2 = false) ∧ (∀ r, rows[(findC f rows).1]? = some r → 0 ≤ f r ∧ (findC f rows).2 = decide (f r = 0))
  | [] => ⟨Nat.le_refl _, fun _ => rfl, fun r h => by simp at h⟩
  | r :: rs => by
    have ih := findC_spec f rs
    unfold findC
    split
    · rename_i h
      refine ⟨Nat.zero_le _, fun h => by simp at h, fun q hq => ?_⟩
      simp at hq
      subst hq
      exact ⟨h, rfl⟩
    · refine ⟨by simpa using ih.1, fun h => ih.2.1 (by simpa using h), fun q hq => ih.2.2 q (by simpa using hq)⟩

theorem find_eq (N : Nat) (t : D_api_Table) (rows : List Row') (key : Row') (hN : t.2.2.1.length < N) (hN2 : rows.length < N) (hB : N ≤ 1099511627776) :
    F_relation_Find N (t, (rows, (key, ()))) = some ((((findC (fun r => cmpRow (keyC t.2.2.1 r) key) rows).1 : Int), ((findC (fun r => cmpRow (keyC t.2.2.1 r) key) rows).2, ())), ()) := by
  have hk : ∀ r, F_relation_Key N (t, (r, ())) = some ((keyC t.2.2.1 r, ()), ()) := fun r => key_eq N t r hN hB
  have hc : ∀ r, F_value_CompareRows N (keyC t.2.2.1 r, (key, ())) = some ((cmpRow (keyC t.2.2.1 r) key, ()), ()) := fun r => compareRows_eq N _ _ (by rw [keyC_len]; exact hN) hB
  generalize hf : (fun r => cmpRow (keyC t.2.2.1 r) key) = f
  have hfr : ∀ r, cmpRow (keyC t.2.2.1 r) key = f r := fun r => by rw [← hf]
  simp only [F_relation_Find, letJ_def, hk, hc, hfr, oSome_some, oGet_some, cond_true, Bool.and_self]
  refine iterF_post (S := Int × Unit) (R := (Int × (Bool × Unit)) × Unit) (fun p => rows.length - p.1.toNat) (fun p => ∃ i : Nat, p.1 = (i : Int) ∧ i ≤ rows.length ∧ findC f rows = (i + (findC f (rows.drop i)).1, (findC f (rows.drop i)).2)) (fun _ => ((((findC f rows).1 : Int), ((findC f rows).2, ())), ())) ?_ N _ ⟨0, rfl, Nat.zero_le _, by simp⟩ (by simp; omega)
  rintro ih ⟨_, _⟩ ⟨i, rfl, h2, h3⟩ hih
  simp only [Int.toNat_natCast] at hih ⊢
  by_cases hi : i < rows.length
  · rw [cond_pos (lt_len hi), inB_len hi, cond_true, lget_at _ hi]
    rw [List.drop_eq_getElem_cons hi, findC] at h3
    by_cases h : 0 ≤ f rows[i]
    · rw [if_pos h] at h3
      rw [cond_pos (by rw [leI_def]; simp [h]), h3, eqI_dec]
      simp
    · rw [if_neg h] at h3
      rw [cond_neg (by rw [leI_def]; simp; omega), iadd_nat (by omega)]
      exact hih _ ⟨i + 1, rfl, hi, by rw [h3]; simp; omega⟩ (by simp only [Int.toNat_natCast]; omega)
  · rw [cond_neg (nlt_len hi), lenI_def]
    rw [List.drop_of_length_le (by omega)] at h3
    rw [h3]
    simp [findC]
    omega

theorem indexFunc_eq (N : Nat) (rows : List Row') (f : Row' → Int) (φ : (Row' × Unit) → Option (Bool × Unit)) (hφ : ∀ r, φ (r, ()) = some (decide (0 ≤ f r), ())) (hN2 : rows.length < N) (hB : N ≤ 1099511627776) :
    F_slices_IndexFunc_api_Row N (rows, (φ, ())) = some (((if (findC f rows).1 < rows.length then ((findC f rows).1 : Int) else -1), ()), ()) := by
  simp only [F_slices_IndexFunc_api_Row, letJ_def, hφ, oSome_some, oGet_some, Bool.and_true]
  refine iterF_post (S := Int × Unit) (R := (Int × Unit) × Unit) (fun p => rows.length - p.1.toNat) (fun p => ∃ i : Nat, p.1 = (i : Int) ∧ i ≤ rows.length ∧ findC f rows = (i + (findC f (rows.drop i)).1, (findC f (rows.drop i)).2)) (fun _ => (((if (findC f rows).1 < rows.length then ((findC f rows).1 : Int) else -1), ()), ())) ?_ N _ ⟨0, rfl, Nat.zero_le _, by simp⟩ (by simp; omega)
  rintro ih ⟨_, _⟩ ⟨i, rfl, h2, h3⟩ hih
  simp only [Int.toNat_natCast] at hih ⊢
  by_cases hi : i < rows.length
  · rw [cond_pos (lt_len hi), inB_len hi, cond_true, lget_at _ hi]
    rw [List.drop_eq_getElem_cons hi, findC] at h3
    by_cases h : 0 ≤ f rows[i]
    · rw [if_pos h] at h3
      rw [cond_pos (by simp [h]), h3]
      simp [hi]
    · rw [if_neg h] at h3
      rw [cond_neg (by simp [h]), iadd_nat (by omega)]
      exact hih _ ⟨i + 1, rfl, hi, by rw [h3]; simp; omega⟩ (by simp only [Int.toNat_natCast]; omega)
  · rw [cond_neg (nlt_len hi)]
    rw [List.drop_of_length_le (by omega)] at h3
    rw [h3]
    have : ¬ (i + (findC f []).1 < rows.length) := by simp [findC]; omega
    simp [this]

theorem findKey_eq (N : Nat) (t : D_api_Table) (rows : List Row') (key : Row') (hN : t.2.2.1.length < N) (hN2 : rows.length < N) (hB : N ≤ 1099511627776) :
    F_stemref2_FindKey N (t, (rows, (key, ()))) = some ((((findC (fun r => cmpRow (keyC t.2.2.1 r) key) rows).1 : Int), ((findC (fun r => cmpRow (keyC t.2.2.1 r) key) rows).2, ())), ()) := by
  have hk : ∀ r, F_stemref2_KeyOf N (t, (r, ())) = some ((keyC t.2.2.1 r, ()), ()) := fun r => keyOf_eq N t r hN hB
  have hc : ∀ r, F_stemref2_CompareRows N (keyC t.2.2.1 r, (key, ())) = some ((cmpRow (keyC t.2.2.1 r) key, ()), ()) := fun r => compareRowsR_eq N _ _ (by rw [keyC_len]; exact hN) hB
  have h1 : ∀ r : Row', F_stemref2_FindKey_1 N (r, (t, (key, ()))) = some ((decide (0 ≤ cmpRow (keyC t.2.2.1 r) key), ()), ()) := fun r => by
    simp only [F_stemref2_FindKey_1, hk, hc, oSome_some, oGet_some, cond_true, Bool.and_self, leI_dec]
  have h2 := indexFunc_eq N rows (fun r => cmpRow (keyC t.2.2.1 r) key) (fun x0 => (omap (fun y1 => (y1.1.1, ())) (F_stemref2_FindKey_1 N (x0.1, (t, (key, ())))))) (fun r => by rw [h1 r, omap_def]; rfl) hN2 hB
  simp only [F_stemref2_FindKey, letJ_def]
  rw [h2]
  obtain ⟨s1, s2, s3⟩ := findC_spec (fun r => cmpRow (keyC t.2.2.1 r) key) rows
  generalize findC (fun r => cmpRow (keyC t.2.2.1 r) key) rows = q at *
  obtain ⟨i, b⟩ := q
  simp only at s1 s2 s3
  simp only [oSome_some, oGet_some, cond_true]
  by_cases hi : i < rows.length
  · obtain ⟨s4, s5⟩ := s3 rows[i] (List.getElem?_eq_getElem hi)
    rw [if_pos hi, cond_neg (by rw [ltI_def]; simp), inB_len hi, lget_at _ hi, hk]
    simp only [oSome_some, oGet_some, Bool.and_self, hc, cond_true, eqI_dec, s5]
  · have : i = rows.length := by omega
    rw [if_neg hi, cond_pos (by rw [ltI_def]; rfl), s2 this, lenI_def, this]

/-! ## Lists of rows -/
theorem clone_row (N : Nat) (xs : Row') (h : xs.length ≤ 1099511627776) : F_slices_Clone_api_Value N (xs, ()) = some ((xs, ()), ()) := cloneForm xs 32 (by omega)
theorem clone_rows (N : Nat) (xs : List Row') (h : xs.length ≤ 1099511627776) : F_slices_Clone_api_Row N (xs, ()) = some ((xs, ()), ()) := cloneForm xs 24 (by omega)
theorem relClone_eq (N : Nat) (rows : List Row') (hN : rows.length < N) (hB : N ≤ 1099511627776) (hr : ∀ r ∈ rows, r.length ≤ 1099511627776) : F_relation_Clone N (rows, ()) = some ((rows, ()), ()) := by
  simp only [F_relation_Clone]
  refine iterF_seq (S := ((List Row') × (Int × Unit))) (fun i => (rows.take i, ((i : Int), ()))) rows.length _ (by simp) (fun i hi ih => ?_) (fun ih => ?_) hN
  · simp only
    rw [cond_pos (lt_len hi), inB_len hi, cond_true, lget_at _ hi, clone_row N _ (hr _ (List.getElem_mem hi))]
    simp only [oSome_some, oGet_some, Bool.true_and]
    rw [cond_pos (room2_ok (by rw [List.length_take]; simp; omega)), iadd_nat (by omega), lapp_def, take_snoc hi]
  · simp only
    rw [cond_neg (nlt_len (Nat.lt_irrefl _)), List.take_length]

theorem equalFunc_eq (N : Nat) (xs ys : List Row') (φ : (Row' × (Row' × Unit)) → Option (Bool × Unit)) (hφ : ∀ a ∈ xs, ∀ b ∈ ys, φ (a, (b, ())) = some (decide (a = b), ())) (hN : xs.length < N) (hB : N ≤ 1099511627776) :
    F_slices_EqualFunc_api_Row N (xs, (ys, (φ, ()))) = some ((decide (xs = ys), ()), ()) := by
  simp only [F_slices_EqualFunc_api_Row]
  by_cases hl : xs.length = ys.length
  · rw [cond_neg (by rw [neI_dec, lenI_def, lenI_def, hl]; simp)]
    refine iterF_post (S := Int × Unit) (R := (Bool × Unit) × Unit) (fun p => xs.length - p.1.toNat) (fun p => ∃ i : Nat, p.1 = (i : Int) ∧ i ≤ xs.length ∧ xs.take i = ys.take i) (fun _ => ((decide (xs = ys), ()), ())) ?_ N _ ⟨0, rfl, Nat.zero_le _, by simp⟩ (by simp; omega)
    rintro ih ⟨_, _⟩ ⟨i, rfl, h2, h3⟩ hih
    simp only [Int.toNat_natCast] at hih ⊢
    by_cases hi : i < xs.length
    · have hj : i < ys.length := by omega
      rw [cond_pos (lt_len hi), inB_len hi, inB_len hj, lget_at _ hi, lget_at _ hj, hφ _ (List.getElem_mem hi) _ (List.getElem_mem hj)]
      simp only [oSome_some, oGet_some, cond_true]
      by_cases e : xs[i] = ys[i]
      · rw [cond_neg (by simp [e]), iadd_nat (by omega), hih _ ⟨i + 1, rfl, by omega, by rw [take_snoc hi, take_snoc hj, h3, e]⟩ (by simp only [Int.toNat_natCast]; omega)]
      · rw [cond_pos (by simp [e])]
        have : xs ≠ ys := fun h => e (by subst h; rfl)
        simp [this]
    · rw [cond_neg (nlt_len hi)]
      have e1 : i = xs.length := by omega
      subst e1
      have : xs = ys := by
        have := h3
        rwa [List.take_length, hl, List.take_length] at this
      simp [this]
  · rw [cond_pos (by rw [neI_dec, lenI_def, lenI_def]; simp; omega)]
    have : xs ≠ ys := fun h => hl (by rw [h])
    simp [this]

theorem encode_eq (N : Nat) (r : Row') (h : (encR r).length ≤ 1099511627776) : F_stemref2_Encode N (r, ()) = some ((encR r, ()), ()) := by
  rw [F_stemref2_Encode, if_pos h]
theorem equalRows_eq (N : Nat) (xs ys : List Row') (hN : xs.length < N) (hB : N ≤ 1099511627776) (hx : ∀ r ∈ xs, (encR r).length ≤ 1099511627776) (hy : ∀ r ∈ ys, (encR r).length ≤ 1099511627776) : F_stemref2_EqualRows N (xs, (ys, ())) = some ((decide (xs = ys), ()), ()) := by
  have := equalFunc_eq N xs ys (fun x0 => (omap (fun y1 => (y1.1.1, ())) (F_stemref2_EqualRows_1 N (x0.1, (x0.2.1, ()))))) (fun a ha b hb => by
    simp only [F_stemref2_EqualRows_1, encode_eq N a (hx a ha), encode_eq N b (hy b hb), oSome_some, oGet_some, Bool.and_self, cond_true, eqS_dec, omap_def, Option.map_some]
    by_cases h : a = b
    · simp [h]
    · have : encR a ≠ encR b := fun e => h (encR_inj e)
      simp [h, this]) hN hB
  simp only [F_stemref2_EqualRows, this, oSome_some, oGet_some, cond_true]
theorem equalVal (N : Nat) (xs ys : Row') (hN : xs.length < N) (hb : xs.length ≤ 1099511627776) : F_slices_Equal_api_Value N (xs, (ys, ())) = some ((decide (xs = ys), ()), ()) := by
  simp only [F_slices_Equal_api_Value]
  by_cases hl : xs.length = ys.length
  · rw [cond_neg (by rw [neI_dec, lenI_def, lenI_def, hl]; simp)]
    refine equalLoop (ne := fun (a b : D_api_Value) => !((eqI a.1 b.1) && ((eqI a.2.1 b.2.1) && (eqS a.2.2.1 b.2.2.1)))) (fun a b => ?_) xs ys (0, (0, (([] : List UInt8), ()))) hl hb hN
    obtain ⟨a1, a2, a3, ⟨⟩⟩ := a
    obtain ⟨b1, b2, b3, ⟨⟩⟩ := b
    simp only [eqS_dec, eqI_dec, Prod.mk.injEq, and_true, Bool.decide_and]
  · rw [cond_pos (by rw [neI_dec, lenI_def, lenI_def]; simp; omega)]
    have : xs ≠ ys := fun h => hl (by rw [h])
    simp [this]
theorem relEqual_eq (N : Nat) (xs ys : List Row') (hN : xs.length < N) (hB : N ≤ 1099511627776) (hx : ∀ r ∈ xs, r.length < N) : F_relation_Equal N (xs, (ys, ())) = some ((decide (xs = ys), ()), ()) := by
  have := equalFunc_eq N xs ys (fun x0 => (omap (fun y1 => (y1.1.1, ())) (F_relation_Equal_1 N (x0.1, (x0.2.1, ()))))) (fun a ha b hb => by
    simp only [F_relation_Equal_1, equalVal N a b (hx a ha) (by have := hx a ha; omega), oSome_some, oGet_some, cond_true, omap_def, Option.map_some]) hN hB
  simp only [F_relation_Equal, this, oSome_some, oGet_some, cond_true]

end
end Go.Proofs.YtpnklahcegahiaaDoor
