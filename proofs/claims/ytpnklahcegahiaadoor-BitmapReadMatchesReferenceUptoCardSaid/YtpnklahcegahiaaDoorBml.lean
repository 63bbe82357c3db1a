/- Bitmaps: Count and Rank. -/
import Derived.Test.YtpnklahcegahiaaDoorBmk
set_option linter.unusedVariables false
set_option linter.unusedSimpArgs false
set_option linter.unnecessarySimpa false
set_option linter.unusedSectionVars false
set_option linter.unusedSimpArgs false
namespace Go.Proofs.YtpnklahcegahiaaDoor
open Go.Vi
noncomputable section

def ct (d : List Bool) : Nat := (d.filter id).length
theorem ct_append (a b : List Bool) : ct (a ++ b) = ct a + ct b := by simp [ct]
theorem ct_le (d : List Bool) : ct d ≤ d.length := List.length_filter_le _ _
theorem trueFrom_ct : ∀ (d : List Bool) (off : Nat), (trueFrom off d).length = ct d
  | [], _ => rfl
  | b :: d, off => by
    have := trueFrom_ct d (off + 1)
    cases b <;> simp [trueFrom, ct, this] <;> exact this
theorem ct_gbits (a : Nat) : ct (gbits (a : Int)) = cnt (fun i => a.testBit i) 31 := by
  unfold ct gbits cnt
  rw [List.filter_map, List.length_map]
  rfl
theorem ct_rep (n : Nat) (b : Bool) : ct (List.replicate n b) = if b = true then n else 0 := by
  unfold ct
  cases b <;> simp

theorem count_eq (N : Nat) (n : Int) (ws : List Int) (hw : ∀ w ∈ ws, I64 w) (hl : ws.length ≤ 1048576) (hN : 100000000 < N) :
    F_bitmap_Count N ((n, (ws, ())), ()) = some ((if chk n ws = 0 then (((ct (dec ws) : Nat) : Int), (0, ())) else (0, (chk n ws, ()))), ()) := by
  simp only [F_bitmap_Count, letJ_def, check_eq N n ws hw hl hN, oSome_some, oGet_some, cond_true, neI_dec]
  by_cases hc : chk n ws = 0
  · rw [cond_neg (by simp [hc]), if_pos hc]
    obtain ⟨m, rfl, hm, hok⟩ := chk_zero hc
    have hdl : (dec ws).length ≤ 100100 := by rw [hok.2.1]; omega
    have hd0 : dec (ws.drop 0) = dec ws := rfl
    refine (iterF_post (S := Int × (Int × Unit)) (R := (Int × (Int × Unit)) × Unit) (fun p => ws.length - p.2.1.toNat) (fun p => ∃ i : Nat, p.2.1 = (i : Int) ∧ i ≤ ws.length ∧ 0 ≤ p.1 ∧ p.1 + ((ct (dec (ws.drop i)) : Nat) : Int) ≤ 100100) (fun p => ((p.1 + ((ct (dec (ws.drop p.2.1.toNat)) : Nat) : Int), (0, ())), ())) ?_ N _ ⟨0, rfl, Nat.zero_le _, Int.le_refl 0, by have := ct_le (dec ws); simp only [hd0]; omega⟩ (by simp; omega)).trans (by simp)
    rintro ih ⟨t, _, _⟩ ⟨i, rfl, h2, h3, h4⟩ hih
    simp only [Int.toNat_natCast] at hih h3 h4 ⊢
    by_cases hi : i < ws.length
    · have hmem := List.getElem_mem hi
      have hkw := canon_at ws 2 hok.1 i hi
      have hwl := wdec_len_le ws ws[i] hmem
      have hdrop : dec (ws.drop i) = wdec ws[i] ++ dec (ws.drop (i + 1)) := by unfold dec; rw [drop_cons' hi, List.flatMap_cons]
      rw [hdrop, ct_append] at h4 ⊢
      rw [cond_pos (lt_len hi), cond_pos (inB_len hi), lget_at _ hi, iadd_nat (by omega), leI_dec]
      by_cases hp : 0 ≤ ws[i]
      · obtain ⟨a, ha⟩ : ∃ a : Nat, ws[i] = (a : Int) := ⟨ws[i].toNat, by rw [Int.toNat_of_nonneg hp]⟩
        have ha2 : a < 2 ^ 31 := by
          rcases hkw with hk | hk
          · omega
          · omega
        have e1 : iwrap .u64 (a : Int) = (a : Int) := by rw [iwrap_def, wrap_u64_id (by omega) (by omega)]
        have hg : wdec ws[i] = gbits (a : Int) := by rw [wdec_pos hp, ha]
        rw [hg, ct_gbits] at h4 ⊢
        rw [decide_eq_true hp, ha]
        simp only [cond_true, e1, ones_eq N a ha2, oSome_some, oGet_some]
        rw [iadd64 (by omega) (by omega), hih _ ⟨i + 1, rfl, by omega, by simp only; omega, by simp only; omega⟩ (by simp only [Int.toNat_natCast]; omega)]
        simp only [Int.toNat_natCast]
        congr 3
        omega
      · have hneg : ws[i] < 0 := by omega
        rw [wdec_length hneg] at hwl
        have hm2 : ws[i] ≤ -2 := by
          rcases hkw with hk | hk
          · omega
          · exact hk.1
        have hfill : fillN ws[i] ≤ 3300 := by omega
        have hlow : -1000000000 ≤ ws[i] := by unfold fillN at hfill; omega
        have hg : wdec ws[i] = List.replicate (31 * fillN ws[i]) (decide (bitOf ws[i] = 1)) := by unfold wdec; rw [if_neg (by omega)]
        rw [hg, ct_rep] at h4 ⊢
        rw [decide_eq_false hp]
        simp only [cond_false, decodeFill_eq N hm2 hlow, oSome_some, oGet_some, cond_true]
        rcases bitOf_01 ws[i] with hb | hb
        · rw [hb] at h4 ⊢
          simp only [if_true] at h4 ⊢
          rw [cond_neg (by simp), hih _ ⟨i + 1, rfl, by omega, by simp only; omega, by simp only; simp at h4; omega⟩ (by simp only [Int.toNat_natCast]; omega)]
          simp
        · rw [hb] at h4 ⊢
          simp only [decide_true, if_true, show ¬ ((1 : Int) = 0) by decide, if_false] at h4 ⊢
          rw [cond_pos (by simp), imul64 (by omega) (by omega), iadd64 (by omega) (by omega), hih _ ⟨i + 1, rfl, by omega, by simp only; omega, by simp only; omega⟩ (by simp only [Int.toNat_natCast]; omega)]
          simp only [Int.toNat_natCast]
          congr 3
          omega
    · have hi' : i = ws.length := by omega
      rw [cond_neg (nlt_len hi)]
      subst hi'
      rw [List.drop_length]
      simp [dec, ct]
  · rw [cond_pos (by simp [hc]), if_neg hc]

theorem nan_eq (N : Nat) (x : Int) : F_cmp_isNaN_int N (x, ()) = some ((false, ()), ()) := by
  simp only [F_cmp_isNaN_int, neI_dec, eqI_dec]
  simp
theorem nan2_eq (N : Nat) (x : Int) : F_slices_isNaN_int N (x, ()) = some ((false, ()), ()) := by
  simp only [F_slices_isNaN_int, neI_dec, eqI_dec]
  simp
theorem less_eq (N : Nat) (x y : Int) : F_cmp_Less_int N (x, (y, ())) = some ((decide (x < y), ()), ()) := by
  simp only [F_cmp_Less_int, nan_eq, oSome_some, oGet_some, ltI_dec]
  simp

theorem bs_eq (N : Nat) (xs : List Int) (t : Int) (r : Nat) (hr : r ≤ xs.length) (h : ∀ k (hk : k < xs.length), xs[k] < t ↔ k < r) (hl : xs.length ≤ 1000000) (hN : 2000000 < N) : ∃ b, F_slices_BinarySearch_int N (xs, (t, ())) = some (((r : Int), (b, ())), ()) := by
  refine ⟨((ltI (r : Int) (lenI xs)) && (eqI (lget xs (r : Int) 0) t)), ?_⟩
  simp only [F_slices_BinarySearch_int, letJ_def]
  refine iterF_post (S := Int × (Int × Unit)) (R := (Int × (Bool × Unit)) × Unit) (fun p => p.2.1.toNat - p.1.toNat) (fun p => ∃ lo hi : Nat, p.1 = (lo : Int) ∧ p.2.1 = (hi : Int) ∧ lo ≤ r ∧ r ≤ hi ∧ hi ≤ xs.length) (fun _ => (((r : Int), (((ltI (r : Int) (lenI xs)) && (eqI (lget xs (r : Int) 0) t)), ())), ())) ?_ N _ ⟨0, xs.length, rfl, lenI_def xs, Nat.zero_le _, hr, Nat.le_refl _⟩ (by simp [lenI_def]; omega)
  rintro ih ⟨_, _, _⟩ ⟨lo, hi, rfl, rfl, h1, h2, h3⟩ hih
  simp only [Int.toNat_natCast] at hih ⊢
  by_cases hlt : lo < hi
  · have e1 : iwrap .u64 (iadd .i64 (lo : Int) (hi : Int)) = ((lo + hi : Nat) : Int) := by
      rw [iadd64 (by omega) (by omega), iwrap_def, wrap_u64_id (by omega) (by omega)]; omega
    have e2 : shrI .u64 ((lo + hi : Nat) : Int) 1 = (((lo + hi) / 2 : Nat) : Int) := by
      have := shrU (a := lo + hi) 1 (by omega)
      rw [show ((1 : Nat) : Int) = 1 from rfl] at this
      rw [this]
    obtain ⟨k, hk⟩ : ∃ k, k = (lo + hi) / 2 := ⟨_, rfl⟩
    have hkl : k < xs.length := by omega
    rw [cond_pos (by rw [ltI_dec]; simp; omega), cond_pos (by rw [leI_dec]; rfl), e1, e2, ← hk, iwrap64 (by omega) (by omega), inB_len hkl, lget_at _ hkl, less_eq]
    simp only [oSome_some, oGet_some, Bool.and_self, cond_true]
    by_cases hv : xs[k] < t
    · have := (h k hkl).1 hv
      rw [decide_eq_true hv]
      simp only [cond_true]
      rw [iadd_nat (by omega)]
      exact hih _ ⟨k + 1, hi, rfl, rfl, by omega, h2, h3⟩ (by simp only [Int.toNat_natCast]; omega)
    · have : ¬ k < r := fun hk2 => hv ((h k hkl).2 hk2)
      rw [decide_eq_false hv]
      simp only [cond_false]
      exact hih _ ⟨lo, k, rfl, rfl, h1, by omega, by omega⟩ (by simp only [Int.toNat_natCast]; omega)
  · have : lo = r := by omega
    subst this
    rw [cond_neg (by rw [ltI_dec]; simp; omega)]
    simp only [nan2_eq, oSome_some, oGet_some, Bool.or_true, Bool.and_true, Bool.false_and, Bool.or_false]
    by_cases hx : lo < xs.length
    · rw [inB_len hx]
      simp
    · rw [nlt_len hx]
      simp

theorem trueFrom_bound : ∀ (d : List Bool) (off : Nat), ∀ x ∈ trueFrom off d, (off : Int) ≤ x ∧ x < (off + d.length : Nat)
  | [], _ => fun x hx => by simp [trueFrom] at hx
  | b :: d, off => fun x hx => by
    have ih := trueFrom_bound d (off + 1)
    unfold trueFrom at hx
    simp only [List.length_cons]
    split at hx
    · rcases List.mem_cons.1 hx with rfl | hx
      · omega
      · have := ih x hx; omega
    · have := ih x hx; omega

theorem rank_eq (N : Nat) (n : Int) (ws : List Int) (i : Int) (hw : ∀ w ∈ ws, I64 w) (hl : ws.length ≤ 1048576) (hN : 100000000 < N) :
    F_bitmap_Rank N ((n, (ws, ())), (i, ())) = some ((if chk n ws = 0 then (bif (ltI i 0) || (ltI n i) then (0, (1, ())) else (((ct ((dec ws).take i.toNat) : Nat) : Int), (0, ()))) else (0, (chk n ws, ()))), ()) := by
  simp only [F_bitmap_Rank, letJ_def, indices_eq N n ws hw hl hN, oSome_some, oGet_some, cond_true, neI_dec]
  by_cases hc : chk n ws = 0
  · simp only [if_pos hc]
    rw [cond_neg (by simp)]
    cases hb : (ltI i 0) || (ltI n i) with
    | true => rfl
    | false =>
      obtain ⟨m, rfl, hm, hok⟩ := chk_zero hc
      simp only [Bool.or_eq_false_iff, ltI_dec, decide_eq_false_iff_not] at hb
      obtain ⟨k, rfl⟩ : ∃ k : Nat, i = (k : Int) := ⟨i.toNat, by omega⟩
      simp only [cond_false, Int.toNat_natCast]
      have hsplit : (dec ws).take m = (dec ws).take k ++ ((dec ws).take m).drop k := by
        conv => lhs; rw [← List.take_append_drop k ((dec ws).take m), List.take_take, show min k m = k by omega]
      have hlen : ((dec ws).take k).length = k := by
        rw [List.length_take, hok.2.1]; omega
      have hT : trueFrom 0 ((dec ws).take m) = trueFrom 0 ((dec ws).take k) ++ trueFrom k (((dec ws).take m).drop k) := by
        conv => lhs; rw [hsplit, trueFrom_append, hlen, Nat.zero_add]
      have htl : (trueFrom 0 ((dec ws).take m)).length ≤ 1000000 := by
        have := trueFrom_length ((dec ws).take m) 0
        rw [List.length_take] at this
        omega
      obtain ⟨b, hbs⟩ := bs_eq N (trueFrom 0 ((dec ws).take m)) (k : Int) (ct ((dec ws).take k)) (by rw [hT, List.length_append, trueFrom_ct]; omega) (fun q hq => by
        have hh : ∀ q (hq : q < (trueFrom 0 ((dec ws).take k) ++ trueFrom k (((dec ws).take m).drop k)).length), (trueFrom 0 ((dec ws).take k) ++ trueFrom k (((dec ws).take m).drop k))[q] < (k : Int) ↔ q < ct ((dec ws).take k) := fun q hq => by
          rw [← trueFrom_ct _ 0, List.getElem_append]
          split
          · rename_i h1
            have := trueFrom_bound _ 0 _ (List.getElem_mem h1)
            rw [hlen] at this
            constructor
            · intro _; exact h1
            · intro _; omega
          · rename_i h1
            have := trueFrom_bound _ k _ (List.getElem_mem (by rw [List.length_append] at hq; omega : q - (trueFrom 0 ((dec ws).take k)).length < (trueFrom k (((dec ws).take m).drop k)).length))
            constructor
            · intro h2; omega
            · intro h2; omega
        simpa only [hT] using hh q (by rw [← hT]; exact hq)) htl (by omega)
      simp only [hbs, oSome_some, oGet_some, cond_true]
  · simp only [if_neg hc]
    rw [cond_pos (by simp [hc])]
end
end Go.Proofs.YtpnklahcegahiaaDoor
