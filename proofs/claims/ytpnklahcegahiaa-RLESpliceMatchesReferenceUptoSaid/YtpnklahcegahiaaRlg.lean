/- RLE: joining and cutting. -/
import Derived.Test.YtpnklahcegahiaaRlf
set_option linter.unusedVariables false
set_option linter.unusedSimpArgs false
set_option linter.unnecessarySimpa false
set_option linter.unusedSimpArgs false
namespace Go.Proofs.Ytpnklahcegahiaa
open Go.Vi
noncomputable section

/-! ## Joined -/
theorem lslice_zero {α : Type} (xs : List α) : lslice xs 0 0 = [] := by
  have := slice_to xs 0
  simpa using this

theorem room_ok {n b : Nat} (h : n * b ≤ 140737488355328) : room (n : Int) b = true := by
  rw [room_def]
  simp
  omega

theorem growR_eq (N n : Nat) (h : n ≤ 2000000) : F_slices_Grow_rle_Run N ((), (((n : Nat) : Int), ())) = some (([], ()), ()) := by
  have e0 : lenI ([] : List D_rle_Run) = 0 := by rw [lenI_def]; rfl
  have e1 : isub .i64 0 0 = 0 := by rw [isub64 (by decide) (by decide)]; rfl
  simp only [F_slices_Grow_rle_Run, letJ_def, e0, e1]
  rw [cond_neg (by rw [ltI_dec]; simp), isub64 (by omega) (by omega), show ((n : Nat) : Int) - 0 = n by omega, lslice_zero]
  have hs : inS 0 0 0 = true := by rw [inS_dec]; rfl
  have hl : lenI (lrep (α := D_rle_Run) ((n : Nat) : Int) ((0, (0, (([] : List UInt8), ()))), (0, ()))) = n := by
    rw [lrep_def, lenI_def]; simp
  have hz : ltI 0 ((n : Nat) : Int) = decide (0 < n) := by
    rw [ltI_dec]
    by_cases h : 0 < n
    · rw [decide_eq_true h, decide_eq_true (by omega)]
    · rw [decide_eq_false h, decide_eq_false (by omega)]
  have hs2 : inS 0 0 ((n : Nat) : Int) = true := by rw [inS_dec]; simp
  rw [hl, hz, hs, hs2, room_ok (by omega)]
  by_cases h : 0 < n <;> simp [h]

theorem growV_eq (N n : Nat) (h : n ≤ 2000000) : F_slices_Grow_api_Value N ((), (((n : Nat) : Int), ())) = some (([], ()), ()) := by
  have e0 : lenI ([] : List D_api_Value) = 0 := by rw [lenI_def]; rfl
  have e1 : isub .i64 0 0 = 0 := by rw [isub64 (by decide) (by decide)]; rfl
  simp only [F_slices_Grow_api_Value, letJ_def, e0, e1]
  rw [cond_neg (by rw [ltI_dec]; simp), isub64 (by omega) (by omega), show ((n : Nat) : Int) - 0 = n by omega, lslice_zero]
  have hs : inS 0 0 0 = true := by rw [inS_dec]; rfl
  have hl : lenI (lrep (α := D_api_Value) ((n : Nat) : Int) (0, (0, (([] : List UInt8), ())))) = n := by
    rw [lrep_def, lenI_def]; simp
  have hz : ltI 0 ((n : Nat) : Int) = decide (0 < n) := by
    rw [ltI_dec]
    by_cases h : 0 < n
    · rw [decide_eq_true h, decide_eq_true (by omega)]
    · rw [decide_eq_false h, decide_eq_false (by omega)]
  have hs2 : inS 0 0 ((n : Nat) : Int) = true := by rw [inS_dec]; simp
  rw [hl, hz, hs, hs2, room_ok (by omega)]
  by_cases h : 0 < n <;> simp [h]

theorem flat_snoc {α : Type} {xss : List (List α)} {i : Nat} (h : i < xss.length) : (xss.take (i + 1)).flatten = (xss.take i).flatten ++ xss[i] := by
  rw [take_snoc h, List.flatten_append]
  simp
theorem flat_le {α : Type} (xss : List (List α)) (i : Nat) : (xss.take i).flatten.length ≤ xss.flatten.length := by
  conv => rhs; rw [← List.take_append_drop i xss, List.flatten_append, List.length_append]
  omega

theorem concatR_eq (N : Nat) (xss : List (List D_rle_Run)) (hN : xss.length < N) (hx : xss.length ≤ 1048576) (hb : xss.flatten.length ≤ 1000000) : F_slices_Concat_rle_Run N (xss, ()) = some ((xss.flatten, ()), ()) := by
  simp only [F_slices_Concat_rle_Run, letJ_def]
  refine iterF_run (fun i => ((((xss.take i).flatten.length : Nat) : Int), ((i : Int), ()))) xss.length _ rfl ?_ ?_ hN
  · intro i hi ih
    have h1 := flat_le xss (i + 1)
    rw [flat_snoc hi, List.length_append] at h1
    dsimp only
    rw [cond_pos (lt_len hi), cond_pos (inB_len hi), lget_at _ hi, iadd_nat (by omega), lenI_def, iadd64 (by omega) (by omega), cond_neg (by rw [ltI_dec]; simp; omega), flat_snoc hi, List.length_append]
    rfl
  · intro ih
    dsimp only
    rw [cond_neg (nlt_len (by omega)), List.take_length]
    simp only [growR_eq N _ (show xss.flatten.length ≤ 2000000 by omega), oSome_some, oGet_some, cond_true]
    refine iterF_run (fun i => ((xss.take i).flatten, ((i : Int), ()))) xss.length _ rfl ?_ ?_ hN
    · intro i hi ih2
      have h1 := flat_le xss (i + 1)
      rw [flat_snoc hi, List.length_append] at h1
      dsimp only
      rw [cond_pos (lt_len hi), cond_pos (inB_len hi), lget_at _ hi, iadd_nat (by omega), cond_pos (room2_ok (by omega)), lapp_def, flat_snoc hi]
    · intro ih2
      dsimp only
      rw [cond_neg (nlt_len (by omega)), List.take_length]

theorem concatV_eq (N : Nat) (xss : List (List D_api_Value)) (hN : xss.length < N) (hx : xss.length ≤ 1048576) (hb : xss.flatten.length ≤ 1000000) : F_slices_Concat_api_Value N (xss, ()) = some ((xss.flatten, ()), ()) := by
  simp only [F_slices_Concat_api_Value, letJ_def]
  refine iterF_run (fun i => ((((xss.take i).flatten.length : Nat) : Int), ((i : Int), ()))) xss.length _ rfl ?_ ?_ hN
  · intro i hi ih
    have h1 := flat_le xss (i + 1)
    rw [flat_snoc hi, List.length_append] at h1
    dsimp only
    rw [cond_pos (lt_len hi), cond_pos (inB_len hi), lget_at _ hi, iadd_nat (by omega), lenI_def, iadd64 (by omega) (by omega), cond_neg (by rw [ltI_dec]; simp; omega), flat_snoc hi, List.length_append]
    rfl
  · intro ih
    dsimp only
    rw [cond_neg (nlt_len (by omega)), List.take_length]
    simp only [growV_eq N _ (show xss.flatten.length ≤ 2000000 by omega), oSome_some, oGet_some, cond_true]
    refine iterF_run (fun i => ((xss.take i).flatten, ((i : Int), ()))) xss.length _ rfl ?_ ?_ hN
    · intro i hi ih2
      have h1 := flat_le xss (i + 1)
      rw [flat_snoc hi, List.length_append] at h1
      dsimp only
      rw [cond_pos (lt_len hi), cond_pos (inB_len hi), lget_at _ hi, iadd_nat (by omega), cond_pos (room2_ok (by omega)), lapp_def, flat_snoc hi]
    · intro ih2
      dsimp only
      rw [cond_neg (nlt_len (by omega)), List.take_length]

/-! ## The reference's values -/
theorem expand_le (xs : List D_rle_Run) (i : Nat) : (expand (xs.take i)).length ≤ (expand xs).length := by
  conv => rhs; rw [← List.take_append_drop i xs, expand_append, List.length_append]
  omega
theorem expand_snoc {xs : List D_rle_Run} {i : Nat} (h : i < xs.length) : expand (xs.take (i + 1)) = expand (xs.take i) ++ List.replicate xs[i].2.1.toNat xs[i].1 := by
  rw [take_snoc h, expand_append, expand_cons, expand_nil, List.append_nil]

theorem expand_eq (N : Nat) (xs : List D_rle_Run) (hN : xs.length < N) (hx : xs.length ≤ 1048576) (hc : ∀ r ∈ xs, 1 ≤ r.2.1 ∧ r.2.1 ≤ 100000) (hM : 100000 < N) (hb : (expand xs).length ≤ 100000) : F_stemref4_ExpandRuns N (xs, ()) = some ((expand xs, ()), ()) := by
  simp only [F_stemref4_ExpandRuns, letJ_def]
  refine iterF_run (fun i => (expand (xs.take i), ((i : Int), ()))) xs.length _ rfl ?_ ?_ hN
  · intro i hi ih
    have h1 := expand_le xs (i + 1)
    rw [expand_snoc hi, List.length_append, List.length_replicate] at h1
    have h2 := hc xs[i] (List.getElem_mem hi)
    dsimp only
    rw [cond_pos (lt_len hi), cond_pos (inB_len hi), lget_at _ hi, iadd_nat (by omega)]
    refine iterF_run (fun j => (expand (xs.take i) ++ List.replicate j xs[i].1, ((j : Int), ()))) xs[i].2.1.toNat _ (by simp) ?_ ?_ (by omega)
    · intro j hj ih2
      dsimp only
      rw [cond_pos (by rw [ltI_dec]; simp; omega), cond_pos (room2_ok (by simp only [List.length_append, List.length_replicate, List.length_cons, List.length_nil]; omega)), iadd_nat (by omega), lapp_def, List.append_assoc, ← List.replicate_succ']
    · intro ih2
      dsimp only
      rw [cond_neg (by rw [ltI_dec]; simp; omega), expand_snoc hi]
  · intro ih
    dsimp only
    rw [cond_neg (nlt_len (by omega)), List.take_length]

/-! ## Cut -/
def cutL : List D_rle_Run → Int → List D_rle_Run
  | [], _ => []
  | r :: rs, a => if a < r.2.1 then (if 0 < a then [(r.1, (a, ()))] else []) else r :: cutL rs (a - r.2.1)
def cutR : List D_rle_Run → Int → List D_rle_Run
  | [], _ => []
  | r :: rs, a => if a < r.2.1 then (r.1, (r.2.1 - a, ())) :: rs else cutR rs (a - r.2.1)

theorem cutL_length : ∀ (xs : List D_rle_Run) (a : Int), (cutL xs a).length ≤ xs.length
  | [], _ => Nat.le_refl _
  | r :: rs, a => by
    unfold cutL
    split
    · split <;> simp
    · have := cutL_length rs (a - r.2.1)
      simp only [List.length_cons]; omega
theorem cutR_length : ∀ (xs : List D_rle_Run) (a : Int), (cutR xs a).length ≤ xs.length
  | [], _ => Nat.le_refl _
  | r :: rs, a => by
    unfold cutR
    split
    · simp
    · have := cutR_length rs (a - r.2.1)
      simp only [List.length_cons]; omega
theorem cutL_counts : ∀ (xs : List D_rle_Run) (a : Int), (∀ r ∈ xs, 1 ≤ r.2.1 ∧ r.2.1 ≤ 100000) → ∀ r ∈ cutL xs a, 1 ≤ r.2.1 ∧ r.2.1 ≤ 100000
  | [], _, _ => fun r hr => by simp [cutL] at hr
  | q :: rs, a, h => fun r hr => by
    have hq := h q (List.mem_cons_self ..)
    unfold cutL at hr
    split at hr
    · split at hr
      · have := List.mem_singleton.1 hr
        subst this
        simp only; omega
      · simp at hr
    · rcases List.mem_cons.1 hr with rfl | hr
      · exact hq
      · exact cutL_counts rs _ (fun r hr => h r (List.mem_cons_of_mem _ hr)) r hr
theorem cutR_counts : ∀ (xs : List D_rle_Run) (a : Int), 0 ≤ a → (∀ r ∈ xs, 1 ≤ r.2.1 ∧ r.2.1 ≤ 100000) → ∀ r ∈ cutR xs a, 1 ≤ r.2.1 ∧ r.2.1 ≤ 100000
  | [], _, _, _ => fun r hr => by simp [cutR] at hr
  | q :: rs, a, ha, h => fun r hr => by
    have hq := h q (List.mem_cons_self ..)
    unfold cutR at hr
    split at hr
    · rcases List.mem_cons.1 hr with rfl | hr
      · simp only; omega
      · exact h r (List.mem_cons_of_mem _ hr)
    · exact cutR_counts rs _ (by omega) (fun r hr => h r (List.mem_cons_of_mem _ hr)) r hr

theorem expand_cutL : ∀ (xs : List D_rle_Run) (a : Int), 0 ≤ a → (∀ r ∈ xs, 1 ≤ r.2.1 ∧ r.2.1 ≤ 100000) → expand (cutL xs a) = (expand xs).take a.toNat
  | [], _, _, _ => by simp [cutL, expand_nil]
  | q :: rs, a, ha, h => by
    have hq := h q (List.mem_cons_self ..)
    unfold cutL
    rw [expand_cons, List.take_append, List.length_replicate, List.take_replicate]
    split
    · rw [show a.toNat - q.2.1.toNat = 0 by omega, show min a.toNat q.2.1.toNat = a.toNat by omega, List.take_zero, List.append_nil]
      split
      · rw [expand_cons, expand_nil, List.append_nil]
      · rw [show a.toNat = 0 by omega]; rfl
    · rw [expand_cons, expand_cutL rs _ (by omega) (fun r hr => h r (List.mem_cons_of_mem _ hr)), show min a.toNat q.2.1.toNat = q.2.1.toNat by omega, show (a - q.2.1).toNat = a.toNat - q.2.1.toNat by omega]
theorem expand_cutR : ∀ (xs : List D_rle_Run) (a : Int), 0 ≤ a → (∀ r ∈ xs, 1 ≤ r.2.1 ∧ r.2.1 ≤ 100000) → expand (cutR xs a) = (expand xs).drop a.toNat
  | [], _, _, _ => by simp [cutR, expand_nil]
  | q :: rs, a, ha, h => by
    have hq := h q (List.mem_cons_self ..)
    unfold cutR
    rw [expand_cons, List.drop_append, List.length_replicate, List.drop_replicate]
    split
    · rw [expand_cons, show a.toNat - q.2.1.toNat = 0 by omega, List.drop_zero]
      simp only
      rw [show (q.2.1 - a).toNat = q.2.1.toNat - a.toNat by omega]
    · rw [expand_cutR rs _ (by omega) (fun r hr => h r (List.mem_cons_of_mem _ hr)), show q.2.1.toNat - a.toNat = 0 by omega, show (a - q.2.1).toNat = a.toNat - q.2.1.toNat by omega]
      rfl

theorem cut_eq (N : Nat) (xs : List D_rle_Run) (a : Int) (hN : xs.length + 2 < N) (hx : xs.length ≤ 1000) (hc : ∀ r ∈ xs, 1 ≤ r.2.1 ∧ r.2.1 ≤ 100000) (h0 : 0 ≤ a) (h1 : a ≤ 100000) : F_rle_cut N (xs, (a, ())) = some ((cutL xs a, (cutR xs a, ())), ()) := by
  simp only [F_rle_cut, letJ_def]
  refine (iterF_post (S := Int × ((List D_rle_Run) × (Int × Unit))) (R := ((List D_rle_Run) × ((List D_rle_Run) × Unit)) × Unit) (fun p => xs.length - p.2.2.1.toNat) (fun p => ∃ i : Nat, p.2.2.1 = (i : Int) ∧ i ≤ xs.length ∧ p.2.1.length ≤ i ∧ 0 ≤ p.1 ∧ p.1 ≤ 100000) (fun p => ((p.2.1 ++ cutL (xs.drop p.2.2.1.toNat) p.1, (cutR (xs.drop p.2.2.1.toNat) p.1, ())), ())) ?_ N _ ⟨0, rfl, Nat.zero_le _, Nat.zero_le _, h0, h1⟩ (by simp; omega)).trans rfl
  rintro ih ⟨t, out, _, _⟩ ⟨i, rfl, h2, h3, h4, h5⟩ hih
  simp only [Int.toNat_natCast] at hih h3 h4 h5 ⊢
  by_cases hi : i < xs.length
  · have hn := hc xs[i] (List.getElem_mem hi)
    rw [cond_pos (lt_len hi), cond_pos (inB_len hi), lget_at _ hi, iadd_nat (by omega), slice_from, inS_from (by omega), drop_cons' hi]
    have hr : ∀ r : D_rle_Run, room2 (lenI out) (lenI ([r] : List D_rle_Run)) 40 = true := fun r => room2_ok (by simp only [List.length_cons, List.length_nil]; omega)
    simp only [hr]
    unfold cutL cutR
    rw [ltI_dec]
    by_cases ht : t < xs[i].2.1
    · rw [cond_pos (by simpa using ht), if_pos ht, if_pos ht, cond_pos (by cases ltI 0 t <;> rfl), isub64 (by omega) (by omega), concatR_eq N _ (by simp; omega) (by simp) (by simp; omega)]
      simp only [oSome_some, oGet_some, Bool.and_self, cond_true]
      rw [ltI_dec]
      by_cases hz : 0 < t
      · rw [cond_pos (by simpa using hz), if_pos hz, lapp_def]
        simp
      · rw [cond_neg (by simpa using hz), if_neg hz]
        simp
    · rw [cond_neg (by simpa using ht), if_neg ht, if_neg ht, cond_true, isub64 (by omega) (by omega), lapp_def]
      rw [hih _ ⟨i + 1, rfl, by omega, by simp; omega, by simp only; omega, by simp only; omega⟩ (by simp only [Int.toNat_natCast]; omega)]
      simp
  · have hi' : i = xs.length := by omega
    rw [cond_neg (nlt_len hi)]
    subst hi'
    rw [List.drop_length]
    simp [cutL, cutR]
end
end Go.Proofs.Ytpnklahcegahiaa
