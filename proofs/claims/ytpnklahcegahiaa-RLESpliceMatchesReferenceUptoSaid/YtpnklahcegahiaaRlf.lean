/- RLE: runs, told by what they stand for. -/
import Derived.Test.YtpnklahcegahiaaRle
set_option linter.unusedVariables false
set_option linter.unusedSimpArgs false
set_option linter.unnecessarySimpa false
set_option linter.unusedSimpArgs false
namespace Go.Proofs.Ytpnklahcegahiaa
open Go.Vi
noncomputable section

/-! ## Runs, appended -/
def bumpN (r : D_rle_Run) (n : Int) : D_rle_Run := (r.1, iadd .i64 r.2.1 n, r.2.2)
def pushN (out : List D_rle_Run) (r : D_rle_Run) : List D_rle_Run :=
  if r.2.1 = 0 then out else if out = [] then [r] else if (out.getLastD zRun).1 = r.1 then out.dropLast ++ [bumpN (out.getLastD zRun) r.2.1] else out ++ [r]

theorem pushN_length (out : List D_rle_Run) (r : D_rle_Run) : (pushN out r).length ≤ out.length + 1 := by
  unfold pushN
  split
  · omega
  · split
    · simp
    · split
      · simp only [List.length_append, List.length_dropLast, List.length_cons, List.length_nil]; omega
      · simp

theorem appendRunN_eq (N : Nat) (out : List D_rle_Run) (r : D_rle_Run) (hb : out.length ≤ 2000000) : F_rle_appendRun N (out, (r, ())) = some ((pushN out r, ()), ()) := by
  have hroom : room2 (lenI out) (lenI ([r] : List D_rle_Run)) 40 = true := room2_ok (by simp only [List.length_cons, List.length_nil]; omega)
  simp only [F_rle_appendRun, letJ_def, eqI_dec 0, eqI_dec r.2.1 0]
  by_cases hz : r.2.1 = 0
  · rw [cond_pos (by simp [hz]), pushN, if_pos hz]
  · rw [cond_neg (by simp [hz]), pushN, if_neg hz]
    by_cases h : out = []
    · subst h
      have h0 : ltI 0 (lenI ([] : List D_rle_Run)) = false := by rw [ltI_def, lenI_def]; rfl
      simp only [h0, Bool.not_false, Bool.true_or, Bool.false_and, cond_true, cond_false, hroom, lapp_def, List.nil_append, if_true]
    · obtain ⟨e1, e2⟩ := lget_last h (by omega) zRun
      have hp : 0 < out.length := List.length_pos_iff.2 h
      have h0 : ltI 0 (lenI out) = true := by rw [ltI_def, lenI_def]; simp; omega
      have h1 : inB (isub .i64 (lenI out) 1) (lenI out) = true := by rw [e1, lenI_def]; exact inB_nat (by omega)
      have e2' : lget out (isub .i64 (lenI out) 1) ((0, (0, ([], ()))), (0, ())) = out.getLastD zRun := e2
      simp only [h0, h1, e2', eqV, Bool.true_and, Bool.and_true, Bool.or_true, cond_true, hroom, lapp_def, if_neg h]
      by_cases hv : (out.getLastD zRun).1 = r.1
      · rw [cond_pos (by simpa using hv), if_pos hv, lset_def, e1, Int.toNat_natCast, set_last h]
        rfl
      · rw [cond_neg (by simpa using hv), if_neg hv]

theorem iadd_iadd (a b c : Int) : iadd .i64 (iadd .i64 a b) c = iadd .i64 a (b + c) := by
  simp only [iadd_def, IntKind.wrap, IntKind.signed, IntKind.bits]
  simp
  omega

theorem push_rep (v : D_api_Value) : ∀ n : Nat, n < 4611686018427387904 → ∀ out, (List.replicate n v).foldl push out = pushN out (v, (((n : Nat) : Int), ()))
  | 0, _, out => by simp [pushN]
  | n + 1, h, out => by
    rw [List.replicate_succ', List.foldl_append, push_rep v n (by omega) out, List.foldl_cons, List.foldl_nil]
    by_cases h0 : n = 0
    · subst h0
      simp only [pushN, push]
      simp
      by_cases ho : out = []
      · simp [ho]
      · simp only [if_neg ho]
        rfl
    · have c1 : ¬ ((n : Nat) : Int) = 0 := by omega
      have c2 : ¬ ((n + 1 : Nat) : Int) = 0 := by omega
      simp only [pushN, c1, c2, if_false]
      by_cases ho : out = []
      · simp only [ho, if_true]
        unfold push
        rw [if_neg (by simp), if_pos (by simp)]
        show [(v, (iadd .i64 ((n : Nat) : Int) 1, ()))] = _
        rw [iadd_nat (by omega)]
      · simp only [if_neg ho]
        by_cases hv : (out.getLastD zRun).1 = v
        · simp only [if_pos hv]
          unfold push
          rw [if_neg (by simp), if_pos (by simpa [bumpN] using hv)]
          simp only [List.dropLast_concat, List.getLastD_concat]
          show out.dropLast ++ [((out.getLastD zRun).1, (iadd .i64 (iadd .i64 (out.getLastD zRun).2.1 ((n : Nat) : Int)) 1, (out.getLastD zRun).2.2))] = _
          rw [iadd_iadd]
          rfl
        · simp only [if_neg hv]
          unfold push
          rw [if_neg (by simp), if_pos (by simp)]
          simp only [List.dropLast_concat, List.getLastD_concat]
          show out ++ [(v, (iadd .i64 ((n : Nat) : Int) 1, ()))] = _
          rw [iadd_nat (by omega)]

/-! ## What runs stand for -/
def expand (xs : List D_rle_Run) : List D_api_Value := xs.flatMap fun r => List.replicate r.2.1.toNat r.1

theorem expand_nil : expand [] = [] := rfl
theorem expand_cons (r : D_rle_Run) (xs : List D_rle_Run) : expand (r :: xs) = List.replicate r.2.1.toNat r.1 ++ expand xs := by simp [expand]
theorem expand_append (xs ys : List D_rle_Run) : expand (xs ++ ys) = expand xs ++ expand ys := by simp [expand]

theorem fold_expand : ∀ (ys : List D_rle_Run), (∀ r ∈ ys, 0 ≤ r.2.1 ∧ r.2.1 ≤ 100000) → ∀ out, (expand ys).foldl push out = ys.foldl pushN out
  | [], _, _ => rfl
  | (v, (n, u)) :: ys, h, out => by
    have h1 := h _ (List.mem_cons_self ..)
    simp only at h1
    rw [expand_cons, List.foldl_append, push_rep _ _ (by simp only; omega), fold_expand ys (fun r hr => h r (List.mem_cons_of_mem _ hr)), List.foldl_cons]
    simp only [Int.toNat_of_nonneg h1.1]

/-! ## Checks -/
def chkGo : List D_rle_Run → Option D_api_Value → Int → Int
  | [], _, _ => 0
  | r :: rs, prev, left => if vErr r.1 ≠ 0 then vErr r.1 else if r.2.1 < 1 ∨ left < r.2.1 then 1 else if prev = some r.1 then 3 else chkGo rs (some r.1) (left - r.2.1)
def chkRuns (xs : List D_rle_Run) : Int := if 400 < xs.length then 2 else chkGo xs none 100000

theorem chkGo_ok : ∀ (xs : List D_rle_Run) (prev : Option D_api_Value) (left : Int), chkGo xs prev left = 0 → 0 ≤ left → left ≤ 100000 → (∀ r ∈ xs, 1 ≤ r.2.1 ∧ r.2.1 ≤ 100000) ∧ ((expand xs).length : Int) ≤ left
  | [], _, left, _, h0, _ => ⟨fun r hr => by simp at hr, by simpa [expand_nil] using h0⟩
  | r :: rs, prev, left, h, h0, h1 => by
    unfold chkGo at h
    split at h
    · rename_i hv; exact absurd h hv
    · split at h
      · exact absurd h (by decide)
      · rename_i hn
        split at h
        · exact absurd h (by decide)
        · obtain ⟨k1, k2⟩ := chkGo_ok rs _ _ h (by omega) (by omega)
          refine ⟨fun q hq => ?_, ?_⟩
          · rcases List.mem_cons.1 hq with rfl | hq
            · omega
            · exact k1 q hq
          · rw [expand_cons, List.length_append, List.length_replicate]
            omega
theorem chkRuns_ok {xs : List D_rle_Run} (h : chkRuns xs = 0) : xs.length ≤ 400 ∧ (∀ r ∈ xs, 1 ≤ r.2.1 ∧ r.2.1 ≤ 100000) ∧ (expand xs).length ≤ 100000 := by
  unfold chkRuns at h
  split at h
  · exact absurd h (by decide)
  · obtain ⟨k1, k2⟩ := chkGo_ok xs _ _ h (by decide) (by decide)
    exact ⟨by omega, k1, by omega⟩

def prv (xs : List D_rle_Run) (i : Nat) : Option D_api_Value := if i = 0 then none else (xs[i - 1]?).map (·.1)

theorem nb {xs : List D_rle_Run} {i : Nat} (hi : i < xs.length) (hb : xs.length ≤ 1048576) (v : D_api_Value) : ((!(ltI 0 (i : Int))) || inB (isub .i64 (i : Int) 1) (lenI xs)) = true ∧ ((ltI 0 (i : Int)) && decide ((lget xs (isub .i64 (i : Int) 1) ((0, (0, (([] : List UInt8), ()))), (0, ()))).1 = v)) = decide (prv xs i = some v) := by
  by_cases h0 : i = 0
  · subst h0
    have e : ltI 0 ((0 : Nat) : Int) = false := by rw [ltI_dec]; rfl
    simp only [e, prv, if_true]
    simp
  · have e : ltI 0 (i : Int) = true := by rw [ltI_dec]; simp; omega
    have e1 : isub .i64 (i : Int) 1 = ((i - 1 : Nat) : Int) := by rw [isub64 (by omega) (by omega)]; omega
    rw [e, e1, inB_len (by omega), lget_at _ (by omega : i - 1 < xs.length)]
    simp only [prv, if_neg h0, List.getElem?_eq_getElem (by omega : i - 1 < xs.length)]
    simp
theorem prv_succ {xs : List D_rle_Run} {i : Nat} (hi : i < xs.length) : prv xs (i + 1) = some xs[i].1 := by
  simp [prv, List.getElem?_eq_getElem hi]

theorem check_eq (N : Nat) (xs : List D_rle_Run) (hN : xs.length < N) (hb : xs.length ≤ 1048576) : F_rle_Check N (xs, ()) = some ((chkRuns xs, ()), ()) := by
  simp only [F_rle_Check, letJ_def]
  unfold chkRuns
  by_cases h : 400 < xs.length
  · rw [if_pos h, cond_pos (by rw [ltI_def, lenI_def]; simp; omega)]
  · rw [if_neg h, cond_neg (by rw [ltI_def, lenI_def]; simp; omega)]
    refine (iterF_post (S := Int × (Int × Unit)) (R := (Int × Unit) × Unit) (fun p => xs.length - p.2.1.toNat) (fun p => ∃ i : Nat, p.2.1 = (i : Int) ∧ i ≤ xs.length ∧ 0 ≤ p.1 ∧ p.1 ≤ 100000) (fun p => ((chkGo (xs.drop p.2.1.toNat) (prv xs p.2.1.toNat) (100000 - p.1), ()), ())) ?_ N _ ⟨0, rfl, Nat.zero_le _, Int.le_refl 0, by decide⟩ (by simp; omega)).trans rfl
    rintro ih ⟨t, _, _⟩ ⟨i, rfl, h2, h3, h4⟩ hih
    simp only [Int.toNat_natCast] at hih h3 h4 ⊢
    by_cases hi : i < xs.length
    · obtain ⟨n1, n2⟩ := nb hi hb xs[i].1
      rw [cond_pos (lt_len hi), cond_pos (inB_len hi)]
      simp only [lget_at _ hi, validate_eq, oSome_some, oGet_some, cond_true, neI_dec, eqV, n1, n2]
      rw [drop_cons' hi]
      unfold chkGo
      by_cases he : vErr xs[i].1 = 0
      · rw [cond_neg (by simp [he]), if_neg (by simp [he]), isub64 (by omega) (by omega), ltI_dec, ltI_dec]
        by_cases hc : xs[i].2.1 < 1 ∨ 100000 - t < xs[i].2.1
        · rw [if_pos hc, cond_pos (by simpa using hc)]
        · rw [if_neg hc, cond_neg (by simpa using hc)]
          by_cases hp : prv xs i = some xs[i].1
          · rw [if_pos hp, cond_pos (by simpa using hp)]
          · rw [if_neg hp, cond_neg (by simpa using hp), iadd_nat (by omega), iadd64 (by omega) (by omega)]
            rw [hih _ ⟨i + 1, rfl, by omega, by simp only; omega, by simp only; omega⟩ (by simp only [Int.toNat_natCast]; omega)]
            simp only [Int.toNat_natCast, prv_succ hi, show (100000 : Int) - (t + xs[i].2.1) = 100000 - t - xs[i].2.1 by omega]
      · rw [cond_pos (by simp [he]), if_pos he]
    · have hi' : i = xs.length := by omega
      rw [cond_neg (nlt_len hi)]
      subst hi'
      rw [List.drop_length]
      rfl

theorem checkRuns_eq (N : Nat) (xs : List D_rle_Run) (hN : xs.length < N) (hb : xs.length ≤ 1048576) : F_stemref4_CheckRuns N (xs, ()) = some ((chkRuns xs, ()), ()) := by
  simp only [F_stemref4_CheckRuns, letJ_def]
  unfold chkRuns
  by_cases h : 400 < xs.length
  · rw [if_pos h, cond_pos (by rw [ltI_def, lenI_def]; simp; omega)]
  · rw [if_neg h, cond_neg (by rw [ltI_def, lenI_def]; simp; omega)]
    refine (iterF_post (S := Int × (Int × Unit)) (R := (Int × Unit) × Unit) (fun p => xs.length - p.2.1.toNat) (fun p => ∃ i : Nat, p.2.1 = (i : Int) ∧ i ≤ xs.length ∧ 0 ≤ p.1 ∧ p.1 ≤ 100000) (fun p => ((chkGo (xs.drop p.2.1.toNat) (prv xs p.2.1.toNat) p.1, ()), ())) ?_ N _ ⟨0, rfl, Nat.zero_le _, by decide, by decide⟩ (by simp; omega)).trans rfl
    rintro ih ⟨t, _, _⟩ ⟨i, rfl, h2, h3, h4⟩ hih
    simp only [Int.toNat_natCast] at hih h3 h4 ⊢
    by_cases hi : i < xs.length
    · obtain ⟨n1, n2⟩ := nb hi hb xs[i].1
      rw [cond_pos (lt_len hi), cond_pos (inB_len hi)]
      simp only [lget_at _ hi, validateValue_eq, oSome_some, oGet_some, cond_true, neI_dec, eqV, n1, n2]
      rw [drop_cons' hi]
      unfold chkGo
      by_cases he : vErr xs[i].1 = 0
      · rw [cond_neg (by simp [he]), if_neg (by simp [he]), ltI_dec, ltI_dec]
        by_cases hc : xs[i].2.1 < 1 ∨ t < xs[i].2.1
        · rw [if_pos hc, cond_pos (by simpa using hc)]
        · rw [if_neg hc, cond_neg (by simpa using hc)]
          by_cases hp : prv xs i = some xs[i].1
          · rw [if_pos hp, cond_pos (by simpa using hp)]
          · rw [if_neg hp, cond_neg (by simpa using hp), iadd_nat (by omega), isub64 (by omega) (by omega)]
            rw [hih _ ⟨i + 1, rfl, by omega, by simp only; omega, by simp only; omega⟩ (by simp only [Int.toNat_natCast]; omega)]
            simp only [Int.toNat_natCast, prv_succ hi]
      · rw [cond_pos (by simp [he]), if_pos he]
    · have hi' : i = xs.length := by omega
      rw [cond_neg (nlt_len hi)]
      subst hi'
      rw [List.drop_length]
      rfl

theorem len_eq (N : Nat) (xs : List D_rle_Run) (hN : xs.length < N) (hb : xs.length ≤ 1048576) : F_rle_Len N (xs, ()) = some (if chkRuns xs = 0 then (((expand xs).length : Int), (0, ())) else (0, (chkRuns xs, ())), ()) := by
  simp only [F_rle_Len, letJ_def, check_eq N xs hN hb, oSome_some, oGet_some, cond_true, neI_dec]
  by_cases h : chkRuns xs = 0
  · rw [cond_neg (by simp [h]), if_pos h]
    obtain ⟨_, k1, k2⟩ := chkRuns_ok h
    refine (iterF_post (S := Int × (Int × Unit)) (R := (Int × (Int × Unit)) × Unit) (fun p => xs.length - p.2.1.toNat) (fun p => ∃ i : Nat, p.2.1 = (i : Int) ∧ i ≤ xs.length ∧ 0 ≤ p.1 ∧ p.1 + (expand (xs.drop i)).length ≤ 100000) (fun p => ((p.1 + ((expand (xs.drop p.2.1.toNat)).length : Int), (0, ())), ())) ?_ N _ ⟨0, rfl, Nat.zero_le _, Int.le_refl 0, by simp only [List.drop_zero]; omega⟩ (by simp; omega)).trans ?_
    · rintro ih ⟨t, _, _⟩ ⟨i, rfl, h2, h3, h4⟩ hih
      simp only [Int.toNat_natCast] at hih h3 h4 ⊢
      by_cases hi : i < xs.length
      · have hn := k1 xs[i] (List.getElem_mem hi)
        rw [drop_cons' hi, expand_cons, List.length_append, List.length_replicate] at h4
        rw [cond_pos (lt_len hi), cond_pos (inB_len hi), lget_at _ hi, iadd_nat (by omega), iadd64 (by omega) (by omega)]
        rw [hih _ ⟨i + 1, rfl, by omega, by simp only; omega, by simp only; omega⟩ (by simp only [Int.toNat_natCast]; omega)]
        simp only [Int.toNat_natCast]
        rw [drop_cons' hi, expand_cons, List.length_append, List.length_replicate, show t + xs[i].2.1 + ((expand (xs.drop (i + 1))).length : Int) = t + ((xs[i].2.1.toNat + (expand (xs.drop (i + 1))).length : Nat) : Int) by omega]
      · have hi' : i = xs.length := by omega
        rw [cond_neg (nlt_len hi)]
        subst hi'
        rw [List.drop_length]
        simp [expand_nil]
    · simp
  · rw [cond_pos (by simp [h]), if_neg h]
end
end Go.Proofs.Ytpnklahcegahiaa
