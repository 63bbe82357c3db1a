/- RLE: runs. -/
import Derived.Test.YtpnklahcegahiaaFnsE
import Derived.Test.YtpnklahcegahiaaViLib
set_option linter.unusedVariables false
set_option linter.unusedSimpArgs false
set_option linter.unnecessarySimpa false
set_option linter.unusedSimpArgs false
namespace Go.Proofs.Ytpnklahcegahiaa
open Go.Vi
noncomputable section

/-! ## Validation -/
def vErr (v : D_api_Value) : Int :=
  if v.1 = 0 then (if v.2.1 ≠ 0 ∨ v.2.2.1 ≠ [] then 3 else 0)
  else if v.1 = 1 ∨ v.1 = 2 then (if v.2.2.1 ≠ [] then 3 else if (v.1 = 2 ∧ v.2.1 ≠ 0 ∧ v.2.1 ≠ 1) ∨ v.2.1 < -1000000000000 ∨ 1000000000000 < v.2.1 then 1 else 0)
  else if v.1 = 3 then (if v.2.1 ≠ 0 then 3 else if 24 < (v.2.2.1.length : Int) then 2 else 0)
  else 7

theorem validate_eq (N : Nat) (v : D_api_Value) : F_value_Validate N (v, ()) = some ((vErr v, ()), ()) := by
  obtain ⟨k, n, s, _⟩ := v
  simp only [F_value_Validate, letJ_def, condOr]
  simp only [eqI_dec, neI_dec, ltI_def, eqS_dec, lenI_def, vErr, condO, condB, Bool.or_eq_true, Bool.and_eq_true, Bool.not_eq_true', decide_eq_true_eq, decide_eq_false_iff_not, Bool.and_eq_false_iff, Bool.or_eq_false_iff, Bool.not_eq_false']
  grind

theorem validateValue_eq (N : Nat) (v : D_api_Value) : F_stemref2_ValidateValue N (v, ()) = some ((vErr v, ()), ()) := by
  obtain ⟨k, n, s, _⟩ := v
  simp only [F_stemref2_ValidateValue, letJ_def, condOr]
  simp only [eqI_dec, neI_dec, ltI_def, eqS_dec, lenI_def, vErr, condO, condB, Bool.or_eq_true, Bool.and_eq_true, Bool.not_eq_true', decide_eq_true_eq, decide_eq_false_iff_not, Bool.and_eq_false_iff, Bool.or_eq_false_iff, Bool.not_eq_false']
  have hs : s = [] → (s.length : Int) = 0 := by rintro rfl; rfl
  have hk : k < 0 ∨ k = 0 ∨ k = 1 ∨ k = 2 ∨ k = 3 ∨ 3 < k := by omega
  rcases hk with hk | hk | hk | hk | hk | hk <;> grind

/-! ## Runs -/
theorem eqV (u v : D_api_Value) : ((eqI u.1 v.1) && ((eqI u.2.1 v.2.1) && (eqS u.2.2.1 v.2.2.1))) = decide (u = v) := by
  obtain ⟨a, b, c, _⟩ := u
  obtain ⟨a', b', c', _⟩ := v
  simp only [eqI_dec, eqS_dec]
  by_cases h1 : a = a' <;> by_cases h2 : b = b' <;> by_cases h3 : c = c' <;> simp [h1, h2, h3]

theorem eqRun (u v : D_rle_Run) : ((((eqI u.1.1 v.1.1) && ((eqI u.1.2.1 v.1.2.1) && (eqS u.1.2.2.1 v.1.2.2.1)))) && (eqI u.2.1 v.2.1)) = decide (u = v) := by
  rw [eqV, eqI_dec]
  obtain ⟨a, b, _⟩ := u
  obtain ⟨a', b', _⟩ := v
  by_cases h1 : a = a' <;> by_cases h2 : b = b' <;> simp [h1, h2]

def zRun : D_rle_Run := ((0, (0, ([], ()))), (0, ()))
def bump (r : D_rle_Run) : D_rle_Run := (r.1, iadd .i64 r.2.1 1, r.2.2)
def push (out : List D_rle_Run) (v : D_api_Value) : List D_rle_Run :=
  if out = [] then [(v, 1, ())] else if (out.getLastD zRun).1 = v then out.dropLast ++ [bump (out.getLastD zRun)] else out ++ [(v, 1, ())]

theorem push_length (out : List D_rle_Run) (v : D_api_Value) : (push out v).length ≤ out.length + 1 := by
  unfold push
  split
  · simp
  · split
    · simp only [List.length_append, List.length_dropLast, List.length_cons, List.length_nil]; omega
    · simp
theorem push_ne (out : List D_rle_Run) (v : D_api_Value) : push out v ≠ [] := by
  unfold push
  split
  · simp
  · split <;> simp
theorem push_last (out : List D_rle_Run) (v : D_api_Value) : ((push out v).getLastD zRun).1 = v := by
  unfold push
  split
  · rfl
  · split
    · rename_i h; simpa [bump] using h
    · simp

theorem lget_last {α : Type} {xs : List α} (h : xs ≠ []) (hb : xs.length < 4611686018427387904) (d : α) : isub .i64 (lenI xs) 1 = ((xs.length - 1 : Nat) : Int) ∧ lget xs (isub .i64 (lenI xs) 1) d = xs.getLastD d := by
  have hp : 0 < xs.length := List.length_pos_iff.2 h
  have e : isub .i64 (lenI xs) 1 = ((xs.length - 1 : Nat) : Int) := by
    rw [isub_def, lenI_def, wrap64 (by omega) (by omega)]
    omega
  refine ⟨e, ?_⟩
  rw [e, lget_def]
  simp only [Int.toNat_natCast, List.getD_eq_getElem?_getD, List.getLastD_eq_getLast?, List.getLast?_eq_getElem?]

theorem set_last {α : Type} {xs : List α} (h : xs ≠ []) (x : α) : xs.set (xs.length - 1) x = xs.dropLast ++ [x] := by
  obtain ⟨ys, y, rfl⟩ : ∃ ys y, xs = ys ++ [y] := ⟨xs.dropLast, xs.getLast h, (List.dropLast_concat_getLast h).symm⟩
  simp

theorem appendRun_eq (N : Nat) (out : List D_rle_Run) (v : D_api_Value) (hb : out.length ≤ 2000000) : F_rle_appendRun N (out, ((v, (1, ())), ())) = some ((push out v, ()), ()) := by
  have hroom : room2 (lenI out) (lenI ([(v, (1, ()))] : List D_rle_Run)) 40 = true := by
    rw [room2_def, lenI_def, lenI_def]
    simp
    omega
  simp only [F_rle_appendRun, letJ_def]
  rw [cond_neg (show eqI 1 0 = false by rw [eqI_def]; rfl)]
  by_cases h : out = []
  · subst h
    have h0 : ltI 0 (lenI ([] : List D_rle_Run)) = false := by rw [ltI_def, lenI_def]; rfl
    simp only [h0, Bool.not_false, Bool.true_or, Bool.false_and, cond_true, cond_false, hroom, lapp_def, List.nil_append, push, if_true]
  · obtain ⟨e1, e2⟩ := lget_last h (by omega) zRun
    have hp : 0 < out.length := List.length_pos_iff.2 h
    have h0 : ltI 0 (lenI out) = true := by rw [ltI_def, lenI_def]; simp; omega
    have h1 : inB (isub .i64 (lenI out) 1) (lenI out) = true := by rw [e1, lenI_def]; exact inB_nat (by omega)
    have e2' : lget out (isub .i64 (lenI out) 1) ((0, (0, ([], ()))), (0, ())) = out.getLastD zRun := e2
    simp only [h0, h1, e2', eqV, Bool.true_and, Bool.and_true, Bool.or_true, cond_true, hroom, lapp_def, push, if_neg h]
    by_cases hv : (out.getLastD zRun).1 = v
    · rw [cond_pos (by simpa using hv), if_pos hv, lset_def, e1, Int.toNat_natCast, set_last h]
      rfl
    · rw [cond_neg (by simpa using hv), if_neg hv]

/-! ## Encode -/
def firstErr : List D_api_Value → Int
  | [] => 0
  | v :: r => if vErr v ≠ 0 then vErr v else firstErr r

theorem bounded_eq (N : Nat) (out : List D_rle_Run) : F_rle_bounded N (out, ()) = some (if 400 < out.length then ([], 2, ()) else (out, 0, ()), ()) := by
  simp only [F_rle_bounded, letJ_def, ltI_def, lenI_def]
  by_cases h : 400 < out.length
  · rw [if_pos h, cond_pos (by simp; omega)]
  · rw [if_neg h, cond_neg (by simp; omega)]

def encRes (xs : List D_api_Value) (out : List D_rle_Run) : (List D_rle_Run × Int × Unit) × Unit :=
  if firstErr xs ≠ 0 then (([], firstErr xs, ()), ()) else if 400 < (xs.foldl push out).length then (([], 2, ()), ()) else ((xs.foldl push out, 0, ()), ())

theorem encode_eq (N : Nat) (xs : List D_api_Value) (hN : xs.length < N) (hb : xs.length ≤ 1048576) : F_rle_Encode N (xs, ()) = some (if 100000 < xs.length then (([], 2, ()), ()) else encRes xs []) := by
  simp only [F_rle_Encode, letJ_def]
  by_cases h : 100000 < xs.length
  · rw [if_pos h, cond_pos (by rw [ltI_def, lenI_def]; simp; omega)]
  · rw [if_neg h, cond_neg (by rw [ltI_def, lenI_def]; simp; omega)]
    refine iterF_post (S := (List D_rle_Run) × (Int × Unit)) (R := ((List D_rle_Run) × (Int × Unit)) × Unit) (fun p => xs.length - p.2.1.toNat) (fun p => ∃ i : Nat, p.2.1 = (i : Int) ∧ i ≤ xs.length ∧ p.1.length ≤ i) (fun p => encRes (xs.drop p.2.1.toNat) p.1) ?_ N _ ⟨0, rfl, Nat.zero_le _, Nat.le_refl _⟩ (by simp; omega)
    rintro ih ⟨out, _, _⟩ ⟨i, rfl, h2, h3⟩ hih
    simp only [Int.toNat_natCast] at hih h3 ⊢
    by_cases hi : i < xs.length
    · have hg : lget xs (i : Int) (0, (0, ([], ()))) = xs[i] := lget_nat (List.getElem?_eq_getElem hi)
      rw [cond_pos (show ltI (i : Int) (lenI xs) = true by rw [ltI_def, lenI_def]; simp; omega), cond_pos (show inB (i : Int) (lenI xs) = true by rw [lenI_def]; exact inB_nat hi)]
      simp only [hg, validate_eq, appendRun_eq N out xs[i] (by omega), oSome_some, oGet_some, cond_true, neI_dec]
      rw [drop_cons' hi]
      by_cases he : vErr xs[i] = 0
      · rw [cond_neg (by simp [he]), iadd_nat (by omega), hih _ ⟨i + 1, rfl, by omega, by have := push_length out xs[i]; simp only; omega⟩ (by simp only [Int.toNat_natCast]; omega)]
        simp only [Int.toNat_natCast, encRes, firstErr, he, ne_eq, not_true_eq_false, if_false, List.foldl_cons]
        rfl
      · rw [cond_pos (by simp [he])]
        simp only [encRes, firstErr, ne_eq, he, not_false_eq_true, if_true]
    · have hi' : i = xs.length := by omega
      rw [cond_neg (show ltI (i : Int) (lenI xs) = false by rw [ltI_def, lenI_def]; simp; omega)]
      subst hi'
      simp only [bounded_eq, oSome_some, oGet_some, cond_true, List.drop_length, encRes, firstErr, ne_eq, not_true_eq_false, if_false, List.foldl_nil]
      split <;> rfl

/-! ## The reference's runs -/
theorem collapse_step (out : List D_rle_Run) (v : D_api_Value) (c : Bool) (hb : out.length ≤ 2000000) (hc : c = true ↔ (out = [] ∨ (out.getLastD zRun).1 ≠ v)) :
    (bif c then lapp out ([(v, (0, ()))] : List D_rle_Run) else out) ≠ [] ∧ (bif c then lapp out ([(v, (0, ()))] : List D_rle_Run) else out).length ≤ 2000001 ∧ (bif c then lapp out ([(v, (0, ()))] : List D_rle_Run) else out).dropLast ++ [bump ((bif c then lapp out ([(v, (0, ()))] : List D_rle_Run) else out).getLastD zRun)] = push out v := by
  cases c with
  | true =>
    simp only [cond_true, lapp_def]
    refine ⟨by simp, by simp; omega, ?_⟩
    have e : bump (v, (0, ())) = (v, (1, ())) := by
      show (v, iadd .i64 0 1, ()) = _
      rw [iadd_def]
      rfl
    unfold push
    rcases hc.1 rfl with h | h
    · subst h
      simp [e]
    · by_cases h0 : out = []
      · subst h0; simp [e]
      · rw [if_neg h0, if_neg h]; simp [e]
  | false =>
    simp only [cond_false]
    have hn : ¬(out = [] ∨ (out.getLastD zRun).1 ≠ v) := fun h => by have := hc.2 h; cases this
    have h1 : out ≠ [] := fun h => hn (.inl h)
    have h2 : (out.getLastD zRun).1 = v := Classical.byContradiction fun h => hn (.inr h)
    exact ⟨h1, by omega, by unfold push; rw [if_neg h1, if_pos h2]⟩

theorem collapse_eq (N : Nat) (xs : List D_api_Value) (hN : xs.length < N) (hb : xs.length ≤ 1048576) : F_stemref4_CollapseRuns N (xs, ()) = some ((xs.foldl push [], ()), ()) := by
  simp only [F_stemref4_CollapseRuns, letJ_def]
  refine iterF_post (S := (List D_rle_Run) × (Int × Unit)) (R := (((List D_rle_Run) × Unit) × Unit)) (fun p => xs.length - p.2.1.toNat) (fun p => ∃ i : Nat, p.2.1 = (i : Int) ∧ i ≤ xs.length ∧ p.1.length ≤ i ∧ (i = 0 ↔ p.1 = []) ∧ ∀ j v, j + 1 = i → xs[j]? = some v → (p.1.getLastD zRun).1 = v) (fun p => (((xs.drop p.2.1.toNat).foldl push p.1, ()), ())) ?_ N _ ⟨0, rfl, Nat.zero_le _, Nat.le_refl _, by simp, fun j v h => by omega⟩ (by simp; omega)
  rintro ih ⟨out, _, _⟩ ⟨i, rfl, h2, h3, h4, h5⟩ hih
  simp only [Int.toNat_natCast] at hih h3 h4 h5 ⊢
  by_cases hi : i < xs.length
  · have hg : lget xs (i : Int) (0, (0, ([], ()))) = xs[i] := lget_nat (List.getElem?_eq_getElem hi)
    rw [cond_pos (show ltI (i : Int) (lenI xs) = true by rw [ltI_def, lenI_def]; simp; omega), cond_pos (show inB (i : Int) (lenI xs) = true by rw [lenI_def]; exact inB_nat hi)]
    have hroom : room2 (lenI out) (lenI ([(xs[i], (0, ()))] : List D_rle_Run)) 40 = true := by
      rw [room2_def, lenI_def, lenI_def]
      simp
      omega
    simp only [hg, hroom, eqV]
    rw [cond_pos (a := (bif (bif (eqI (i : Int) 0 || !decide (lget xs (isub .i64 (i : Int) 1) (0, (0, ([], ()))) = xs[i])) then true else true) then _ else _))]
    · have hc : (eqI (i : Int) 0 || !decide (lget xs (isub .i64 (i : Int) 1) (0, (0, ([], ()))) = xs[i])) = true ↔ (out = [] ∨ (out.getLastD zRun).1 ≠ xs[i]) := by
        rw [eqI_dec]
        by_cases h0 : i = 0
        · subst h0
          simp [h4.1 rfl]
        · have hp : lget xs (isub .i64 (i : Int) 1) (0, (0, ([], ()))) = xs[i - 1] := by
            rw [isub_def, wrap64 (by omega) (by omega), show (i : Int) - 1 = ((i - 1 : Nat) : Int) by omega]
            exact lget_nat (List.getElem?_eq_getElem (by omega))
          have hl := h5 (i - 1) xs[i - 1] (by omega) (List.getElem?_eq_getElem (by omega))
          have hne : out ≠ [] := fun h => h0 (h4.2 h)
          rw [hp, hl]
          simp [hne]
          omega
      obtain ⟨q1, q2, q3⟩ := collapse_step out xs[i] _ (by omega) hc
      rw [cond_pos (by cases (eqI (i : Int) 0 || !decide (lget xs (isub .i64 (i : Int) 1) (0, (0, ([], ()))) = xs[i])) <;> rfl)]
      generalize (bif (eqI (i : Int) 0 || !decide (lget xs (isub .i64 (i : Int) 1) (0, (0, ([], ()))) = xs[i])) then lapp out ([(xs[i], (0, ()))] : List D_rle_Run) else out) = ys at q1 q2 q3 ⊢
      obtain ⟨e1, e2⟩ := lget_last q1 (by omega) zRun
      have hpos : 0 < ys.length := List.length_pos_iff.2 q1
      have h1 : inB (isub .i64 (lenI ys) 1) (lenI ys) = true := by rw [e1, lenI_def]; exact inB_nat (by omega)
      have e2' : lget ys (isub .i64 (lenI ys) 1) ((0, (0, ([], ()))), (0, ())) = ys.getLastD zRun := e2
      have e3 : lset ys (isub .i64 (lenI ys) 1) ((ys.getLastD zRun).1, (iadd .i64 (ys.getLastD zRun).2.1 1), (ys.getLastD zRun).2.2) = push out xs[i] := by
        rw [lset_def, e1, Int.toNat_natCast, set_last q1, ← q3]
        rfl
      simp only [h1, e2', e3, Bool.and_self, cond_true]
      rw [iadd_nat (by omega), hih _ ⟨i + 1, rfl, by omega, by have := push_length out xs[i]; simp only; omega, by simp [push_ne], fun j v hj hv => ?_⟩ (by simp only [Int.toNat_natCast]; omega)]
      · simp only [Int.toNat_natCast]
        rw [drop_cons' hi, List.foldl_cons]
      · have : j = i := by omega
        subst this
        rw [List.getElem?_eq_getElem hi] at hv
        injection hv with hv
        subst hv
        exact push_last _ _
    · rw [eqI_dec, Bool.not_not]
      by_cases h0 : i = 0
      · subst h0; rfl
      · rw [show inB (isub .i64 (i : Int) 1) (lenI xs) = true by
          rw [isub_def, wrap64 (by omega) (by omega), lenI_def, show (i : Int) - 1 = ((i - 1 : Nat) : Int) by omega]
          exact inB_nat (by omega)]
        simp
  · have hi' : i = xs.length := by omega
    rw [cond_neg (show ltI (i : Int) (lenI xs) = false by rw [ltI_def, lenI_def]; simp; omega)]
    subst hi'
    rw [List.drop_length]
    rfl

/-! ## The law -/
theorem equal_eq (N : Nat) (xs : List D_rle_Run) (hN : xs.length < N) (hb : xs.length ≤ 1048577) : F_slices_Equal_rle_Run N (xs, (xs, ())) = some ((true, ()), ()) := by
  simp only [F_slices_Equal_rle_Run, letJ_def]
  rw [cond_neg (by rw [neI_dec]; simp)]
  refine iterF_post (S := Int × Unit) (R := (Bool × Unit) × Unit) (fun p => xs.length - p.1.toNat) (fun p => ∃ i : Nat, p.1 = (i : Int) ∧ i ≤ xs.length) (fun _ => ((true, ()), ())) ?_ N _ ⟨0, rfl, Nat.zero_le _⟩ (by simp; omega)
  rintro ih ⟨_, _⟩ ⟨i, rfl, h2⟩ hih
  simp only [Int.toNat_natCast, eqRun] at hih ⊢
  by_cases hi : i < xs.length
  · rw [cond_pos (show ltI (i : Int) (lenI xs) = true by rw [ltI_def, lenI_def]; simp; omega), show inB (i : Int) (lenI xs) = true by rw [lenI_def]; exact inB_nat hi]
    simp only [Bool.and_self, cond_true, decide_true, Bool.not_true, cond_false]
    rw [iadd_nat (by omega), hih _ ⟨i + 1, rfl, by omega⟩ (by simp only [Int.toNat_natCast]; omega)]
  · rw [cond_neg (show ltI (i : Int) (lenI xs) = false by rw [ltI_def, lenI_def]; simp; omega)]

theorem works_eq (N : Nat) (hN : 10 < N) : F_stemlaw4_rleWorks N () = some ((true, ()), ()) := by
  have h1 : F_rle_Encode N (([(1, (5, ([], ()))), (1, (5, ([], ())))] : List D_api_Value), ()) = some (([((1, (5, ([], ()))), (2, ()))], (0, ())), ()) := by
    rw [encode_eq N _ (by simp; omega) (by simp), if_neg (by simp)]
    have e : push (push [] (1, (5, ([], ())))) (1, (5, ([], ()))) = [((1, (5, ([], ()))), (2, ()))] := by
      have e1 : push [] (1, (5, ([], ()))) = [((1, (5, ([], ()))), (1, ()))] := rfl
      rw [e1]
      unfold push
      rw [if_neg (by simp), if_pos (by simp)]
      show [((1, (5, ([], ()))), (iadd .i64 1 1, ()))] = _
      rw [iadd_def]
      rfl
    have v : vErr (1, (5, ([], ()))) = 0 := by simp [vErr]
    simp only [encRes, firstErr, v, List.foldl_cons, List.foldl_nil, e, ne_eq, not_true_eq_false, if_false]
    rfl
  simp only [F_stemlaw4_rleWorks, letJ_def, h1, oSome_some, oGet_some, cond_true]
  have h2 : lenI ([((1, (5, ([], ()))), (2, ()))] : List D_rle_Run) = 1 := by rw [lenI_def]; rfl
  have h3 : ∀ d, lget ([((1, (5, ([], ()))), (2, ()))] : List D_rle_Run) 0 d = ((1, (5, ([], ()))), (2, ())) := fun d => by rw [lget_def]; rfl
  simp only [h2, h3, eqI_dec, inB_def]
  rfl

theorem foldl_push_length (xs : List D_api_Value) : ∀ out : List D_rle_Run, (xs.foldl push out).length ≤ out.length + xs.length := by
  induction xs with
  | nil => intro out; simp
  | cons v xs ih =>
    intro out
    have h1 := ih (push out v)
    have h2 := push_length out v
    simp only [List.foldl_cons, List.length_cons]
    omega

end
end Go.Proofs.Ytpnklahcegahiaa
