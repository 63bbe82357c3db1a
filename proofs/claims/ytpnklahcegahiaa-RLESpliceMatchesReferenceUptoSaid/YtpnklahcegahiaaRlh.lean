/- RLESplice: the plain law. -/
import Derived.Test.YtpnklahcegahiaaRlg
set_option linter.unusedVariables false
set_option linter.unusedSimpArgs false
set_option linter.unnecessarySimpa false
set_option linter.unusedSimpArgs false
namespace Go.Proofs.Ytpnklahcegahiaa
open Go.Vi
noncomputable section

def bad (L a d : Int) : Bool := (((ltI a 0) || (ltI L a)) || (ltI d 0)) || (ltI (isub .i64 L a) d)
theorem bad_false {L a d : Int} (h0 : 0 ≤ L) (h1 : L ≤ 100000) (h : bad L a d = false) : 0 ≤ a ∧ a ≤ L ∧ 0 ≤ d ∧ d ≤ L - a := by
  simp only [bad, Bool.or_eq_false_iff, ltI_dec, decide_eq_false_iff_not] at h
  obtain ⟨⟨⟨h2, h3⟩, h4⟩, h5⟩ := h
  rw [isub64 (by omega) (by omega)] at h5
  omega

theorem len_eq2 (N : Nat) (xs : List D_rle_Run) (hN : xs.length < N) (hb : xs.length ≤ 1048576) : F_rle_Len N (xs, ()) = some (if chkRuns xs = 0 then (lenI (expand xs), (0, ())) else (0, (chkRuns xs, ())), ()) := by
  rw [lenI_def]; exact len_eq N xs hN hb

theorem foldl_pushN_length (xs : List D_rle_Run) : ∀ out : List D_rle_Run, (xs.foldl pushN out).length ≤ out.length + xs.length := by
  induction xs with
  | nil => intro out; simp
  | cons v xs ih =>
    intro out
    have h1 := ih (pushN out v)
    have h2 := pushN_length out v
    simp only [List.foldl_cons, List.length_cons]
    omega

def pieces (xs : List D_rle_Run) (a d : Int) (ys : List D_rle_Run) : List (List D_api_Value) := [(expand xs).take a.toNat, expand ys, (expand xs).drop (a + d).toNat]
def zz (xs : List D_rle_Run) (a d : Int) (ys : List D_rle_Run) : List D_rle_Run := (pieces xs a d ys).flatten.foldl push []
def big (xs : List D_rle_Run) (d : Int) (ys : List D_rle_Run) : Bool := ltI 100000 (iadd .i64 (isub .i64 (lenI (expand xs)) d) (lenI (expand ys)))

def spl (xs : List D_rle_Run) (a d : Int) (ys : List D_rle_Run) : List D_rle_Run × (Int × Unit) :=
  if chkRuns xs = 0 then
    if chkRuns ys = 0 then
      bif bad (lenI (expand xs)) a d then ([], (1, ())) else bif big xs d ys then ([], (2, ())) else if 400 < (zz xs a d ys).length then ([], (2, ())) else (zz xs a d ys, (0, ()))
    else ([], (chkRuns ys, ()))
  else ([], (chkRuns xs, ()))

theorem splice_eq (N : Nat) (xs : List D_rle_Run) (a d : Int) (ys : List D_rle_Run) (hN : 2000000 < N) (hx : xs.length ≤ 1048576) (hy : ys.length ≤ 1048576) : F_rle_Splice N (xs, (a, (d, (ys, ())))) = some (spl xs a d ys, ()) := by
  simp only [F_rle_Splice, letJ_def, len_eq2 N xs (by omega) hx, len_eq2 N ys (by omega) hy, oSome_some, oGet_some, cond_true]
  unfold spl
  by_cases c1 : chkRuns xs = 0
  · simp only [if_pos c1, c1]
    rw [cond_neg (by rw [neI_dec]; rfl)]
    by_cases c2 : chkRuns ys = 0
    · simp only [if_pos c2]
      rw [cond_neg (by rw [neI_dec]; rfl)]
      obtain ⟨x1, x2, x3⟩ := chkRuns_ok c1
      obtain ⟨y1, y2, y3⟩ := chkRuns_ok c2
      show (bif bad (lenI (expand xs)) a d then _ else bif big xs d ys then _ else _) = _
      cases hb : bad (lenI (expand xs)) a d with
      | true => rfl
      | false =>
        simp only [cond_false]
        cases hg : big xs d ys with
        | true => rfl
        | false =>
          simp only [cond_false]
          have hL : lenI (expand xs) = ((expand xs).length : Int) := lenI_def _
          rw [hL] at hb
          obtain ⟨b1, b2, b3, b4⟩ := bad_false (by omega) (by omega) hb
          have l1 := cutL_length xs a
          have r1 := cutR_length xs a
          have rc := cutR_counts xs a b1 x2
          have l2 := cutL_length (cutR xs a) d
          have r2 := cutR_length (cutR xs a) d
          simp only [cut_eq N xs a (by omega) (by omega) x2 b1 (by omega), cut_eq N (cutR xs a) d (by omega) (by omega) rc b3 (by omega), oSome_some, oGet_some, cond_true]
          have hJ : [cutL xs a, ys, cutR (cutR xs a) d].flatten.length ≤ 1300 := by simp; omega
          simp only [concatR_eq N [cutL xs a, ys, cutR (cutR xs a) d] (by simp; omega) (by simp) (by omega), oSome_some, oGet_some, cond_true]
          have hz : zz xs a d ys = [cutL xs a, ys, cutR (cutR xs a) d].flatten.foldl pushN [] := by
            rw [← fold_expand]
            · unfold zz pieces
              simp only [List.flatten_cons, List.flatten_nil, List.append_nil, expand_append, expand_cutL xs a b1 x2, expand_cutR _ d b3 rc, expand_cutR xs a b1 x2, List.drop_drop, show (a + d).toNat = a.toNat + d.toNat by omega]
            · intro r hr
              simp only [List.flatten_cons, List.flatten_nil, List.append_nil, List.mem_append] at hr
              rcases hr with hr | hr | hr
              · have := cutL_counts xs a x2 r hr; omega
              · have := y2 r hr; omega
              · have := cutR_counts _ d b3 rc r hr; omega
          rw [hz]
          generalize [cutL xs a, ys, cutR (cutR xs a) d].flatten = J at hJ ⊢
          refine iterF_run (fun i => ((J.take i).foldl pushN [], ((i : Int), ()))) J.length _ rfl ?_ ?_ (by omega)
          · intro i hi ih
            have h1 := foldl_pushN_length (J.take i) []
            rw [List.length_take] at h1
            simp only [List.length_nil] at h1
            dsimp only
            rw [cond_pos (lt_len hi), cond_pos (inB_len hi), lget_at _ hi, iadd_nat (by omega)]
            simp only [appendRunN_eq N _ _ (show ((J.take i).foldl pushN []).length ≤ 2000000 by omega), oSome_some, oGet_some, cond_true]
            rw [take_snoc hi, List.foldl_append, List.foldl_cons, List.foldl_nil]
          · intro ih
            dsimp only
            rw [cond_neg (nlt_len (by omega)), List.take_length]
            simp only [bounded_eq, oSome_some, oGet_some, cond_true]
            split <;> rfl
    · simp only [if_neg c2]
      rw [cond_pos (by rw [neI_dec]; simp [c2])]
      simp
  · simp only [if_neg c1]
    rw [cond_pos (by rw [neI_dec]; simp [c1])]

theorem spl_length (xs : List D_rle_Run) (a d : Int) (ys : List D_rle_Run) : (spl xs a d ys).1.length ≤ 400 := by
  unfold spl
  split
  · split
    · cases bad (lenI (expand xs)) a d with
      | true => simp
      | false =>
        cases big xs d ys with
        | true => simp
        | false =>
          simp only [cond_false]
          split
          · simp
          · simp only; omega
    · simp
  · simp

theorem law (N : Nat) (xs : List D_rle_Run) (a d : Int) (ys : List D_rle_Run) (hN : 2000000 < N) (hx : xs.length ≤ 1048576) (hy : ys.length ≤ 1048576) : F_stemlaw4_RLESpliceMatchesReference N (xs, (a, (d, (ys, ())))) = some ((true, ()), ()) := by
  simp only [F_stemlaw4_RLESpliceMatchesReference, letJ_def, splice_eq N xs a d ys hN hx hy, checkRuns_eq N xs (by omega) hx, checkRuns_eq N ys (by omega) hy, works_eq N (by omega), oSome_some, oGet_some, cond_true, eqI_dec]
  have hsl := spl_length xs a d ys
  have hEq : ∀ zs : List D_rle_Run, zs.length ≤ 400 → F_slices_Equal_rle_Run N (zs, (zs, ())) = some ((true, ()), ()) := fun zs h => equal_eq N zs (by omega) (by omega)
  rw [cond_pos (by cases decide (chkRuns xs = 0) <;> rfl)]
  by_cases c1 : chkRuns xs = 0
  · simp only [c1, decide_true, cond_true]
    by_cases c2 : chkRuns ys = 0
    · simp only [c2, decide_true, cond_true]
      obtain ⟨x1, x2, x3⟩ := chkRuns_ok c1
      obtain ⟨y1, y2, y3⟩ := chkRuns_ok c2
      simp only [expand_eq N xs (by omega) (by omega) x2 (by omega) x3, expand_eq N ys (by omega) (by omega) y2 (by omega) y3, oSome_some, oGet_some, Bool.and_self, cond_true]
      have hs : spl xs a d ys = (bif bad (lenI (expand xs)) a d then ([], (1, ())) else bif big xs d ys then ([], (2, ())) else if 400 < (zz xs a d ys).length then ([], (2, ())) else (zz xs a d ys, (0, ()))) := by
        unfold spl; rw [if_pos c1, if_pos c2]
      rw [hs]
      have e1 : ((((ltI a 0) || (ltI (lenI (expand xs)) a)) || (ltI d 0)) || (ltI (isub .i64 (lenI (expand xs)) a) d)) = bad (lenI (expand xs)) a d := rfl
      have e2 : ltI 100000 (iadd .i64 (isub .i64 (lenI (expand xs)) d) (lenI (expand ys))) = big xs d ys := rfl
      simp only [e1, e2]
      cases hb : bad (lenI (expand xs)) a d with
      | true => simp [hEq [] (by simp), oSome_some, oGet_some]
      | false =>
        simp only [cond_false, Bool.false_or]
        cases hg : big xs d ys with
        | true => simp [hEq [] (by simp), oSome_some, oGet_some]
        | false =>
          have hL : lenI (expand xs) = ((expand xs).length : Int) := lenI_def _
          have hb' := hb
          rw [hL] at hb'
          obtain ⟨b1, b2, b3, b4⟩ := bad_false (by omega) (by omega) hb'
          have i1 : inS 0 a (lenI (expand xs)) = true := by rw [inS_dec, hL]; simp; omega
          have ea : iadd .i64 a d = a + d := iadd64 (by omega) (by omega)
          have i2 : inS (a + d) (lenI (expand xs)) (lenI (expand xs)) = true := by rw [inS_dec, hL]; simp; omega
          have s1 : lslice (expand xs) 0 a = (expand xs).take a.toNat := by
            have := slice_to (expand xs) a.toNat
            rwa [Int.toNat_of_nonneg b1] at this
          have s2 : lslice (expand xs) (a + d) (lenI (expand xs)) = (expand xs).drop (a + d).toNat := by
            have := slice_from (expand xs) (a + d).toNat
            rwa [Int.toNat_of_nonneg (by omega)] at this
          have hp : (pieces xs a d ys).flatten.length ≤ 300000 := by
            simp only [pieces, List.flatten_cons, List.flatten_nil, List.append_nil, List.length_append, List.length_take, List.length_drop]; omega
          have hcat := concatV_eq N (pieces xs a d ys) (by simp [pieces]; omega) (by simp [pieces]) (by omega)
          have hcol := collapse_eq N (pieces xs a d ys).flatten (by omega) (by omega)
          unfold pieces at hcat hcol
          have hl : ltI 400 (lenI (zz xs a d ys)) = decide (400 < (zz xs a d ys).length) := by
            rw [ltI_def, lenI_def]
            by_cases h : 400 < (zz xs a d ys).length
            · rw [decide_eq_true h, decide_eq_true (by omega)]
            · rw [decide_eq_false h, decide_eq_false (by omega)]
          have hzz : zz xs a d ys = [(expand xs).take a.toNat, expand ys, (expand xs).drop (a + d).toNat].flatten.foldl push [] := rfl
          simp only [i1, ea, i2, s1, s2, hcat, hcol, oSome_some, oGet_some, Bool.and_self, Bool.or_true, cond_true, cond_false, ← hzz, hl]
          by_cases h : 400 < (zz xs a d ys).length
          · simp [h, hEq [] (by simp), oSome_some, oGet_some]
          · simp [h, hEq _ (show (zz xs a d ys).length ≤ 400 by omega), oSome_some, oGet_some]
    · have hs : spl xs a d ys = ([], (chkRuns ys, ())) := by unfold spl; rw [if_pos c1, if_neg c2]
      simp [hs, c2, hEq [] (by simp), oSome_some, oGet_some]
  · have hs : spl xs a d ys = ([], (chkRuns xs, ())) := by unfold spl; rw [if_neg c1]
    simp [hs, c1, hEq [] (by simp), oSome_some, oGet_some]

theorem lawUpto (x : (List D_rle_Run) × (Int × (Int × ((List D_rle_Run) × Unit)))) (hg : goodAll [.slice T_rle_Run, .int .i64, .int .i64, .slice T_rle_Run] x) (h : bulkAll [.slice T_rle_Run, .int .i64, .int .i64, .slice T_rle_Run] x ≤ 1048576) : ∃ N z, F_stemlaw4_RLESpliceMatchesReference N x = some ((true, ()), z) := by
  obtain ⟨xs, a, d, ys, _⟩ := x
  have e : bulkAll [.slice T_rle_Run, .int .i64, .int .i64, .slice T_rle_Run] (xs, (a, (d, (ys, ())))) = (Ty.slice T_rle_Run).bulk xs + ((Ty.int .i64).bulk a + ((Ty.int .i64).bulk d + ((Ty.slice T_rle_Run).bulk ys + 0))) := rfl
  rw [e] at h
  have h1 := bulk_slice T_rle_Run xs
  have h2 := bulk_slice T_rle_Run ys
  exact ⟨2000001, (), law _ xs a d ys (by omega) (by omega) (by omega)⟩
end
end Go.Proofs.Ytpnklahcegahiaa
