/- BitmapRead: the plain law. -/
import Derived.Test.YtpnklahcegahiaaDoorBml
set_option linter.unusedVariables false
set_option linter.unusedSimpArgs false
set_option linter.unnecessarySimpa false
set_option linter.unusedSectionVars false
set_option linter.unusedSimpArgs false
namespace Go.Proofs.YtpnklahcegahiaaDoor
open Go.Vi
noncomputable section

theorem equalI_refl (N : Nat) (xs : List Int) (hb : xs.length ≤ 2000000) (hN : xs.length < N) : F_slices_Equal_int N (xs, (xs, ())) = some ((true, ()), ()) := by
  simp only [F_slices_Equal_int]
  rw [cond_neg (by rw [neI_dec]; simp)]
  refine iterF_run (fun i => ((i : Int), ())) xs.length _ rfl ?_ ?_ hN
  · intro i hi ih
    dsimp only
    rw [cond_pos (lt_len hi), inB_len hi, lget_at _ hi, iadd_nat (by omega)]
    simp [neI_dec, eqI_dec]
  · intro ih
    dsimp only
    rw [cond_neg (nlt_len (by omega))]

theorem law (N : Nat) (n : Int) (ws : List Int) (i : Int) (hw : ∀ w ∈ ws, I64 w) (hl : ws.length ≤ 1048576) (hN : 100000000 < N) : F_stemlaw4_BitmapReadMatchesReference N ((n, (ws, ())), (i, ())) = some ((true, ()), ()) := by
  simp only [F_stemlaw4_BitmapReadMatchesReference, letJ_def, indices_eq N n ws hw hl hN, count_eq N n ws hw hl hN, rank_eq N n ws i hw hl hN, checkB_eq N n ws hw hl hN, check_eq N n ws hw hl hN, works_eq N (by omega), oSome_some, oGet_some, cond_true, neI_dec]
  by_cases hc : chk n ws = 0
  · obtain ⟨m, rfl, hm, hok⟩ := chk_zero hc
    have hb := bits_any N ws hm hw hl hN
    rw [if_pos hok] at hb
    have hdl : (dec ws).length = 31 * ((m + 30) / 31) := hok.2.1
    have htl : ((dec ws).take m).length = m := by rw [List.length_take, hdl]; omega
    have hlt := trueFrom_length ((dec ws).take m) 0
    simp only [if_pos hc, hc, hb, oSome_some, oGet_some, Int.toNat_natCast]
    have ht1 := trueIndices_eq N ((dec ws).take m) (by omega) (by omega)
    have hE := equalI_refl N (trueFrom 0 ((dec ws).take m)) (by omega) (by omega)
    have hct : ct (dec ws) = ct ((dec ws).take m) := by
      conv => lhs; rw [← List.take_append_drop m (dec ws), ct_append]
      have hz : ct ((dec ws).drop m) = 0 := by
        rw [← trueFrom_ct _ 0, trueFrom_none _ _ ?_]
        · rfl
        · intro b hb
          obtain ⟨q, hq, rfl⟩ := List.getElem_of_mem hb
          refine hok.2.2 (m + q) (by omega) _ ?_
          rw [List.getElem_drop, List.getElem?_eq_getElem (by rw [List.length_drop] at hq; omega)]
      omega
    have hlen : lenI (trueFrom 0 ((dec ws).take m)) = ((ct (dec ws) : Nat) : Int) := by rw [lenI_def, trueFrom_ct, hct]
    simp only [ht1, hE, hlen, oSome_some, oGet_some]
    cases hbad : (ltI i 0) || (ltI (m : Int) i) with
    | true => simp [eqI_dec, hE, oSome_some, oGet_some]
    | false =>
      simp only [Bool.or_eq_false_iff, ltI_dec, decide_eq_false_iff_not] at hbad
      obtain ⟨k, rfl⟩ : ∃ k : Nat, i = (k : Int) := ⟨i.toNat, by omega⟩
      have hs : lslice ((dec ws).take m) 0 (k : Int) = (dec ws).take k := by
        rw [slice_to, List.take_take, show min k m = k by omega]
      have hin : Go.Vi.inS 0 (k : Int) (lenI ((dec ws).take m)) = true := by
        rw [inS_dec, lenI_def, htl]; simp; omega
      have ht2 := trueIndices_eq N ((dec ws).take k) (by rw [List.length_take]; omega) (by rw [List.length_take]; omega)
      have hlen2 : lenI (trueFrom 0 ((dec ws).take k)) = ((ct ((dec ws).take k) : Nat) : Int) := by rw [lenI_def, trueFrom_ct]
      simp only [hs, hin, ht2, hlen2, oSome_some, oGet_some, Int.toNat_natCast]
      simp [eqI_dec, hE, oSome_some, oGet_some]
  · simp only [if_neg hc]
    have e0 : lenI ([] : List Int) = 0 := by rw [lenI_def]; rfl
    have e2 : iadd .i64 0 0 = 0 := by rw [iadd64 (by decide) (by decide)]; rfl
    have e1 : iadd .i64 (iadd .i64 0 0) 0 = 0 := by rw [e2, e2]
    simp [hc, e0, e1, eqI_dec]

theorem lawUpto (x : D_bitmap_Bitmap × (Int × Unit)) (hg : goodAll [T_bitmap_Bitmap, .int .i64] x) (h : bulkAll [T_bitmap_Bitmap, .int .i64] x ≤ 1048576) : ∃ N z, F_stemlaw4_BitmapReadMatchesReference N x = some ((true, ()), z) := by
  obtain ⟨⟨na, wa, _⟩, i, _⟩ := x
  have good : ∀ {ws : List Int}, (Ty.slice (.int .i64)).good ws → ∀ w ∈ ws, I64 w := fun hg w hw => by
    have := hg w hw
    simp [Ty.good, IntKind.has, IntKind.min, IntKind.max, IntKind.signed, IntKind.bits] at this
    exact ⟨by omega, by omega⟩
  have e : bulkAll [T_bitmap_Bitmap, .int .i64] ((na, (wa, ())), (i, ())) = ((Ty.int .i64).bulk na + ((Ty.slice (.int .i64)).bulk wa + Ty.unit.bulk ())) + ((Ty.int .i64).bulk i + 0) := rfl
  rw [e] at h
  have h1 := bulk_slice (.int .i64) wa
  exact ⟨100000001, (), law _ na wa i (good hg.1.2.1) (by omega) (by omega)⟩
end
end Go.Proofs.YtpnklahcegahiaaDoor
