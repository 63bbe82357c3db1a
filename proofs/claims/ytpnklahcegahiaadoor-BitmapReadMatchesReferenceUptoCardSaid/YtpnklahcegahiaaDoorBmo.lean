/- Any bitmap: what the reference and the program read of it. -/
import Derived.Test.YtpnklahcegahiaaDoorBmq
set_option linter.unusedVariables false
set_option linter.unusedSimpArgs false
set_option linter.unnecessarySimpa false
set_option linter.unusedSectionVars false
set_option linter.unusedSimpArgs false
namespace Go.Proofs.YtpnklahcegahiaaDoor
open Go.Vi
noncomputable section
open Classical

def I64 (w : Int) : Prop := -9223372036854775808 ≤ w ∧ w < 9223372036854775808

/-! ## The reference's reader -/
def noTrue (n : Nat) (d : List Bool) : Prop := ∀ k, n ≤ k → ∀ b, d[k]? = some b → b = false
def rB (n : Nat) : List Int → List Bool → Int → List Bool × (Bool × Unit)
  | [], out, _ => if out.length = 31 * ((n + 30) / 31) ∧ noTrue n out then (out.take n, (true, ())) else ([], (false, ()))
  | w :: r, out, l => if okW l w ∧ ¬ (w < 0 ∧ (w < -2 * (n : Int) - 3 ∨ n + 31 < out.length + 31 * fillN w)) then rB n r (out ++ wdec w) (nextW l w) else ([], (false, ()))

theorem bitOf_01 (w : Int) : bitOf w = 0 ∨ bitOf w = 1 := by unfold bitOf; omega
theorem irem_bit {w : Int} (h : w < 0) : ineg .i64 (irem w 2) = bitOf w := by
  have hd := Int.tmod_add_mul_tdiv w 2
  have hr : irem w 2 = w.tmod 2 := irem_def _ _
  have h1 : -2 < w.tmod 2 ∧ w.tmod 2 < 2 := ⟨by have := Int.lt_tmod_of_pos w (b := 2) (by omega); omega, Int.tmod_lt_of_pos _ (by omega)⟩
  have h2 : w.tmod 2 ≤ 0 := by
    have := Int.tmod_nonneg (b := 2) (a := -w) (by omega)
    rw [Int.neg_tmod] at this; omega
  rw [hr, ineg64 (by omega) (by omega)]
  unfold bitOf; omega

/-- The last look: no bit behind the end. -/
theorem tail_run {N n : Nat} (out : List Bool) (hn : n ≤ out.length) (hl : out.length ≤ 100000000) (hN : out.length < N) :
    iterF (S := Int × Unit) (R := (List Bool × (Bool × Unit)) × Unit) N (fun ih2 => fun p3 => bif ltI p3.1 (lenI out) then bif inB p3.1 (lenI out) then bif lget out p3.1 false then some (([], (false, ())), ()) else ih2 (iadd .i64 p3.1 1, ()) else none else bif Go.Vi.inS 0 (n : Int) (lenI out) then some ((lslice out 0 (n : Int), (true, ())), ()) else none) ((n : Int), ()) =
      some ((if noTrue n out then (out.take n, (true, ())) else ([], (false, ()))), ()) := by
  have hfi : (out.drop n).findIdx id ≤ out.length - n := by have := List.findIdx_le_length (p := (id : Bool → Bool)) (xs := out.drop n); rw [List.length_drop] at this; exact this
  have hfalse : ∀ k, k < (out.drop n).findIdx id → ∀ h : n + k < out.length, out[n + k] = false := fun k hk h => by
    have := List.not_of_lt_findIdx hk
    simpa [List.getElem_drop] using this
  refine iterF_run (fun k => (((n + k : Nat) : Int), ())) ((out.drop n).findIdx id) _ rfl ?_ ?_ (by omega)
  · intro k hk ih2
    have hk' : n + k < out.length := by omega
    dsimp only
    rw [cond_pos (lt_len hk'), cond_pos (inB_len hk'), lget_at false hk', hfalse k hk hk', cond_neg rfl, iadd_nat (by omega)]
    rfl
  · intro ih2
    dsimp only
    by_cases hk : n + (out.drop n).findIdx id < out.length
    · have hb : out[n + (out.drop n).findIdx id] = true := by
        have := List.findIdx_getElem (p := (id : Bool → Bool)) (xs := out.drop n) (w := by rw [List.length_drop]; omega)
        simpa [List.getElem_drop] using this
      rw [cond_pos (lt_len hk), cond_pos (inB_len hk), lget_at false hk, hb, cond_pos rfl, if_neg]
      intro hno
      have := hno _ (Nat.le_add_right _ _) _ (List.getElem?_eq_getElem hk)
      rw [hb] at this
      cases this
    · have he : n + (out.drop n).findIdx id = out.length := by omega
      rw [cond_neg (nlt_len hk), cond_pos (by rw [inS_dec, lenI_def]; simp; omega), if_pos, slice_to]
      intro k hk2 b hb
      obtain ⟨h1, rfl⟩ := List.getElem?_eq_some_iff.1 hb
      obtain ⟨j, rfl⟩ : ∃ j, k = n + j := ⟨k - n, by omega⟩
      exact hfalse j (by omega) h1

theorem bits_run (N : Nat) {n : Nat} (ws : List Int) (hn : n ≤ 100000) (hw : ∀ w ∈ ws, I64 w) (hl : ws.length ≤ 1048576) (hN : 100000000 < N) :
    F_stemref4_Bits N (((n : Int), (ws, ())), ()) = some (rB n ws [] 2, ()) := by
  simp only [F_stemref4_Bits, letJ_def]
  refine (iterF_post (S := (List Bool) × (Int × (Int × Unit))) (R := (List Bool × (Bool × Unit)) × Unit) (fun p => ws.length - p.2.2.1.toNat) (fun p => ∃ i : Nat, p.2.2.1 = (i : Int) ∧ i ≤ ws.length ∧ p.1.length ≤ 200000 + 31 * i) (fun p => (rB n (ws.drop p.2.2.1.toNat) p.1 p.2.1, ())) ?_ N _ ⟨0, rfl, Nat.zero_le _, by simp⟩ (by simp; omega)).trans (by simp)
  rintro ih ⟨out, l, _, _⟩ ⟨i, rfl, hi0, ho⟩ hih
  simp only [Int.toNat_natCast] at hih ho ⊢
  by_cases hi : i < ws.length
  · have hw64 := hw ws[i] (List.getElem_mem _)
    rw [cond_pos (lt_len hi), cond_pos (inB_len hi), lget_at 0 hi, iadd_nat (by omega), drop_cons' hi]
    have fin : ∀ o' : List Bool, ∀ l' : Int, o'.length ≤ 200000 + 31 * (i + 1) → ih (o', (l', (((i + 1 : Nat) : Int), ()))) = some (rB n (ws.drop (i + 1)) o' l', ()) := fun o' l' h => by
      have := hih (o', (l', (((i + 1 : Nat) : Int), ()))) ⟨i + 1, rfl, by omega, h⟩ (by simp only [Int.toNat_natCast]; omega)
      simpa using this
    generalize ws[i] = w at *
    by_cases hpos : 0 ≤ w
    · rw [cond_pos (by rw [leI_dec]; simpa using hpos)]
      by_cases hlit : 0 < w ∧ w < 2147483647
      · obtain ⟨m, rfl⟩ : ∃ m : Nat, w = (m : Int) := ⟨w.toNat, by omega⟩
        rw [cond_neg (by rw [eqI_dec, leI_dec]; simp; omega)]
        rw [rB, if_pos ⟨.inl hlit, fun h => by omega⟩, show nextW l (m : Int) = 2 by unfold nextW; rw [if_pos hpos], wdec_pos hpos, ← fin _ _ (by rw [List.length_append, gbits_length]; omega)]
        refine iterF_run (fun k => (out ++ (gbits (m : Int)).take k, ((k : Int), ()))) 31 _ (by simp) ?_ ?_ (by omega)
        · intro k hk ih2
          have hb : eqI (irem (shrI .i64 (m : Int) (k : Int)) 2) 1 = m.testBit k := by
            rw [shr64 (by omega), irem64 (Int.natCast_nonneg _), eqI_dec, ← testBit_mod]
            generalize m / 2 ^ k = q
            congr 1
            apply propext
            omega
          have hr : room2 (lenI (out ++ (gbits (m : Int)).take k)) (lenI ([m.testBit k] : List Bool)) 1 = true := room2_ok (by
            simp only [List.length_append, List.length_take, gbits_length, List.length_cons, List.length_nil]; omega)
          simp only [hb, hr]
          have hkb : k < (gbits (m : Int)).length := by rw [gbits_length]; exact hk
          rw [cond_pos (by rw [ltI_dec]; simp; omega), cond_pos (by rw [leI_dec, neI_dec]; simp), lapp_def, iadd_nat (i := k) (by omega), take_snoc hkb, List.append_assoc]
          simp [gbits]
        · intro ih2
          rw [cond_neg (by rw [ltI_dec]; rfl), List.take_of_length_le (by rw [gbits_length]; omega)]
      · rw [cond_pos (by rw [eqI_dec, leI_dec]; simp; omega), rB, if_neg]
        rintro ⟨h1, _⟩
        unfold okW at h1
        omega
    · have hneg : w < 0 := by omega
      rw [cond_neg (by rw [leI_dec]; simp; omega), cond_pos (by rw [neI_dec]; rfl)]
      simp only [irem_bit hneg]
      rw [imul64 (by omega) (by omega), isub64 (by omega) (by omega)]
      by_cases hbad : w = -1 ∨ bitOf w = l ∨ w < -2 * (n : Int) - 3
      · rw [cond_pos (by
          rw [eqI_dec, eqI_dec, ltI_dec]
          simp only [Bool.or_eq_true, decide_eq_true_eq]
          omega), rB, if_neg]
        rintro ⟨h1, h2⟩
        unfold okW at h1
        omega
      · rw [cond_neg (by
          rw [eqI_dec, eqI_dec, ltI_dec]
          simp only [Bool.or_eq_false_iff, decide_eq_false_iff_not]
          omega)]
        have hok : okW l w := .inr ⟨by omega, fun h => hbad (.inr (.inl h))⟩
        have hfb : fillN w ≤ n + 2 := by unfold fillN; omega
        have hf1 : 1 ≤ fillN w := by unfold fillN; omega
        have heq1 : eqI (bitOf w) 1 = decide (bitOf w = 1) := eqI_dec _ _
        have hwd : wdec w = List.replicate (31 * fillN w) (decide (bitOf w = 1)) := by unfold wdec; rw [if_neg hpos]
        have hnw : nextW l w = bitOf w := by unfold nextW; rw [if_neg hpos]
        simp only [heq1]
        generalize hbb : decide (bitOf w = 1) = bb at *
        have inner : ∀ (k : Nat), k < fillN w → ∀ (rest : (List Bool) × (Int × Unit) → Option ((List Bool × (Bool × Unit)) × Unit)),
            iterF (S := (List Bool) × (Int × Unit)) (R := (List Bool × (Bool × Unit)) × Unit) N (fun ih5 => fun p6 => bif ltI p6.2.1 31 then bif room2 (lenI p6.1) (lenI ([bb] : List Bool)) 1 then ih5 (lapp p6.1 ([bb] : List Bool), (iadd .i64 p6.2.1 1, ())) else none else rest p6) (out ++ List.replicate (31 * k) bb, (0, ())) = rest (out ++ List.replicate (31 * (k + 1)) bb, (31, ())) := by
          intro k hk rest
          refine iterF_run (fun j => (out ++ List.replicate (31 * k + j) bb, ((j : Int), ()))) 31 _ rfl ?_ ?_ (by omega)
          · intro j hj ih3
            have hr : room2 (lenI (out ++ List.replicate (31 * k + j) bb)) (lenI ([bb] : List Bool)) 1 = true := room2_ok (by
              simp only [List.length_append, List.length_replicate, List.length_cons, List.length_nil]; omega)
            dsimp only
            rw [cond_pos (by rw [ltI_dec]; simp; omega), cond_pos hr, lapp_def, iadd_nat (by omega), List.append_assoc, rep_snoc]
            rfl
          · intro ih3
            dsimp only
            rw [cond_neg (by rw [ltI_dec]; rfl), Nat.mul_add]
            rfl
        by_cases hfit : out.length + 31 * fillN w ≤ n + 31
        · rw [rB, if_pos ⟨hok, fun h => by omega⟩, hnw, hwd, ← fin _ _ (by rw [List.length_append, List.length_replicate]; omega)]
          refine iterF_run (fun k => (out ++ List.replicate (31 * k) bb, (w + 2 * (k : Int), ()))) (fillN w) _ (by simp) ?_ ?_ (by omega)
          · intro k hk ih2
            dsimp only
            rw [cond_pos (by rw [ltI_dec]; unfold fillN at hk; simp; omega), inner k hk (fun p6 => bif ltI (iadd .i64 (n : Int) 31) (lenI p6.1) then some (([], (false, ())), ()) else ih2 (p6.1, (iadd .i64 (w + 2 * (k : Int)) 2, ())))]
            dsimp only
            rw [cond_neg (by
              rw [ltI_dec, lenI_def, iadd64 (by omega) (by omega)]
              simp only [List.length_append, List.length_replicate, decide_eq_false_iff_not]
              omega), iadd64 (by omega) (by omega)]
            rw [show w + 2 * (k : Int) + 2 = w + 2 * ((k + 1 : Nat) : Int) by omega]
          · intro ih2
            dsimp only
            rw [cond_neg (by rw [ltI_dec]; unfold fillN; simp; omega)]
        · rw [rB, if_neg (fun h => h.2 ⟨hneg, .inr (by omega)⟩)]
          obtain ⟨j, hj1, hj2, hj3⟩ : ∃ j, j < fillN w ∧ n + 31 < out.length + 31 * (j + 1) ∧ ∀ k, k < j → out.length + 31 * (k + 1) ≤ n + 31 := by
            by_cases h0 : n + 31 < out.length
            · exact ⟨0, by omega, by omega, fun k hk => by omega⟩
            · refine ⟨(n + 31 - out.length) / 31, ?_, ?_, fun k hk => ?_⟩ <;> omega
          refine iterF_run (fun k => (out ++ List.replicate (31 * k) bb, (w + 2 * (k : Int), ()))) j _ (by simp) ?_ ?_ (by omega)
          · intro k hk ih2
            dsimp only
            rw [cond_pos (by rw [ltI_dec]; unfold fillN at hj1; simp; omega), inner k (by omega) (fun p6 => bif ltI (iadd .i64 (n : Int) 31) (lenI p6.1) then some (([], (false, ())), ()) else ih2 (p6.1, (iadd .i64 (w + 2 * (k : Int)) 2, ())))]
            have := hj3 k hk
            dsimp only
            rw [cond_neg (by
              rw [ltI_dec, lenI_def, iadd64 (by omega) (by omega)]
              simp only [List.length_append, List.length_replicate, decide_eq_false_iff_not]
              omega), iadd64 (by omega) (by omega)]
            rw [show w + 2 * (k : Int) + 2 = w + 2 * ((k + 1 : Nat) : Int) by omega]
          · intro ih2
            dsimp only
            rw [cond_pos (by rw [ltI_dec]; unfold fillN at hj1; simp; omega), inner j hj1 (fun p6 => bif ltI (iadd .i64 (n : Int) 31) (lenI p6.1) then some (([], (false, ())), ()) else ih2 (p6.1, (iadd .i64 (w + 2 * (j : Int)) 2, ())))]
            dsimp only
            rw [cond_pos (by
              rw [ltI_dec, lenI_def, iadd64 (by omega) (by omega)]
              simp only [List.length_append, List.length_replicate, decide_eq_true_eq]
              omega)]
  · have hie : i = ws.length := by omega
    rw [cond_neg (nlt_len hi), cond_pos (by rw [neI_dec]; rfl)]
    have e : imul .i64 (iquo .i64 (iadd .i64 (n : Int) 30) 31) 31 = ((31 * ((n + 30) / 31) : Nat) : Int) := by
      rw [iadd64 (by omega) (by omega), iquo64 (by omega) (by omega) (by omega), imul64 (by omega) (by omega)]
      omega
    rw [e, hie, List.drop_length, rB]
    by_cases hlen : out.length = 31 * ((n + 30) / 31)
    · rw [cond_neg (by rw [neI_dec, lenI_def, hlen]; simp), tail_run out (by omega) (by omega) (by omega)]
      simp only [hlen, true_and]
    · rw [cond_pos (by rw [neI_dec, lenI_def]; simp; omega), if_neg (fun h => hlen h.1)]

def OkB (n : Nat) (ws : List Int) : Prop := Canon 2 ws ∧ (dec ws).length = 31 * ((n + 30) / 31) ∧ noTrue n (dec ws)
theorem rB_spec (n : Nat) : (ws : List Int) → (out : List Bool) → (l : Int) → rB n ws out l = if Canon l ws ∧ (out ++ dec ws).length = 31 * ((n + 30) / 31) ∧ noTrue n (out ++ dec ws) then ((out ++ dec ws).take n, (true, ())) else ([], (false, ()))
  | [], out, l => by simp [rB, Canon, dec]
  | w :: r, out, l => by
    have hd : dec (w :: r) = wdec w ++ dec r := by simp [dec]
    rw [rB]
    by_cases h : okW l w ∧ ¬ (w < 0 ∧ (w < -2 * (n : Int) - 3 ∨ n + 31 < out.length + 31 * fillN w))
    · rw [if_pos h, rB_spec n r, hd, List.append_assoc]
      simp only [Canon, h.1, true_and]
    · rw [if_neg h, if_neg]
      rintro ⟨⟨h1, _⟩, h2, _⟩
      refine h ⟨h1, fun ⟨h3, h4⟩ => ?_⟩
      rw [hd, List.length_append, List.length_append, wdec_length h3] at h2
      unfold fillN at h2 h4
      omega

theorem bits_any (N : Nat) {n : Nat} (ws : List Int) (hn : n ≤ 100000) (hw : ∀ w ∈ ws, I64 w) (hl : ws.length ≤ 1048576) (hN : 100000000 < N) :
    F_stemref4_Bits N (((n : Int), (ws, ())), ()) = some ((if OkB n ws then ((dec ws).take n, (true, ())) else ([], (false, ()))), ()) := by
  rw [bits_run N ws hn hw hl hN, rB_spec]
  simp only [List.nil_append]
  by_cases h : OkB n ws
  · rw [if_pos h]; unfold OkB at h; rw [if_pos h]
  · rw [if_neg h]; unfold OkB at h; rw [if_neg h]

/-! ## The program's reader -/
def pat (w : Int) : Int := if bitOf w = 0 then 0 else 2147483647
def wgrp (w : Int) : List Int := if 0 ≤ w then [w] else List.replicate (fillN w) (pat w)
def grp (ws : List Int) : List Int := ws.flatMap wgrp
def maskOf (n : Nat) : Nat := if n % 31 = 0 then 2147483647 else 2 ^ (n % 31) - 1
def fits (n : Nat) (G : List Int) : Prop := ∀ g, G.getLast? = some g → bandnot .i64 g ((maskOf n : Nat) : Int) = 0
def rE (n : Nat) : List Int → List Int → Int → List Int × (Bool × Unit)
  | [], G, _ => if G.length = (n + 30) / 31 ∧ fits n G then (G, (true, ())) else ([], (false, ()))
  | w :: r, G, l => if okW l w ∧ ¬ (w < 0 ∧ (n + 30) / 31 < G.length + fillN w) then rE n r (G ++ wgrp w) (nextW l w) else ([], (false, ()))

theorem lastMask_eq' (N : Nat) {n : Nat} (h : n ≤ 100000) : F_bitmap_lastMask N ((n : Int), ()) = some ((((maskOf n : Nat) : Int), ()), ()) := by
  rw [lastMask_eq N h]
  unfold maskOf
  split <;> rfl

/-- What the fill's decoder says, of whatever negative word. -/
theorem decodeFill_any (N : Nat) {w : Int} (h : w < 0) (h64 : I64 w) : ∃ q : Int, F_bitmap_decodeFill N (w, ()) = some ((q, (pat w, ())), ()) ∧ (q = (fillN w : Int) ∨ (w = -9223372036854775808 ∧ q = -4611686018427387904)) := by
  have hr : irem w 2 = w.tmod 2 := irem_def _ _
  have h0 : (w.tmod 2 = 0) ↔ bitOf w = 0 := by
    unfold bitOf; rw [← Int.dvd_iff_tmod_eq_zero, Int.dvd_iff_emod_eq_zero]
  unfold I64 at h64
  simp only [F_bitmap_decodeFill]
  rw [cond_pos (by rw [neI_dec]; rfl), hr, eqI_dec]
  by_cases hm : w = -9223372036854775808
  · subst hm
    refine ⟨-4611686018427387904, ?_, .inr ⟨rfl, rfl⟩⟩
    rw [cond_pos (by decide), cond_pos (by rw [neI_dec]; rfl), ineg_def, iquo_def]
    decide
  · by_cases hb : bitOf w = 0
    · refine ⟨fillN w, ?_, .inl rfl⟩
      rw [cond_pos (by simp [h0, hb]), cond_pos (by rw [neI_dec]; rfl), ineg64 (by omega) (by omega), iquo64 (by omega) (by omega) (by omega), pat, if_pos hb]
      congr 3
      unfold fillN; omega
    · have hb2 := hb
      unfold bitOf at hb2
      refine ⟨fillN w, ?_, .inl rfl⟩
      rw [cond_neg (by simp [h0, hb]), cond_pos (by rw [neI_dec]; rfl), ineg64 (by omega) (by omega), isub64 (by omega) (by omega), iquo64 (by omega) (by omega) (by omega), pat, if_neg hb]
      congr 3
      unfold fillN; omega
theorem pat_inj {v w : Int} : pat v = pat w ↔ bitOf v = bitOf w := by
  unfold pat
  have := bitOf_01 v
  have := bitOf_01 w
  split <;> split <;> omega

theorem fill_run {N : Nat} {R : Type} (G : List Int) (c : Nat) (y : Int) (rest : List Int → Option R) (hl : G.length + c ≤ 100000000) (hN : c < N) :
    iterF (S := (List Int) × (Int × Unit)) (R := R) N (fun ih7 => fun p8 => bif ltI p8.2.1 (c : Int) then bif room2 (lenI p8.1) (lenI ([y] : List Int)) 8 then ih7 (lapp p8.1 ([y] : List Int), (iadd .i64 p8.2.1 1, ())) else none else rest p8.1) (G, (0, ())) = rest (G ++ List.replicate c y) := by
  refine iterF_run (fun j => (G ++ List.replicate j y, ((j : Int), ()))) c _ (by simp) ?_ ?_ hN
  · intro j hj ih
    dsimp only
    have hr : room2 (lenI (G ++ List.replicate j y)) (lenI ([y] : List Int)) 8 = true := room2_ok (by
      simp only [List.length_append, List.length_replicate, List.length_cons, List.length_nil]; omega)
    rw [cond_pos (by rw [ltI_dec]; simp; omega), cond_pos hr, lapp_def, iadd_nat (by omega), List.append_assoc, rep_snoc]
  · intro ih
    dsimp only
    rw [cond_neg (by rw [ltI_dec]; simp)]

theorem expand_run (N : Nat) {n : Nat} (ws : List Int) (hn : n ≤ 100000) (hw : ∀ w ∈ ws, I64 w) (hl : ws.length ≤ 1048576) (hN : 100000000 < N) :
    F_bitmap_expand N (((n : Int), (ws, ())), ()) = some (rE n ws [] 2, ()) := by
  simp only [F_bitmap_expand, letJ_def]
  simp only [groupCount_eq N (n := n) hn, lastMask_eq' N (n := n) hn, oSome_some, oGet_some, Bool.or_true, Bool.and_true, Bool.true_and, cond_true]
  refine (iterF_post (S := (List Int) × (Int × Unit)) (R := (List Int × (Bool × Unit)) × Unit) (fun p => ws.length - p.2.1.toNat) (fun p => ∃ i : Nat, p.2.1 = (i : Int) ∧ i ≤ ws.length ∧ p.1.length ≤ 10000 + i) (fun p => (rE n (ws.drop p.2.1.toNat) p.1 (lastF 2 (ws.take p.2.1.toNat)), ())) ?_ N _ ⟨0, rfl, Nat.zero_le _, by simp⟩ (by simp; omega)).trans (by simp [lastF])
  rintro ih ⟨G, _, _⟩ ⟨i, rfl, hi0, ho⟩ hih
  simp only [Int.toNat_natCast] at hih ho ⊢
  by_cases hi : i < ws.length
  · have hw64 := hw ws[i] (List.getElem_mem _)
    rw [cond_pos (lt_len hi), cond_pos (inB_len hi)]
    simp only [lget_at 0 hi, iadd_nat (show i < 4611686018427387904 by omega)]
    rw [drop_cons' hi]
    have fin : ∀ G' : List Int, G'.length ≤ 10000 + (i + 1) → ih (G', (((i + 1 : Nat) : Int), ())) = some (rE n (ws.drop (i + 1)) G' (nextW (lastF 2 (ws.take i)) ws[i]), ()) := fun G' h => by
      have := hih (G', (((i + 1 : Nat) : Int), ())) ⟨i + 1, rfl, by omega, h⟩ (by simp only [Int.toNat_natCast]; omega)
      rw [Int.toNat_natCast, take_snoc hi, lastF_snoc] at this
      exact this
    -- the word ahead
    have hprev : (0 < i ∧ ∃ v, v < 0 ∧ I64 v ∧ lget ws (isub .i64 (i : Int) 1) 0 = v ∧ lastF 2 (ws.take i) = bitOf v ∧ inB (isub .i64 (i : Int) 1) (lenI ws) = true) ∨ (((0 < i ∧ 0 ≤ lget ws (isub .i64 (i : Int) 1) 0 ∧ inB (isub .i64 (i : Int) 1) (lenI ws) = true) ∨ i = 0) ∧ lastF 2 (ws.take i) = 2) := by
      rcases Nat.eq_zero_or_pos i with rfl | hpos
      · exact .inr ⟨.inr rfl, by simp [lastF]⟩
      · obtain ⟨j, rfl⟩ : ∃ j, i = j + 1 := ⟨i - 1, by omega⟩
        have hj : j < ws.length := by omega
        have e : isub .i64 ((j + 1 : Nat) : Int) 1 = (j : Int) := by rw [isub64 (by omega) (by omega)]; omega
        rw [e, lget_at 0 hj, take_snoc hj, lastF_snoc]
        unfold nextW
        by_cases h0 : 0 ≤ ws[j]
        · exact .inr ⟨.inl ⟨hpos, h0, inB_len hj⟩, by rw [if_pos h0]⟩
        · exact .inl ⟨hpos, ws[j], by omega, hw _ (List.getElem_mem _), rfl, by rw [if_neg h0], inB_len hj⟩
    generalize hlast : lastF 2 (ws.take i) = l at *
    generalize ws[i] = w at *
    by_cases hpos : 0 ≤ w
    · rw [cond_pos (by rw [leI_dec]; simpa using hpos)]
      by_cases hlit : 0 < w ∧ w < 2147483647
      · rw [cond_neg (by rw [eqI_dec, leI_dec]; simp; omega), cond_pos (room2_ok (by simp only [List.length_cons, List.length_nil]; omega)), lapp_def]
        rw [rE, if_pos ⟨.inl hlit, fun h => by omega⟩, show wgrp w = [w] by unfold wgrp; rw [if_pos hpos]]
        exact fin _ (by simp; omega)
      · rw [cond_pos (by rw [eqI_dec, leI_dec]; simp; omega), rE, if_neg]
        rintro ⟨h1, _⟩
        unfold okW at h1
        omega
    · have hneg : w < 0 := by omega
      rw [cond_neg (by rw [leI_dec]; simp; omega)]
      obtain ⟨q, hq1, hq2⟩ := decodeFill_any N hneg hw64
      simp only [hq1, oSome_some, oGet_some, cond_true]
      have hbig : (n + 30) / 31 ≤ 4000 := by omega
      have hsub : isub .i64 (((n + 30) / 31 : Nat) : Int) (lenI G) = (((n + 30) / 31 : Nat) : Int) - (G.length : Int) := by rw [lenI_def, isub64 (by omega) (by omega)]
      rw [hsub]
      have hcond : (q < 1 ∨ (((n + 30) / 31 : Nat) : Int) - (G.length : Int) < q) ↔ (fillN w < 1 ∨ (n + 30) / 31 < G.length + fillN w) := by
        rcases hq2 with rfl | ⟨rfl, rfl⟩
        · omega
        · have : fillN (-9223372036854775808) = 4611686018427387904 := by decide
          rw [this]; omega
      by_cases hbad : q < 1 ∨ (((n + 30) / 31 : Nat) : Int) - (G.length : Int) < q
      · rw [cond_pos (by rw [ltI_dec, ltI_dec]; simpa using hbad), rE, if_neg]
        rintro ⟨h1, h2⟩
        rcases hcond.1 hbad with h | h
        · unfold okW at h1
          unfold fillN at h
          omega
        · exact h2 ⟨hneg, h⟩
      · have hgood := fun h => hbad (hcond.2 h)
        have hqf : q = (fillN w : Int) := by
          rcases hq2 with h | ⟨_, h⟩
          · exact h
          · omega
        subst hqf
        rw [cond_neg (by rw [ltI_dec, ltI_dec]; simp only [Bool.or_eq_false_iff, decide_eq_false_iff_not]; omega)]
        have hw2 : w ≤ -2 := by
          have : 1 ≤ fillN w := by omega
          unfold fillN at this; omega
        have hfr := fill_run (N := N) (R := (List Int × (Bool × Unit)) × Unit) G (fillN w) (pat w) (fun G' => ih (G', (((i + 1 : Nat) : Int), ()))) (by omega) (by omega)
        have hcont : bitOf w ≠ l → ih (G ++ List.replicate (fillN w) (pat w), (((i + 1 : Nat) : Int), ())) = some (rE n (w :: ws.drop (i + 1)) G l, ()) := fun hne => by
          rw [rE, if_pos ⟨.inr ⟨hw2, hne⟩, fun h => by omega⟩, show wgrp w = List.replicate (fillN w) (pat w) by unfold wgrp; rw [if_neg hpos]]
          exact fin _ (by rw [List.length_append, List.length_replicate]; omega)
        rcases hprev with ⟨hi1, v, hv1, hv2, hv3, hv4, hv5⟩ | ⟨h1, h2⟩
        · obtain ⟨q', hq3, _⟩ := decodeFill_any N hv1 hv2
          simp only [hv3, hv5, hq3, oSome_some, oGet_some, Bool.or_true, Bool.and_true, cond_true]
          rw [cond_pos (by rw [ltI_dec, ltI_dec]; simp; omega), eqI_dec]
          by_cases hsame : pat v = pat w
          · rw [cond_pos (by simpa using hsame), rE, if_neg]
            rintro ⟨h1, _⟩
            have := pat_inj.1 hsame
            unfold okW at h1
            omega
          · rw [cond_neg (by simpa using hsame)]
            refine hfr.trans (hcont fun h => hsame (pat_inj.2 ?_))
            rw [h, hv4]
        · have hb : (!(ltI 0 (i : Int)) || inB (isub .i64 (i : Int) 1) (lenI ws)) = true := by
            rcases h1 with ⟨_, _, h⟩ | h
            · rw [h]; simp
            · rw [h, ltI_dec]; simp
          rw [cond_pos hb, cond_neg (by
            rw [ltI_dec, ltI_dec]
            rcases h1 with ⟨h3, h4, _⟩ | h
            · simp; omega
            · simp [h])]
          refine hfr.trans (hcont fun h => ?_)
          have := bitOf_01 w
          omega
  · have hie : i = ws.length := by omega
    rw [cond_neg (nlt_len hi), hie, List.drop_length, List.take_length, rE]
    by_cases hlen : G.length = (n + 30) / 31
    · have e0 : neI (lenI G) (((n + 30) / 31 : Nat) : Int) = false := by rw [neI_dec, lenI_def, hlen]; simp
      simp only [e0, Bool.not_false, Bool.and_true, Bool.false_or]
      rcases List.eq_nil_or_concat G with rfl | ⟨init, g, rfl⟩
      · have e1 : ltI 0 (lenI ([] : List Int)) = false := by rw [ltI_dec, lenI_def]; rfl
        simp only [e1, Bool.not_false, Bool.true_or, Bool.false_and, cond_true, cond_false]
        rw [if_pos ⟨hlen, fun g hg => by simp at hg⟩]
      · rw [List.concat_eq_append] at *
        have hk : isub .i64 (lenI (init ++ [g])) 1 = (init.length : Int) := by
          have hl1 : (init ++ [g]).length = init.length + 1 := by simp
          rw [lenI_def]
          rw [isub64 (by omega) (by omega)]; omega
        have hgl : lget (init ++ [g]) (init.length : Int) 0 = g := lget_nat (by simp)
        have e1 : ltI 0 (lenI (init ++ [g])) = true := by rw [ltI_dec, lenI_def]; simp
        have e2 : inB (init.length : Int) (lenI (init ++ [g])) = true := inB_len (by simp)
        simp only [hk, hgl, e1, e2, Bool.or_true, Bool.true_and, cond_true, neI_dec]
        by_cases hf : bandnot .i64 g ((maskOf n : Nat) : Int) = 0
        · rw [cond_neg (by simp [hf]), if_pos ⟨hlen, fun g' hg' => by simp at hg'; rw [← hg']; exact hf⟩]
        · rw [cond_pos (by simp [hf]), if_neg]
          intro h
          exact hf (h.2 g (by simp))
    · have e0 : neI (lenI G) (((n + 30) / 31 : Nat) : Int) = true := by rw [neI_dec, lenI_def]; simp; omega
      simp only [e0, Bool.not_true, Bool.and_false, Bool.not_false, Bool.true_or, cond_true]
      rw [if_neg (fun h => hlen h.1)]

theorem rE_spec (n : Nat) : (ws : List Int) → (G : List Int) → (l : Int) → rE n ws G l = if Canon l ws ∧ (G ++ grp ws).length = (n + 30) / 31 ∧ fits n (G ++ grp ws) then (G ++ grp ws, (true, ())) else ([], (false, ()))
  | [], G, l => by simp [rE, Canon, grp]
  | w :: r, G, l => by
    have hd : grp (w :: r) = wgrp w ++ grp r := by simp [grp]
    rw [rE]
    by_cases h : okW l w ∧ ¬ (w < 0 ∧ (n + 30) / 31 < G.length + fillN w)
    · rw [if_pos h, rE_spec n r, hd, List.append_assoc]
      simp only [Canon, h.1, true_and]
    · rw [if_neg h, if_neg]
      rintro ⟨⟨h1, _⟩, h2, _⟩
      refine h ⟨h1, fun ⟨h3, h4⟩ => ?_⟩
      rw [hd, List.length_append, List.length_append, show wgrp w = List.replicate (fillN w) (pat w) by unfold wgrp; rw [if_neg (by omega)], List.length_replicate] at h2
      omega
end
end Go.Proofs.YtpnklahcegahiaaDoor
