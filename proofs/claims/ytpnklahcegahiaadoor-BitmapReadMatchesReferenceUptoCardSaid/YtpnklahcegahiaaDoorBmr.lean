/- The bitmaps' operations; the law. -/
import Derived.Test.YtpnklahcegahiaaDoorBmo
set_option linter.unusedVariables false
set_option linter.unusedSimpArgs false
set_option linter.unnecessarySimpa false
set_option linter.unusedSectionVars false
set_option linter.unusedSimpArgs false
namespace Go.Proofs.YtpnklahcegahiaaDoor
open Go.Vi
noncomputable section
open Classical

/-! ## Bits of numbers -/
def andn (a b : Nat) : Nat := (BitVec.ofNat 64 a &&& ~~~ BitVec.ofNat 64 b).toNat
theorem andn_bit {a : Nat} (ha : a < 2 ^ 62) (b i : Nat) : (andn a b).testBit i = (a.testBit i && !b.testBit i) := by
  unfold andn
  rw [BitVec.testBit_toNat, BitVec.getLsbD_and, BitVec.getLsbD_not, BitVec.getLsbD_ofNat, BitVec.getLsbD_ofNat]
  by_cases h : i < 64
  · simp [h]
  · have : a.testBit i = false := Nat.testBit_lt_two_pow (Nat.lt_of_lt_of_le ha (Nat.pow_le_pow_right (by omega) (by omega)))
    simp [h, this]
theorem lt_of_bits {a k : Nat} (h : ∀ i, k ≤ i → a.testBit i = false) : a < 2 ^ k := Nat.lt_pow_two_of_testBit _ fun i hi => h i hi
theorem andn_lt {a k : Nat} (hk : k ≤ 62) (ha : a < 2 ^ k) (b : Nat) : andn a b < 2 ^ k := lt_of_bits fun i hi => by
  rw [andn_bit (Nat.lt_of_lt_of_le ha (Nat.pow_le_pow_right (by omega) hk)), Nat.testBit_lt_two_pow (Nat.lt_of_lt_of_le ha (Nat.pow_le_pow_right (by omega) hi))]
  rfl
theorem bandnot64 {a b : Nat} (ha : a < 2 ^ 62) : bandnot .i64 (a : Int) (b : Int) = ((andn a b : Nat) : Int) := by
  have := andn_lt (Nat.le_refl _) ha b
  rw [bandnot_def, bits64, bv64, bv64]
  exact wrap64 (by unfold andn at this; omega) (by unfold andn at this; omega)
theorem zero_of_bits {a : Nat} : a = 0 ↔ ∀ i, a.testBit i = false := by
  constructor
  · rintro rfl i; simp
  · intro h
    exact Nat.eq_of_testBit_eq fun i => by rw [h i, Nat.zero_testBit]

/-! ## Groups and bits -/
theorem gbits_pat (w : Int) : gbits (pat w) = List.replicate 31 (decide (bitOf w = 1)) := by
  unfold pat
  rcases bitOf_01 w with h | h
  · rw [if_pos h, gbits_zero, h]; rfl
  · rw [if_neg (by omega), gbits_ones, h]; rfl
theorem flat_rep {α β : Type} (n : Nat) (x : α) (f : α → List β) (k : Nat) (y : β) (h : f x = List.replicate k y) : (List.replicate n x).flatMap f = List.replicate (k * n) y := by
  induction n with
  | zero => simp
  | succ n ih => rw [List.replicate_succ, List.flatMap_cons, ih, h, List.replicate_append_replicate]; congr 1; rw [Nat.mul_succ, Nat.add_comm]
theorem wdec_grp {l w : Int} (h : okW l w) : wdec w = (wgrp w).flatMap gbits ∧ ∀ g ∈ wgrp w, GOk g := by
  unfold wdec wgrp
  by_cases hp : 0 ≤ w
  · rw [if_pos hp, if_pos hp]
    refine ⟨by simp, fun g hg => ?_⟩
    simp at hg
    subst hg
    unfold okW at h
    unfold GOk
    omega
  · rw [if_neg hp, if_neg hp, flat_rep _ _ _ _ _ (gbits_pat w)]
    refine ⟨rfl, fun g hg => ?_⟩
    rw [(List.mem_replicate.1 hg).2]
    unfold pat GOk
    split <;> omega
theorem dec_grp : (ws : List Int) → (l : Int) → Canon l ws → dec ws = (grp ws).flatMap gbits ∧ ∀ g ∈ grp ws, GOk g
  | [], _, _ => ⟨rfl, fun g hg => by simp [grp] at hg⟩
  | w :: r, l, h => by
    obtain ⟨h1, h2⟩ := dec_grp r _ h.2
    obtain ⟨h3, h4⟩ := wdec_grp h.1
    have e1 : dec (w :: r) = wdec w ++ dec r := by simp [dec]
    have e2 : grp (w :: r) = wgrp w ++ grp r := by simp [grp]
    rw [e1, e2, List.flatMap_append, h1, h3]
    exact ⟨rfl, fun g hg => (List.mem_append.1 hg).elim (h4 g) (h2 g)⟩
theorem flat_len (G : List Int) : (G.flatMap gbits).length = 31 * G.length := by
  induction G with
  | nil => rfl
  | cons g r ih => rw [List.flatMap_cons, List.length_append, ih, gbits_length, List.length_cons]; omega

theorem mask_bit (n i : Nat) (hi : i < 31) : (maskOf n).testBit i = decide (n % 31 = 0 ∨ i < n % 31) := by
  have hones : ∀ b, b < 31 → (2147483647 : Nat).testBit b = true := by decide
  unfold maskOf
  split
  · rw [hones i hi]; symm; simp; omega
  · rw [Nat.testBit_two_pow_sub_one]; congr 1; apply propext; omega
theorem fits_iff {n : Nat} {G : List Int} (hl : G.length = (n + 30) / 31) (hg : ∀ g ∈ G, GOk g) : fits n G ↔ noTrue n (G.flatMap gbits) := by
  rcases List.eq_nil_or_concat G with rfl | ⟨init, g, rfl⟩
  · exact ⟨fun _ k _ b hb => by simp at hb, fun _ g hg => by simp at hg⟩
  · rw [List.concat_eq_append] at *
    have hil : init.length + 1 = (n + 30) / 31 := by simpa using hl
    obtain ⟨g1, g2⟩ := hg g (by simp)
    obtain ⟨m, rfl⟩ : ∃ m : Nat, g = (m : Int) := ⟨g.toNat, by omega⟩
    have hm : m < 2 ^ 31 := by omega
    have hfit : fits n (init ++ [(m : Int)]) ↔ ∀ i, i < 31 → m.testBit i = true → (maskOf n).testBit i = true := by
      have e : fits n (init ++ [(m : Int)]) ↔ andn m (maskOf n) = 0 := by
        unfold fits
        simp only [List.getLast?_append, List.getLast?_singleton, Option.some_or, Option.some.injEq]
        constructor
        · intro h
          have := h _ rfl
          rw [bandnot64 (by omega)] at this
          omega
        · rintro h _ rfl
          rw [bandnot64 (by omega), h]; rfl
      rw [e, zero_of_bits]
      constructor
      · intro h i _ hb
        have := h i
        rw [andn_bit (by omega), hb] at this
        simpa using this
      · intro h i
        rw [andn_bit (by omega)]
        by_cases hi : i < 31
        · cases hb : m.testBit i with
          | false => rfl
          | true => rw [h i hi hb]; rfl
        · rw [Nat.testBit_lt_two_pow (Nat.lt_of_lt_of_le hm (Nat.pow_le_pow_right (by omega) (by omega)))]; rfl
    rw [hfit]
    constructor
    · intro h k hk b hb
      rw [flat_get] at hb
      have hlt : k / 31 < (init ++ [(m : Int)]).length := by
        apply Classical.byContradiction
        intro hn
        rw [List.getElem?_eq_none (by omega)] at hb
        cases hb
      rw [List.length_append, List.length_singleton] at hlt
      have hke : k / 31 = init.length := by omega
      rw [hke, List.getElem?_append_right (Nat.le_refl _), Nat.sub_self] at hb
      simp only [List.getElem?_cons_zero, Option.bind_some] at hb
      rw [gbits_get _ (Nat.mod_lt _ (by omega)), Int.toNat_natCast] at hb
      injection hb with hb
      cases hbb : b with
      | false => rfl
      | true =>
        rw [hbb] at hb
        have := h _ (Nat.mod_lt _ (by omega)) hb
        rw [mask_bit _ _ (Nat.mod_lt _ (by omega))] at this
        simp at this
        omega
    · intro h i hi hb
      rw [mask_bit _ _ hi]
      apply Classical.byContradiction
      intro hn
      simp at hn
      have := h (31 * init.length + i) (by omega) true (by
        rw [flat_get, show (31 * init.length + i) / 31 = init.length by omega, show (31 * init.length + i) % 31 = i by omega, List.getElem?_append_right (Nat.le_refl _), Nat.sub_self]
        simp only [List.getElem?_cons_zero, Option.bind_some]
        rw [gbits_get _ hi, Int.toNat_natCast, hb])
      cases this

theorem okB_iff {n : Nat} {ws : List Int} : OkB n ws ↔ Canon 2 ws ∧ (grp ws).length = (n + 30) / 31 ∧ fits n (grp ws) := by
  unfold OkB
  constructor
  · rintro ⟨h1, h2, h3⟩
    obtain ⟨k1, k2⟩ := dec_grp ws 2 h1
    rw [k1, flat_len] at h2
    have hl : (grp ws).length = (n + 30) / 31 := by omega
    rw [k1] at h3
    exact ⟨h1, hl, (fits_iff hl k2).2 h3⟩
  · rintro ⟨h1, h2, h3⟩
    obtain ⟨k1, k2⟩ := dec_grp ws 2 h1
    rw [k1, flat_len]
    exact ⟨h1, by omega, (fits_iff h2 k2).1 h3⟩

theorem expand_any (N : Nat) {n : Nat} (ws : List Int) (hn : n ≤ 100000) (hw : ∀ w ∈ ws, I64 w) (hl : ws.length ≤ 1048576) (hN : 100000000 < N) :
    F_bitmap_expand N (((n : Int), (ws, ())), ()) = some ((if OkB n ws then (grp ws, (true, ())) else ([], (false, ()))), ()) := by
  rw [expand_run N ws hn hw hl hN, rE_spec]
  simp only [List.nil_append]
  by_cases h : OkB n ws
  · rw [if_pos h]; rw [okB_iff] at h; rw [if_pos h]
  · rw [if_neg h]; rw [okB_iff] at h; rw [if_neg h]

/-! ## The checks -/
def chk (n : Int) (ws : List Int) : Int := if n < 0 ∨ 100000 < n then 1 else if OkB n.toNat ws then 0 else 3
theorem check_eq (N : Nat) (n : Int) (ws : List Int) (hw : ∀ w ∈ ws, I64 w) (hl : ws.length ≤ 1048576) (hN : 100000000 < N) : F_bitmap_Check N ((n, (ws, ())), ()) = some ((chk n ws, ()), ()) := by
  simp only [F_bitmap_Check, letJ_def, chk]
  by_cases hn : n < 0 ∨ 100000 < n
  · rw [cond_pos (by rw [ltI_dec, ltI_dec]; simpa using hn), if_pos hn]
  · rw [cond_neg (by rw [ltI_dec, ltI_dec]; simp; omega), if_neg hn]
    obtain ⟨m, rfl⟩ : ∃ m : Nat, n = (m : Int) := ⟨n.toNat, by omega⟩
    simp only [expand_any N ws (show m ≤ 100000 by omega) hw hl hN, oSome_some, oGet_some, cond_true, Int.toNat_natCast]
    by_cases h : OkB m ws
    · simp [h]
    · simp [h]
theorem checkB_eq (N : Nat) (n : Int) (ws : List Int) (hw : ∀ w ∈ ws, I64 w) (hl : ws.length ≤ 1048576) (hN : 100000000 < N) : F_stemref4_CheckBitmap N ((n, (ws, ())), ()) = some ((chk n ws, ()), ()) := by
  simp only [F_stemref4_CheckBitmap, letJ_def, chk]
  by_cases hn : n < 0 ∨ 100000 < n
  · rw [cond_pos (by rw [ltI_dec, ltI_dec]; simpa using hn), if_pos hn]
  · rw [cond_neg (by rw [ltI_dec, ltI_dec]; simp; omega), if_neg hn]
    obtain ⟨m, rfl⟩ : ∃ m : Nat, n = (m : Int) := ⟨n.toNat, by omega⟩
    simp only [bits_any N ws (show m ≤ 100000 by omega) hw hl hN, oSome_some, oGet_some, cond_true, Int.toNat_natCast]
    by_cases h : OkB m ws
    · simp [h]
    · simp [h]
theorem chk_zero {n : Int} {ws : List Int} (h : chk n ws = 0) : ∃ m : Nat, n = (m : Int) ∧ m ≤ 100000 ∧ OkB m ws := by
  unfold chk at h
  split at h
  · cases h
  · split at h
    · rename_i h1 h2
      exact ⟨n.toNat, by omega, by omega, h2⟩
    · cases h

/-! ## The operations -/
def bitAt (ws : List Int) (k : Nat) : Bool := (dec ws).getD k false

theorem grp_bit {n : Nat} {ws : List Int} (h : OkB n ws) {j : Nat} (hj : j < (grp ws).length) : ∃ a : Nat, (grp ws)[j] = (a : Int) ∧ a < 2 ^ 31 ∧ ∀ b, b < 31 → a.testBit b = bitAt ws (31 * j + b) := by
  obtain ⟨k1, k2⟩ := dec_grp ws 2 h.1
  obtain ⟨g1, g2⟩ := k2 _ (List.getElem_mem hj)
  refine ⟨(grp ws)[j].toNat, by omega, by omega, fun b hb => ?_⟩
  unfold bitAt
  rw [k1, List.getD_eq_getElem?_getD, flat_get, show (31 * j + b) / 31 = j by omega, show (31 * j + b) % 31 = b by omega, List.getElem?_eq_getElem hj, Option.bind_some, gbits_get _ hb]
  rfl

end
end Go.Proofs.YtpnklahcegahiaaDoor
