/- How many bits are set. -/
import Derived.Test.YtpnklahcegahiaaDoorBmj
set_option linter.unusedVariables false
set_option linter.unusedSimpArgs false
set_option linter.unnecessarySimpa false
set_option linter.unusedSectionVars false
set_option linter.unusedSimpArgs false
namespace Go.Proofs.YtpnklahcegahiaaDoor
open Go.Vi
noncomputable section

theorem and_split {x0 m0 : Nat} (x1 m1 : Nat) (hx : x0 < 256) (hm : m0 < 256) : (x0 + 256 * x1) &&& (m0 + 256 * m1) = (x0 &&& m0) + 256 * (x1 &&& m1) := by
  have e : ∀ a b : Nat, a < 256 → a + 256 * b = 2 ^ 8 * b + a := fun a b _ => by omega
  have hand : x0 &&& m0 < 2 ^ 8 := Nat.and_lt_two_pow _ hm
  rw [e _ _ hx, e _ _ hm, e _ _ hand]
  apply Nat.eq_of_testBit_eq
  intro i
  rw [Nat.testBit_and, Nat.testBit_two_pow_mul_add _ hx, Nat.testBit_two_pow_mul_add _ hm, Nat.testBit_two_pow_mul_add _ hand]
  split <;> rw [Nat.testBit_and]

def four (a b c d : Nat) : Nat := a + 256 * (b + 256 * (c + 256 * d))
theorem four_and {a b c d : Nat} (m : Nat) (M : Nat) (hM : M = m + 256 * (m + 256 * (m + 256 * (m + 256 * (m + 256 * (m + 256 * (m + 256 * m))))))) (hm : m < 256) (ha : a < 256) (hb : b < 256) (hc : c < 256) (hd : d < 256) : four a b c d &&& M = four (a &&& m) (b &&& m) (c &&& m) (d &&& m) := by
  subst hM
  unfold four
  rw [and_split _ _ ha hm, and_split _ _ hb hm, and_split _ _ hc hm]
  have e : d = d + 256 * 0 := by omega
  conv => lhs; rw [e]
  rw [and_split _ _ hd hm, Nat.zero_and, Nat.mul_zero, Nat.add_zero]

def g0 (b : Nat) : Nat := (b / 2 &&& 85) + (b &&& 85)
def g1 (b : Nat) : Nat := (b / 4 &&& 51) + (b &&& 51)
def g2 (b : Nat) : Nat := (b / 16 + b) &&& 15
theorem g0_lt : ∀ b, b < 256 → g0 b < 256 := by decide +kernel
theorem g0_leak : ∀ b, b < 256 → ∀ t, t < 2 → (b / 2 + 128 * t) &&& 85 = b / 2 &&& 85 := by decide +kernel
theorem g1_leak : ∀ b, b < 256 → ∀ t, t < 4 → (b / 4 + 64 * t) &&& 51 = b / 4 &&& 51 := by decide +kernel
theorem g1_ok : ∀ b, b < 256 → g1 (g0 b) / 16 ≤ 4 ∧ g1 (g0 b) % 16 ≤ 4 := by decide +kernel
theorem g2_leak : ∀ b, b < 69 → ∀ t, t < 5 → (b / 16 + 16 * t + b) &&& 15 = (b / 16 + b) &&& 15 := by decide +kernel
theorem g2_ok : ∀ b, b < 256 → g2 (g1 (g0 b)) = ((List.range 8).filter (fun i => b.testBit i)).length ∧ g2 (g1 (g0 b)) ≤ 8 := by decide +kernel

def n0 (a : Nat) : Nat := (a / 2 &&& 6148914691236517205) + (a &&& 6148914691236517205)
def n1 (a : Nat) : Nat := (a / 4 &&& 3689348814741910323) + (a &&& 3689348814741910323)
def n2 (a : Nat) : Nat := (a / 16 + a) &&& 1085102592571150095

theorem n0_four {a b c d : Nat} (ha : a < 256) (hb : b < 256) (hc : c < 256) (hd : d < 256) : n0 (four a b c d) = four (g0 a) (g0 b) (g0 c) (g0 d) := by
  have e : four a b c d / 2 = four (a / 2 + 128 * (b % 2)) (b / 2 + 128 * (c % 2)) (c / 2 + 128 * (d % 2)) (d / 2 + 128 * 0) := by unfold four; omega
  unfold n0
  rw [e, four_and 85 _ (by decide) (by decide) ha hb hc hd, four_and 85 _ (by decide) (by decide) (by omega) (by omega) (by omega) (by omega), g0_leak a ha _ (by omega), g0_leak b hb _ (by omega), g0_leak c hc _ (by omega), g0_leak d hd _ (by omega)]
  unfold four g0
  omega
theorem n1_four {a b c d : Nat} (ha : a < 256) (hb : b < 256) (hc : c < 256) (hd : d < 256) : n1 (four a b c d) = four (g1 a) (g1 b) (g1 c) (g1 d) := by
  have e : four a b c d / 4 = four (a / 4 + 64 * (b % 4)) (b / 4 + 64 * (c % 4)) (c / 4 + 64 * (d % 4)) (d / 4 + 64 * 0) := by unfold four; omega
  unfold n1
  rw [e, four_and 51 _ (by decide) (by decide) ha hb hc hd, four_and 51 _ (by decide) (by decide) (by omega) (by omega) (by omega) (by omega), g1_leak a ha _ (by omega), g1_leak b hb _ (by omega), g1_leak c hc _ (by omega), g1_leak d hd _ (by omega)]
  unfold four g1
  omega
theorem n2_four {a b c d : Nat} (ha : a / 16 ≤ 4 ∧ a % 16 ≤ 4) (hb : b / 16 ≤ 4 ∧ b % 16 ≤ 4) (hc : c / 16 ≤ 4 ∧ c % 16 ≤ 4) (hd : d / 16 ≤ 4 ∧ d % 16 ≤ 4) : n2 (four a b c d) = four (g2 a) (g2 b) (g2 c) (g2 d) := by
  have e : four a b c d / 16 + four a b c d = four (a / 16 + 16 * (b % 16) + a) (b / 16 + 16 * (c % 16) + b) (c / 16 + 16 * (d % 16) + c) (d / 16 + 16 * 0 + d) := by unfold four; omega
  unfold n2
  rw [e, four_and 15 _ (by decide) (by decide) (by omega) (by omega) (by omega) (by omega), g2_leak a (by omega) _ (by omega), g2_leak b (by omega) _ (by omega), g2_leak c (by omega) _ (by omega), g2_leak d (by omega) _ (by omega)]
  rfl

def cnt (p : Nat → Bool) (m : Nat) : Nat := ((List.range m).filter p).length
theorem cnt_add (p : Nat → Bool) (k m : Nat) : cnt p (k + m) = cnt p k + cnt (fun i => p (k + i)) m := by
  unfold cnt
  rw [List.range_add, List.filter_append, List.length_append, List.filter_map, List.length_map]
  rfl
theorem cnt_le (p : Nat → Bool) (m : Nat) : cnt p m ≤ m := by
  unfold cnt
  refine Nat.le_trans (List.length_filter_le _ _) ?_
  rw [List.length_range]
  exact Nat.le_refl _
theorem cnt_four {a b c d : Nat} (ha : a < 256) (hb : b < 256) (hc : c < 256) (_hd : d < 256) : cnt (fun i => (four a b c d).testBit i) 32 = cnt (fun i => a.testBit i) 8 + (cnt (fun i => b.testBit i) 8 + (cnt (fun i => c.testBit i) 8 + cnt (fun i => d.testBit i) 8)) := by
  have e : ∀ {x : Nat} (y : Nat), x < 256 → (∀ i, i < 8 → (x + 256 * y).testBit i = x.testBit i) ∧ ∀ i, (x + 256 * y).testBit (8 + i) = y.testBit i := fun {x} y hx => by
    have e1 : x + 256 * y = 2 ^ 8 * y + x := by omega
    refine ⟨fun i hi => ?_, fun i => ?_⟩
    · rw [e1, Nat.testBit_two_pow_mul_add _ hx, if_pos hi]
    · rw [e1, Nat.testBit_two_pow_mul_add _ hx, if_neg (by omega), show 8 + i - 8 = i by omega]
  have cong : ∀ {p q : Nat → Bool} {m : Nat}, (∀ i, i < m → p i = q i) → cnt p m = cnt q m := fun h => by
    unfold cnt
    rw [List.filter_congr fun i hi => h i (List.mem_range.1 hi)]
  have step : ∀ {x : Nat} (y m : Nat), x < 256 → cnt (fun i => (x + 256 * y).testBit i) (8 + m) = cnt (fun i => x.testBit i) 8 + cnt (fun i => y.testBit i) m := fun {x} y m hx => by
    rw [cnt_add]
    congr 1
    · exact cong fun i hi => (e y hx).1 i hi
    · exact cong fun i _ => (e y hx).2 i
  unfold four
  rw [show 32 = 8 + (8 + (8 + 8)) from rfl, step _ _ ha, step _ _ hb, step _ _ hc]

theorem shrU {a : Nat} (k : Nat) (hk : k ≤ 64) : shrI .u64 (a : Int) (k : Int) = ((a / 2 ^ k : Nat) : Int) := by
  rw [shrI_def, Int.toNat_natCast, Int.fdiv_eq_ediv_of_nonneg _ (by exact_mod_cast Nat.zero_le _)]
  have : min k (IntKind.bits .u64) = k := by show min k 64 = k; omega
  rw [this]
  push_cast
  rfl
theorem bandU {a b : Nat} (ha : a < 18446744073709551616) (hb : b < 18446744073709551616) : band .u64 (a : Int) (b : Int) = ((a &&& b : Nat) : Int) := by
  rw [band_def]; exact bits_and_u64_nat a b ha hb
theorem iaddU {a b : Nat} (h : a + b < 18446744073709551616) : iadd .u64 (a : Int) (b : Int) = ((a + b : Nat) : Int) := by
  rw [iadd_def, wrap_u64_id (by omega) (by omega)]; omega

theorem sum_four {P Q R S : Nat} (p2 : P ≤ 8) (q2 : Q ≤ 8) (r2 : R ≤ 8) (s2 : S ≤ 8) : (four P Q R S + four P Q R S / 2 ^ 8 + (four P Q R S + four P Q R S / 2 ^ 8) / 2 ^ 16 + (four P Q R S + four P Q R S / 2 ^ 8 + (four P Q R S + four P Q R S / 2 ^ 8) / 2 ^ 16) / 2 ^ 32) % 128 = P + (Q + (R + S)) := by
  have e1 : four P Q R S / 2 ^ 8 = Q + 256 * (R + 256 * S) := by unfold four; omega
  rw [e1]
  have e2 : (four P Q R S + (Q + 256 * (R + 256 * S))) / 2 ^ 16 = (R + S) + 256 * S := by unfold four; omega
  rw [e2]
  have e3 : (four P Q R S + (Q + 256 * (R + 256 * S)) + ((R + S) + 256 * S)) / 2 ^ 32 = 0 := by unfold four; omega
  rw [e3]
  unfold four
  omega

theorem ones_eq (N a : Nat) (h : a < 2 ^ 31) : F_math_bits_OnesCount64 N ((a : Int), ()) = some ((((cnt (fun i => a.testBit i) 31 : Nat) : Int), ()), ()) := by
  have h32 : cnt (fun i => a.testBit i) 31 = cnt (fun i => a.testBit i) 32 := by
    rw [show 32 = 31 + 1 from rfl, cnt_add]
    have : a.testBit 31 = false := Nat.testBit_lt_two_pow h
    simp [cnt, this]
  obtain ⟨p, q, r, s, hp, hq, hr, hs, ea⟩ : ∃ p q r s, p < 256 ∧ q < 256 ∧ r < 256 ∧ s < 256 ∧ a = four p q r s := ⟨a % 256, a / 256 % 256, a / 65536 % 256, a / 16777216, by omega, by omega, by omega, by omega, by unfold four; omega⟩
  rw [h32]
  subst ea
  rw [cnt_four hp hq hr hs]
  obtain ⟨p1, p2⟩ := g2_ok p hp
  obtain ⟨q1, q2⟩ := g2_ok q hq
  obtain ⟨r1, r2⟩ := g2_ok r hr
  obtain ⟨s1, s2⟩ := g2_ok s hs
  have e0 := n0_four hp hq hr hs
  have e1 := n1_four (g0_lt p hp) (g0_lt q hq) (g0_lt r hr) (g0_lt s hs)
  have e2 := n2_four (g1_ok p hp) (g1_ok q hq) (g1_ok r hr) (g1_ok s hs)
  have l0 : n0 (four p q r s) < 4294967296 := by rw [e0]; have := g0_lt p hp; have := g0_lt q hq; have := g0_lt r hr; have := g0_lt s hs; unfold four; omega
  have l1 : n1 (n0 (four p q r s)) < 4294967296 := by rw [e0, e1]; have := g1_ok p hp; have := g1_ok q hq; have := g1_ok r hr; have := g1_ok s hs; unfold four; omega
  have hn2 : n2 (n1 (n0 (four p q r s))) = four (g2 (g1 (g0 p))) (g2 (g1 (g0 q))) (g2 (g1 (g0 r))) (g2 (g1 (g0 s))) := by rw [e0, e1, e2]
  have hle : ∀ i : Nat, leI 0 (i : Int) = true := fun i => by rw [leI_dec]; simp
  have a0 : iadd .u64 (band .u64 (shrI .u64 ((four p q r s : Nat) : Int) 1) 6148914691236517205) (band .u64 ((four p q r s : Nat) : Int) 6148914691236517205) = ((n0 (four p q r s) : Nat) : Int) := by
    have l : four p q r s < 4294967296 := by unfold four; omega
    have x1 : four p q r s / 2 ^ 1 &&& 6148914691236517205 ≤ four p q r s / 2 ^ 1 := Nat.and_le_left
    have x2 : four p q r s &&& 6148914691236517205 ≤ four p q r s := Nat.and_le_left
    have := shrU (a := four p q r s) 1 (by omega)
    rw [show ((1 : Nat) : Int) = 1 from rfl] at this
    rw [this]
    have := bandU (a := four p q r s / 2 ^ 1) (b := 6148914691236517205) (by omega) (by omega)
    rw [show ((6148914691236517205 : Nat) : Int) = 6148914691236517205 from rfl] at this
    rw [this]
    have := bandU (a := four p q r s) (b := 6148914691236517205) (by omega) (by omega)
    rw [show ((6148914691236517205 : Nat) : Int) = 6148914691236517205 from rfl] at this
    rw [this, iaddU (by omega)]
    rfl
  have a1 : iadd .u64 (band .u64 (shrI .u64 ((n0 (four p q r s) : Nat) : Int) 2) 3689348814741910323) (band .u64 ((n0 (four p q r s) : Nat) : Int) 3689348814741910323) = ((n1 (n0 (four p q r s)) : Nat) : Int) := by
    generalize n0 (four p q r s) = y at l0
    have x1 : y / 2 ^ 2 &&& 3689348814741910323 ≤ y / 2 ^ 2 := Nat.and_le_left
    have x2 : y &&& 3689348814741910323 ≤ y := Nat.and_le_left
    have := shrU (a := y) 2 (by omega)
    rw [show ((2 : Nat) : Int) = 2 from rfl] at this
    rw [this]
    have := bandU (a := y / 2 ^ 2) (b := 3689348814741910323) (by omega) (by omega)
    rw [show ((3689348814741910323 : Nat) : Int) = 3689348814741910323 from rfl] at this
    rw [this]
    have := bandU (a := y) (b := 3689348814741910323) (by omega) (by omega)
    rw [show ((3689348814741910323 : Nat) : Int) = 3689348814741910323 from rfl] at this
    rw [this, iaddU (by omega)]
    rfl
  have a2 : band .u64 (iadd .u64 (shrI .u64 ((n1 (n0 (four p q r s)) : Nat) : Int) 4) ((n1 (n0 (four p q r s)) : Nat) : Int)) 1085102592571150095 = ((n2 (n1 (n0 (four p q r s))) : Nat) : Int) := by
    generalize n1 (n0 (four p q r s)) = y at l1
    have := shrU (a := y) 4 (by omega)
    rw [show ((4 : Nat) : Int) = 4 from rfl] at this
    rw [this, iaddU (by omega)]
    have := bandU (a := y / 2 ^ 4 + y) (b := 1085102592571150095) (by omega) (by omega)
    rw [show ((1085102592571150095 : Nat) : Int) = 1085102592571150095 from rfl] at this
    rw [this]
    rfl
  simp only [F_math_bits_OnesCount64, letJ_def, a0, a1, a2]
  rw [hn2]
  generalize g2 (g1 (g0 p)) = P at p1 p2 ⊢
  generalize g2 (g1 (g0 q)) = Q at q1 q2 ⊢
  generalize g2 (g1 (g0 r)) = R at r1 r2 ⊢
  generalize g2 (g1 (g0 s)) = S at s1 s2 ⊢
  have f4 : four P Q R S < 4294967296 := by unfold four; omega
  have b3 := shrU (a := four P Q R S) 8 (by omega)
  rw [show ((8 : Nat) : Int) = 8 from rfl] at b3
  rw [b3, iaddU (by omega)]
  have b4 := shrU (a := four P Q R S + four P Q R S / 2 ^ 8) 16 (by omega)
  rw [show ((16 : Nat) : Int) = 16 from rfl] at b4
  rw [b4, iaddU (by omega)]
  have b5 := shrU (a := four P Q R S + four P Q R S / 2 ^ 8 + (four P Q R S + four P Q R S / 2 ^ 8) / 2 ^ 16) 32 (by omega)
  rw [show ((32 : Nat) : Int) = 32 from rfl] at b5
  rw [b5, iaddU (by omega), iwrap64 (by omega) (by omega)]
  have b6 := band64 (a := four P Q R S + four P Q R S / 2 ^ 8 + (four P Q R S + four P Q R S / 2 ^ 8) / 2 ^ 16 + (four P Q R S + four P Q R S / 2 ^ 8 + (four P Q R S + four P Q R S / 2 ^ 8) / 2 ^ 16) / 2 ^ 32) (b := 127) (by omega) (by omega)
  rw [show ((127 : Nat) : Int) = 127 from rfl] at b6
  rw [b6]
  have l1 := hle 1; have l2 := hle 2; have l3 := hle 4; have l4 := hle 8; have l5 := hle 16; have l6 := hle 32
  rw [show ((1 : Nat) : Int) = 1 from rfl] at l1
  rw [show ((2 : Nat) : Int) = 2 from rfl] at l2
  rw [show ((4 : Nat) : Int) = 4 from rfl] at l3
  rw [show ((8 : Nat) : Int) = 8 from rfl] at l4
  rw [show ((16 : Nat) : Int) = 16 from rfl] at l5
  rw [show ((32 : Nat) : Int) = 32 from rfl] at l6
  rw [l1, l2, l3, l4, l5, l6]
  simp only [cond_true]
  have hm : ∀ z : Nat, z &&& 127 = z % 128 := fun z => Nat.and_two_pow_sub_one_eq_mod z 7
  rw [hm]
  have hcnt : cnt (fun i => p.testBit i) 8 + (cnt (fun i => q.testBit i) 8 + (cnt (fun i => r.testBit i) 8 + cnt (fun i => s.testBit i) 8)) = P + (Q + (R + S)) := by
    unfold cnt; omega
  rw [hcnt]
  rw [sum_four p2 q2 r2 s2]
end
end Go.Proofs.YtpnklahcegahiaaDoor
