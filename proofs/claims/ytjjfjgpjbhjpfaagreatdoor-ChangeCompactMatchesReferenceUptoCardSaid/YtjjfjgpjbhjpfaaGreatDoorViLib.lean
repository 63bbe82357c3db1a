/- More words for the plain laws: loops in closed form, numbers, lists. -/
import Derived.Test.YtjjfjgpjbhjpfaaGreatDoorViPlain
set_option linter.unusedVariables false
set_option linter.unusedSimpArgs false
set_option linter.unnecessarySimpa false
set_option linter.unusedSectionVars false
namespace Go.Vi

/-- A loop whose states are told by their number; it ends at the n-th. -/
theorem iterF_seq {S R : Type} {step : (S → Option R) → S → Option R} {s0 : S} (st : Nat → S) (n : Nat) (r : R) (h0 : st 0 = s0) (hs : ∀ i, i < n → ∀ ih, step ih (st i) = ih (st (i + 1))) (he : ∀ ih, step ih (st n) = some r) {N : Nat} (hN : n < N) : iterF N step s0 = some r := by
  rw [← h0]
  have : ∀ k i, i + k = n → ∀ M, k < M → iterF M step (st i) = some r := by
    intro k
    induction k with
    | zero =>
      intro i hi M hM
      obtain ⟨M, rfl⟩ : ∃ m, M = m + 1 := ⟨M - 1, by omega⟩
      rw [iterF_succ, show i = n by omega]; exact he _
    | succ k ih =>
      intro i hi M hM
      obtain ⟨M, rfl⟩ : ∃ m, M = m + 1 := ⟨M - 1, by omega⟩
      rw [iterF_succ, hs i (by omega)]
      exact ih (i + 1) (by omega) M (by omega)
  exact this n 0 (by omega) N hN

/-- .. and what comes behind the loop is no value yet. -/
theorem iterF_run {S R : Type} {step : (S → Option R) → S → Option R} {s0 : S} (st : Nat → S) (n : Nat) (r : Option R) (h0 : st 0 = s0) (hs : ∀ i, i < n → ∀ ih, step ih (st i) = ih (st (i + 1))) (he : ∀ ih, step ih (st n) = r) {N : Nat} (hN : n < N) : iterF N step s0 = r := by
  rw [← h0]
  have : ∀ k i, i + k = n → ∀ M, k < M → iterF M step (st i) = r := by
    intro k
    induction k with
    | zero =>
      intro i hi M hM
      obtain ⟨M, rfl⟩ : ∃ m, M = m + 1 := ⟨M - 1, by omega⟩
      rw [iterF_succ, show i = n by omega]; exact he _
    | succ k ih =>
      intro i hi M hM
      obtain ⟨M, rfl⟩ : ∃ m, M = m + 1 := ⟨M - 1, by omega⟩
      rw [iterF_succ, hs i (by omega)]
      exact ih (i + 1) (by omega) M (by omega)
  exact this n 0 (by omega) N hN

theorem ltI_dec (x y : Int) : ltI x y = decide (x < y) := ltI_def x y
theorem leI_dec (x y : Int) : leI x y = decide (x ≤ y) := leI_def x y
theorem inB_dec (i n : Int) : inB i n = decide (0 ≤ i ∧ i < n) := by rw [inB_def]; simp
theorem inS_dec (l h n : Int) : inS l h n = decide (0 ≤ l ∧ l ≤ h ∧ h ≤ n) := by rw [inS_def]; simp
theorem iadd64 {x y : Int} (h1 : -9223372036854775808 ≤ x + y) (h2 : x + y < 9223372036854775808) : iadd .i64 x y = x + y := by rw [iadd_def, wrap64 h1 h2]
theorem isub64 {x y : Int} (h1 : -9223372036854775808 ≤ x - y) (h2 : x - y < 9223372036854775808) : isub .i64 x y = x - y := by rw [isub_def, wrap64 h1 h2]
theorem imul64 {x y : Int} (h1 : -9223372036854775808 ≤ x * y) (h2 : x * y < 9223372036854775808) : imul .i64 x y = x * y := by rw [imul_def, wrap64 h1 h2]
theorem ineg64 {x : Int} (h1 : -9223372036854775808 < x) (h2 : x < 9223372036854775808) : ineg .i64 x = -x := by rw [ineg_def, wrap64 (by omega) (by omega)]; omega
theorem iwrap64 {x : Int} (h1 : -9223372036854775808 ≤ x) (h2 : x < 9223372036854775808) : iwrap .i64 x = x := by rw [iwrap_def, wrap64 h1 h2]
theorem iquo64 {x y : Int} (hx : 0 ≤ x) (hy : 0 < y) (h2 : x < 9223372036854775808) : iquo .i64 x y = x / y := by
  have h3 : x / y ≤ x := Int.ediv_le_self _ hx
  have h4 : 0 ≤ x / y := Int.ediv_nonneg hx (by omega)
  rw [iquo_def, Int.tdiv_eq_ediv_of_nonneg hx, wrap64 (by omega) (by omega)]
theorem irem64 {x y : Int} (hx : 0 ≤ x) : irem x y = x % y := by rw [irem_def, Int.tmod_eq_emod_of_nonneg hx]
theorem iadd_nat {i : Nat} (h : i < 4611686018427387904) : iadd .i64 (i : Int) 1 = ((i + 1 : Nat) : Int) := by
  rw [iadd_def, wrap64 (by omega) (by omega)]
  omega
theorem lt_len {α : Type} {xs : List α} {i : Nat} (h : i < xs.length) : ltI (i : Int) (lenI xs) = true := by rw [ltI_def, lenI_def]; simp; omega
theorem nlt_len {α : Type} {xs : List α} {i : Nat} (h : ¬ i < xs.length) : ltI (i : Int) (lenI xs) = false := by rw [ltI_def, lenI_def]; simp; omega
theorem inB_len {α : Type} {xs : List α} {i : Nat} (h : i < xs.length) : inB (i : Int) (lenI xs) = true := by rw [lenI_def]; exact inB_nat h
theorem drop_cons' {α : Type} {xs : List α} {i : Nat} (h : i < xs.length) : xs.drop i = xs[i] :: xs.drop (i + 1) := List.drop_eq_getElem_cons h
theorem take_snoc {α : Type} {xs : List α} {i : Nat} (h : i < xs.length) : xs.take (i + 1) = xs.take i ++ [xs[i]] := by rw [List.take_succ_eq_append_getElem h]
theorem lget_at {α : Type} {xs : List α} {i : Nat} (d : α) (h : i < xs.length) : lget xs (i : Int) d = xs[i] := lget_nat (List.getElem?_eq_getElem h)
theorem room2_ok {α β : Type} {xs : List α} {ys : List β} {b : Nat} (h : (xs.length + ys.length) * b ≤ 140737488355328) : room2 (lenI xs) (lenI ys) b = true := by
  rw [room2_def, lenI_def, lenI_def]
  refine decide_eq_true ?_
  have : (((xs.length + ys.length) * b : Nat) : Int) ≤ 140737488355328 := by omega
  rwa [Int.natCast_mul, Int.natCast_add] at this
theorem slice_from {α : Type} (xs : List α) (i : Nat) : lslice xs (i : Int) (lenI xs) = xs.drop i := by
  rw [lslice_def, lenI_def]; simp
theorem slice_to {α : Type} (xs : List α) (i : Nat) : lslice xs 0 (i : Int) = xs.take i := by
  rw [lslice_def]; simp
theorem slice_at {α : Type} (xs : List α) (i j : Nat) : lslice xs (i : Int) (j : Int) = (xs.take j).drop i := by
  rw [lslice_def]; simp
theorem inS_from {α : Type} {xs : List α} {i : Nat} (h : i ≤ xs.length) : inS (i : Int) (lenI xs) (lenI xs) = true := by
  rw [inS_def, lenI_def]; simp; omega
theorem wrap_u8 (n : Int) : IntKind.wrap .u8 n = n % 256 := by simp [IntKind.wrap, IntKind.signed, IntKind.bits]
theorem wrap_u64 (n : Int) : IntKind.wrap .u64 n = n % 18446744073709551616 := by simp [IntKind.wrap, IntKind.signed, IntKind.bits]
theorem wrap_u64_id {n : Int} (h1 : 0 ≤ n) (h2 : n < 18446744073709551616) : IntKind.wrap .u64 n = n := by rw [wrap_u64]; omega
theorem wrap8_id {n : Int} (h1 : 0 ≤ n) (h2 : n < 256) : iwrap .u8 n = n := by rw [iwrap_def, wrap_u8]; omega

theorem bv64 (n : Nat) : BitVec.ofInt 64 (n : Int) = BitVec.ofNat 64 n := by
  apply BitVec.eq_of_toInt_eq
  rw [BitVec.toInt_ofInt]
  exact (BitVec.toInt_ofNat' ..).symm
theorem bits64 : IntKind.bits .i64 = 64 := rfl
theorem bor64 {a b : Nat} (ha : a < 2 ^ 62) (hb : b < 2 ^ 62) : bor .i64 (a : Int) (b : Int) = ((a ||| b : Nat) : Int) := by
  have hab : a ||| b < 2 ^ 62 := Nat.or_lt_two_pow ha hb
  rw [bor_def, bits64, bv64, bv64, BitVec.toNat_or, BitVec.toNat_ofNat, BitVec.toNat_ofNat, Nat.mod_eq_of_lt (by omega), Nat.mod_eq_of_lt (by omega), wrap64 (by omega) (by omega)]
theorem band64 {a b : Nat} (ha : a < 2 ^ 62) (hb : b < 2 ^ 62) : band .i64 (a : Int) (b : Int) = ((a &&& b : Nat) : Int) := by
  have hab : a &&& b < 2 ^ 62 := Nat.and_lt_two_pow a hb
  rw [band_def, bits64, bv64, bv64, BitVec.toNat_and, BitVec.toNat_ofNat, BitVec.toNat_ofNat, Nat.mod_eq_of_lt (by omega), Nat.mod_eq_of_lt (by omega), wrap64 (by omega) (by omega)]
theorem shl64 {a k : Nat} (hk : k < 62) (h : a * 2 ^ k < 2 ^ 62) : shlI .i64 (a : Int) (k : Int) = ((a * 2 ^ k : Nat) : Int) := by
  rw [shlI_def, bits64, Int.toNat_natCast, Nat.min_eq_left (by omega)]
  have e : (a : Int) * 2 ^ k = ((a * 2 ^ k : Nat) : Int) := by push_cast; rfl
  rw [e, wrap64 (by omega) (by omega)]
theorem shr64 {a k : Nat} (hk : k < 62) : shrI .i64 (a : Int) (k : Int) = ((a / 2 ^ k : Nat) : Int) := by
  rw [shrI_def, bits64, Int.toNat_natCast, Nat.min_eq_left (by omega)]
  have e : (2 : Int) ^ k = ((2 ^ k : Nat) : Int) := by push_cast; rfl
  rw [e, Int.fdiv_eq_ediv_of_nonneg _ (Int.natCast_nonneg _)]
  push_cast; rfl
/-! ## Maps -/
theorem mIdx_none {α β : Type} {xs : List (α × β)} {k : α} (h : ¬ mIdx xs k < xs.length) : ∀ p ∈ xs, p.1 ≠ k := fun p hp he => by
  apply h
  unfold mIdx
  exact List.findIdx_lt_length_of_exists ⟨p, hp, by simp [he]⟩
theorem mIdx_key {α β : Type} {xs : List (α × β)} {k : α} (h : mIdx xs k < xs.length) : (xs[mIdx xs k]'h).1 = k := by
  unfold mIdx at h ⊢
  have := List.findIdx_getElem (w := h)
  simpa using this
theorem mget_cons {α β : Type} (p : α × β) (xs : List (α × β)) (k : α) (d : β) : mget (p :: xs) k d = open Classical in if p.1 = k then p.2 else mget xs k d := by
  rw [mget_def, mget_def]
  have : mIdx (p :: xs) k = open Classical in if p.1 = k then 0 else mIdx xs k + 1 := by
    unfold mIdx
    rw [List.findIdx_cons]
    by_cases h : p.1 = k <;> simp [h]
  rw [this]
  by_cases h : p.1 = k <;> simp [h]
theorem mget_nil {α β : Type} (k : α) (d : β) : mget ([] : List (α × β)) k d = d := by rw [mget_def]; rfl
theorem mput_nil {α β : Type} (k : α) (v : β) : mput ([] : List (α × β)) k v = [(k, v)] := by rw [mput_def]; rfl
theorem mput_cons {α β : Type} (p : α × β) (xs : List (α × β)) (k : α) (v : β) : mput (p :: xs) k v = open Classical in if p.1 = k then (p.1, v) :: xs else p :: mput xs k v := by
  rw [mput_def, mput_def]
  have : mIdx (p :: xs) k = open Classical in if p.1 = k then 0 else mIdx xs k + 1 := by
    unfold mIdx
    rw [List.findIdx_cons]
    by_cases h : p.1 = k <;> simp [h]
  rw [this]
  by_cases h : p.1 = k
  · simp [h, mSetL]
  · simp only [h, if_false, List.length_cons, Nat.add_lt_add_iff_right]
    by_cases h2 : mIdx xs k < xs.length
    · simp only [h2, if_true, mSetL, List.getElem?_cons_succ, List.getElem?_eq_getElem h2, List.set_cons_succ]
    · simp [h2]
/-- What a map says after a put. -/
theorem mget_mput {α β : Type} (xs : List (α × β)) (k : α) (v : β) (k' : α) (d : β) : mget (mput xs k v) k' d = open Classical in if k = k' then v else mget xs k' d := by
  induction xs with
  | nil => rw [mput_nil, mget_cons]
  | cons p r ih =>
    rw [mput_cons]
    by_cases h : p.1 = k
    · rw [if_pos h, mget_cons, mget_cons]
      by_cases h2 : k = k'
      · simp [h, h2]
      · simp [h, h2]
    · rw [if_neg h, mget_cons, mget_cons, ih]
      by_cases h2 : p.1 = k'
      · have : ¬ k = k' := fun e => h (h2.trans e.symm)
        simp [h2, this]
      · simp [h2]
/-- How often each came. -/
noncomputable def cntM {α : Type} (ks : List α) : List (α × Int) := ks.foldl (fun m k => mput m k (iadd .i64 (mget m k 0) 1)) []
theorem cntM_nil {α : Type} : cntM ([] : List α) = [] := rfl
theorem cntM_snoc {α : Type} (ks : List α) (k : α) : cntM (ks ++ [k]) = mput (cntM ks) k (iadd .i64 (mget (cntM ks) k 0) 1) := by simp [cntM]
theorem cntM_get {α : Type} (ks : List α) (h : ks.length < 4611686018427387904) (k : α) : 0 ≤ mget (cntM ks) k 0 ∧ mget (cntM ks) k 0 ≤ (ks.length : Int) ∧ (0 < mget (cntM ks) k 0 ↔ k ∈ ks) := by
  have key : ∀ (l : List α), l.length < 4611686018427387904 → ∀ k, 0 ≤ mget (cntM l.reverse) k 0 ∧ mget (cntM l.reverse) k 0 ≤ (l.length : Int) ∧ (0 < mget (cntM l.reverse) k 0 ↔ k ∈ l) := by
    intro l
    induction l with
    | nil => intro _ k; simp [cntM_nil, mget_nil]
    | cons a l ih =>
      intro hl k
      rw [List.length_cons] at hl
      rw [List.reverse_cons, cntM_snoc, mget_mput]
      obtain ⟨h1, h2, h3⟩ := ih (by omega) a
      obtain ⟨g1, g2, g3⟩ := ih (by omega) k
      by_cases e : a = k
      · subst e
        rw [if_pos rfl, iadd64 (by omega) (by omega), List.length_cons]
        refine ⟨by omega, by omega, by simp; omega⟩
      · rw [if_neg e, List.length_cons]
        refine ⟨g1, by omega, by rw [g3]; simp [Ne.symm e]⟩
  have := key ks.reverse (by simpa using h) k
  simpa using this
/-- The second time that a key comes. -/
theorem cntM_twice {α : Type} (ks : List α) (h : ks.length < 4611686018427387904) (k : α) : ltI 1 (mget (mput (cntM ks) k (iadd .i64 (mget (cntM ks) k 0) 1)) k 0) = open Classical in decide (k ∈ ks) := by
  obtain ⟨h1, h2, h3⟩ := cntM_get ks h k
  rw [mget_mput, if_pos rfl, iadd64 (by omega) (by omega), ltI_dec]
  by_cases hk : k ∈ ks
  · have := h3.2 hk
    simp [hk]; omega
  · have : ¬ 0 < mget (cntM ks) k 0 := fun e => hk (h3.1 e)
    simp [hk]; omega

/-! ## Loops that end at the first find -/
def firstE {E : Type} (g : Nat → Option E) : Nat → Option E
  | 0 => none
  | n + 1 => match firstE g n with
    | some e => some e
    | none => g n
theorem firstE_none {E : Type} {g : Nat → Option E} : {n : Nat} → firstE g n = none → ∀ i, i < n → g i = none
  | 0, _, i, hi => by omega
  | n + 1, h, i, hi => by
    simp only [firstE] at h
    split at h
    · cases h
    · rename_i h0
      by_cases e : i = n
      · rw [e]; exact h
      · exact firstE_none h0 i (by omega)
theorem firstE_some {E : Type} {g : Nat → Option E} {e : E} : {n : Nat} → firstE g n = some e → ∃ i, i < n ∧ g i = some e ∧ firstE g i = none
  | 0, h => by cases h
  | n + 1, h => by
    simp only [firstE] at h
    split at h
    · rename_i e' h0
      injection h with h
      subst h
      obtain ⟨i, h1, h2⟩ := firstE_some h0
      exact ⟨i, by omega, h2⟩
    · rename_i h0
      exact ⟨n, by omega, h, h0⟩
theorem iterF_first {S R E : Type} {step : (S → Option R) → S → Option R} {s0 : S} (st : Nat → S) (n : Nat) (g : Nat → Option E) (out : E → Option R) (fin : Option R) (h0 : st 0 = s0)
    (hs : ∀ i, i < n → firstE g i = none → ∀ ih, step ih (st i) = match g i with
      | some e => out e
      | none => ih (st (i + 1)))
    (he : firstE g n = none → ∀ ih, step ih (st n) = fin) {N : Nat} (hN : n < N) : iterF N step s0 = match firstE g n with
      | some e => out e
      | none => fin := by
  rw [← h0]
  have : ∀ k i, i + k = n → firstE g i = none → ∀ M, k < M → iterF M step (st i) = match firstE g n with
      | some e => out e
      | none => fin := by
    intro k
    induction k with
    | zero =>
      intro i hi hg M hM
      obtain ⟨M, rfl⟩ : ∃ m, M = m + 1 := ⟨M - 1, by omega⟩
      have hin : i = n := by omega
      subst hin
      rw [iterF_succ, hg]
      exact he hg _
    | succ k ih =>
      intro i hi hg M hM
      obtain ⟨M, rfl⟩ : ∃ m, M = m + 1 := ⟨M - 1, by omega⟩
      rw [iterF_succ, hs i (by omega) hg]
      cases hgi : g i with
      | none => exact ih (i + 1) (by omega) (by simp only [firstE, hg, hgi]) M (by omega)
      | some e =>
        have : ∀ m, firstE g (i + 1 + m) = some e := by
          intro m
          induction m with
          | zero => simp only [Nat.add_zero, firstE, hg, hgi]
          | succ m ihm => rw [← Nat.add_assoc]; simp only [firstE, ihm]
        have := this k
        rw [show i + 1 + k = n by omega] at this
        rw [this]
  exact this n 0 (by omega) rfl N hN

end Go.Vi
