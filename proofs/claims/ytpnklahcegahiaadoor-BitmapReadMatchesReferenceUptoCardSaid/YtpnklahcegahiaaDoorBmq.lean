/- Bitmaps from indices; the law. -/
import Derived.Test.YtpnklahcegahiaaDoorBmp
set_option linter.unusedVariables false
set_option linter.unusedSimpArgs false
set_option linter.unnecessarySimpa false
set_option linter.unusedSectionVars false
set_option linter.unusedSimpArgs false
namespace Go.Proofs.YtpnklahcegahiaaDoor
open Go.Vi
noncomputable section

theorem flat_get : (G : List Int) → (k : Nat) → (G.flatMap gbits)[k]? = (G[k / 31]?).bind fun g => (gbits g)[k % 31]?
  | [], k => by simp
  | g :: r, k => by
    rw [List.flatMap_cons]
    by_cases h : k < 31
    · rw [List.getElem?_append_left (by rw [gbits_length]; exact h), Nat.div_eq_of_lt h, Nat.mod_eq_of_lt h]; rfl
    · rw [List.getElem?_append_right (by rw [gbits_length]; omega), gbits_length, flat_get r (k - 31)]
      have e1 : k / 31 = (k - 31) / 31 + 1 := by omega
      have e2 : (k - 31) % 31 = k % 31 := by omega
      rw [e1, e2]; rfl
theorem gbits_get (g : Int) {b : Nat} (h : b < 31) : (gbits g)[b]? = some (g.toNat.testBit b) := by
  simp [gbits, h]

/-- What the groups say: bit k is set where p holds. -/
structure Says (G : List Int) (gc : Nat) (p : Nat → Bool) : Prop where
  len : G.length = gc
  ok : ∀ g ∈ G, GOk g
  bit : ∀ j (h : j < G.length) b, b < 31 → G[j].toNat.testBit b = p (31 * j + b)
theorem Says.flat {G : List Int} {gc : Nat} {p : Nat → Bool} (h : Says G gc p) : G.flatMap gbits = (List.range (31 * gc)).map p := by
  apply List.ext_getElem?
  intro k
  rw [flat_get]
  by_cases hk : k < 31 * gc
  · have hj : k / 31 < G.length := by rw [h.len]; omega
    rw [List.getElem?_eq_getElem hj, Option.bind_some, gbits_get _ (Nat.mod_lt _ (by omega)), h.bit _ hj _ (Nat.mod_lt _ (by omega)), List.getElem?_map, List.getElem?_range hk, Nat.div_add_mod]
    rfl
  · rw [List.getElem?_eq_none (by rw [h.len]; omega), List.getElem?_eq_none (by simp; omega)]
    rfl

/-- What the reader reads of what the encoder made. -/
theorem says_bits (N : Nat) {n : Nat} {G : List Int} {p : Nat → Bool} (hn : n ≤ 100000) (h : Says G ((n + 30) / 31) p) (hp : ∀ k, n ≤ k → p k = false) (hN : 200000 < N) :
    F_stemref4_Bits N (((n : Int), (G.foldl pushG [], ())), ()) = some (((List.range n).map p, (true, ())), ()) := by
  obtain ⟨h1, h2⟩ := foldG_ok G h.ok G.length (Nat.le_refl _)
  rw [List.take_length, h.flat] at h2
  rw [List.take_length] at h1
  rw [h.len] at h1
  rw [bits_eq N _ hn h1 ?_ hN]
  · rw [h2, ← List.map_take, List.take_range, Nat.min_eq_left (by omega)]
  · intro k hk b hb
    rw [h2, List.getElem?_map] at hb
    cases hr : (List.range (31 * ((n + 30) / 31)))[k]? with
    | none => rw [hr] at hb; cases hb
    | some m =>
      rw [hr] at hb
      have := List.getElem?_eq_some_iff.1 hr
      obtain ⟨h3, h4⟩ := this
      rw [List.getElem_range] at h4
      injection hb with hb
      rw [← hb, ← h4]
      exact hp k hk

/-! ## FromIndices -/
def setG (G : List Int) (i : Int) : List Int := G.set (i / 31).toNat ((((G.getD (i / 31).toNat 0).toNat ||| 2 ^ (i % 31).toNat : Nat) : Int))
def inS (S : List Int) (k : Nat) : Bool := decide ((k : Int) ∈ S)

theorem setG_says {G : List Int} {gc : Nat} {S : List Int} (h : Says G gc (inS S)) {i : Int} (h0 : 0 ≤ i) (h1 : i < 31 * gc) : Says (setG G i) gc (inS (S ++ [i])) := by
  obtain ⟨m, rfl⟩ : ∃ m : Nat, i = (m : Int) := ⟨i.toNat, by omega⟩
  have e1 : ((m : Int) / 31).toNat = m / 31 := by omega
  have e2 : ((m : Int) % 31).toNat = m % 31 := by omega
  have hj : m / 31 < G.length := by rw [h.len]; omega
  have hg : GOk (G[m / 31]) := h.ok _ (List.getElem_mem _)
  unfold setG
  rw [e1, e2, List.getD_eq_getElem?_getD, List.getElem?_eq_getElem hj, Option.getD_some]
  have hp : (2 : Nat) ^ (m % 31) < 2 ^ 31 := Nat.pow_lt_pow_right (by omega) (Nat.mod_lt _ (by omega))
  have hor : G[m / 31].toNat ||| 2 ^ (m % 31) < 2 ^ 31 := Nat.or_lt_two_pow (by unfold GOk at hg; omega) hp
  refine ⟨by rw [List.length_set]; exact h.len, ?_, ?_⟩
  · intro g hm
    rcases List.mem_or_eq_of_mem_set hm with hm | rfl
    · exact h.ok g hm
    · unfold GOk; omega
  · intro j hj2 b hb
    rw [List.length_set] at hj2
    have hmem : ∀ k : Nat, inS (S ++ [(m : Int)]) k = (inS S k || decide (k = m)) := fun k => by
      unfold inS
      rw [← Bool.decide_or]
      congr 1
      apply propext
      rw [List.mem_append, List.mem_singleton]
      refine or_congr Iff.rfl ?_
      omega
    rw [hmem, List.getElem_set]
    by_cases hjm : m / 31 = j
    · subst hjm
      rw [if_pos rfl, Int.toNat_natCast, Nat.testBit_or, h.bit _ hj2 b hb, Nat.testBit_two_pow]
      congr 1
      congr 1
      apply propext
      omega
    · rw [if_neg hjm, h.bit _ hj2 b hb]
      have : decide (31 * j + b = m) = false := by simp; omega
      rw [this, Bool.or_false]
theorem says_nil (gc : Nat) : Says (List.replicate gc 0) gc (inS []) := by
  refine ⟨by simp, fun g hg => ?_, fun j hj b hb => ?_⟩
  · rw [(List.mem_replicate.1 hg).2]; unfold GOk; omega
  · simp [inS]
theorem fold_says {gc : Nat} (idx : List Int) (hv : ∀ i ∈ idx, 0 ≤ i ∧ i < 31 * gc) : Says (idx.foldl setG (List.replicate gc 0)) gc (inS idx) := by
  have : ∀ k, k ≤ idx.length → Says ((idx.take k).foldl setG (List.replicate gc 0)) gc (inS (idx.take k)) := by
    intro k
    induction k with
    | zero => intro _; simpa using says_nil gc
    | succ k ih =>
      intro hk
      rw [take_snoc hk, List.foldl_append]
      exact setG_says (ih (by omega)) (hv _ (List.getElem_mem _)).1 (hv _ (List.getElem_mem _)).2
  simpa using this idx.length (Nat.le_refl _)

def badI (n : Int) (i : Int) : Bool := decide (i < 0 ∨ n ≤ i)
def fromI (n : Int) (idx : List Int) : D_bitmap_Bitmap × (Int × Unit) :=
  if n < 0 ∨ 100000 < n then ((0, ([], ())), (1, ()))
  else if idx.any (badI n) then ((0, ([], ())), (4, ()))
  else ((n, ((idx.foldl setG (List.replicate ((n.toNat + 30) / 31) 0)).foldl pushG [], ())), (0, ()))

theorem bad_at {n : Int} {idx : List Int} (h : idx.findIdx (badI n) < idx.length) : badI n (idx[idx.findIdx (badI n)]) = true := List.findIdx_getElem (w := h)
theorem good_at {n : Int} {idx : List Int} {i : Nat} (h : i < idx.findIdx (badI n)) (hi : i < idx.length) : ¬ (idx[i] < 0 ∨ n ≤ idx[i]) := by
  have := List.not_of_lt_findIdx h
  simpa [badI] using this
theorem any_iff {n : Int} {idx : List Int} : idx.any (badI n) = decide (idx.findIdx (badI n) < idx.length) := by
  rw [Bool.eq_iff_iff, decide_eq_true_iff, List.findIdx_lt_length, List.any_eq_true]

theorem fromIndices_eq (N : Nat) (n : Int) (idx : List Int) (hl : idx.length ≤ 1048576) (hN : 2000000 < N) : F_bitmap_FromIndices N (n, (idx, ())) = some (fromI n idx, ()) := by
  simp only [F_bitmap_FromIndices, letJ_def, fromI]
  by_cases hn : n < 0 ∨ 100000 < n
  · rw [cond_pos (by rw [ltI_dec, ltI_dec]; simpa using hn), if_pos hn]
  · rw [cond_neg (by rw [ltI_dec, ltI_dec]; simp; omega), if_neg hn]
    obtain ⟨m, rfl⟩ : ∃ m : Nat, n = (m : Int) := ⟨n.toNat, by omega⟩
    simp only [groupCount_eq N (n := m) (by omega), oSome_some, oGet_some, Int.toNat_natCast, lrep_def]
    generalize hgc : (m + 30) / 31 = gc
    rw [cond_pos (by rw [leI_dec, leI_dec, room_def]; simp; omega)]
    refine iterF_run (fun k => ((0, ([], ())), (((idx.take k).foldl setG (List.replicate gc 0)), ((k : Int), ())))) (idx.findIdx (badI m)) _ rfl ?_ ?_ (by have := List.findIdx_le_length (p := badI m) (xs := idx); omega)
    · intro k hk ih
      have hkl : k < idx.length := Nat.lt_of_lt_of_le hk List.findIdx_le_length
      have hg := good_at hk hkl
      have hs : Says ((idx.take k).foldl setG (List.replicate gc 0)) gc (inS (idx.take k)) := fold_says _ fun i hi => by
        obtain ⟨j, hj, rfl⟩ := List.getElem_of_mem hi
        rw [List.length_take] at hj
        rw [List.getElem_take]
        have := good_at (n := m) (idx := idx) (i := j) (by omega) (by omega)
        omega
      have e : (idx.take (k + 1)).foldl setG (List.replicate gc 0) = setG ((idx.take k).foldl setG (List.replicate gc 0)) idx[k] := by rw [take_snoc hkl, List.foldl_append]; rfl
      rw [e]
      dsimp only
      generalize (idx.take k).foldl setG (List.replicate gc 0) = G at *
      rw [cond_pos (lt_len hkl), cond_pos (inB_len hkl), lget_at 0 hkl]
      generalize idx[k] = i at *
      obtain ⟨q, rfl⟩ : ∃ q : Nat, i = (q : Int) := ⟨i.toNat, by omega⟩
      have hq : q < m := by omega
      have hj : q / 31 < G.length := by rw [hs.len]; omega
      have hgj : GOk (G[q / 31]) := hs.ok _ (List.getElem_mem _)
      have e1 : iquo .i64 (q : Int) 31 = ((q / 31 : Nat) : Int) := by rw [iquo64 (by omega) (by omega) (by omega)]; rfl
      have e2 : irem (q : Int) 31 = ((q % 31 : Nat) : Int) := by rw [irem64 (by omega)]; rfl
      have hp : (2 : Nat) ^ (q % 31) < 2 ^ 31 := Nat.pow_lt_pow_right (by omega) (Nat.mod_lt _ (by omega))
      have e3 : shlI .i64 1 ((q % 31 : Nat) : Int) = ((2 ^ (q % 31) : Nat) : Int) := by
        have := shl64 (a := 1) (k := q % 31) (by omega) (by omega)
        rw [Nat.one_mul] at this
        exact this
      have e4 : G[q / 31] = ((G[q / 31].toNat : Nat) : Int) := by unfold GOk at hgj; omega
      have e5 : bor .i64 (lget G ((q / 31 : Nat) : Int) 0) ((2 ^ (q % 31) : Nat) : Int) = ((G[q / 31].toNat ||| 2 ^ (q % 31) : Nat) : Int) := by
        rw [lget_at 0 hj, e4, Int.toNat_natCast]
        exact bor64 (by unfold GOk at hgj; omega) (by omega)
      rw [cond_neg (by rw [ltI_dec, leI_dec]; simp; omega)]
      simp only [e1, e2, e3, e5]
      rw [cond_pos (by rw [neI_dec, inB_len hj, leI_dec]; simp; omega), iadd_nat (by omega), lset_def, Int.toNat_natCast]
      unfold setG
      rw [show ((q : Int) / 31).toNat = q / 31 by omega, show ((q : Int) % 31).toNat = q % 31 by omega, List.getD_eq_getElem?_getD, List.getElem?_eq_getElem hj, Option.getD_some]
    · intro ih
      dsimp only
      by_cases hk : idx.findIdx (badI m) < idx.length
      · have hb := bad_at hk
        rw [cond_pos (lt_len hk), cond_pos (inB_len hk), lget_at 0 hk, cond_pos (by rw [ltI_dec, leI_dec]; simpa [badI] using hb), if_pos (by rw [any_iff]; simpa using hk)]
      · have he : idx.findIdx (badI m) = idx.length := by have := List.findIdx_le_length (p := badI m) (xs := idx); omega
        have hs : Says (idx.foldl setG (List.replicate gc 0)) gc (inS idx) := fold_says _ fun i hi => by
          obtain ⟨j, hj, rfl⟩ := List.getElem_of_mem hi
          have := good_at (n := m) (idx := idx) (i := j) (by omega) hj
          omega
        rw [cond_neg (nlt_len hk), he, List.take_length, if_neg (by rw [any_iff]; simpa using hk)]
        simp only [compress_eq N _ hs.ok (by rw [hs.len]; omega) (by rw [hs.len]; omega), oSome_some, oGet_some, cond_true]

/-! ## Ones -/
theorem lastMask_eq (N : Nat) {n : Nat} (h : n ≤ 100000) : F_bitmap_lastMask N ((n : Int), ()) = some (((if n % 31 = 0 then 2147483647 else ((2 ^ (n % 31) - 1 : Nat) : Int)), ()), ()) := by
  simp only [F_bitmap_lastMask]
  have e : irem (n : Int) 31 = ((n % 31 : Nat) : Int) := by rw [irem64 (by omega)]; rfl
  have hp : (2 : Nat) ^ (n % 31) < 2 ^ 31 := Nat.pow_lt_pow_right (by omega) (Nat.mod_lt _ (by omega))
  have hp1 : 0 < (2 : Nat) ^ (n % 31) := Nat.pow_pos (by omega)
  have e3 : shlI .i64 1 ((n % 31 : Nat) : Int) = ((2 ^ (n % 31) : Nat) : Int) := by
    have := shl64 (a := 1) (k := n % 31) (by omega) (by omega)
    rw [Nat.one_mul] at this
    exact this
  rw [cond_pos (by rw [neI_dec]; rfl), e, eqI_dec]
  by_cases h0 : n % 31 = 0
  · rw [cond_pos (by simp; omega), if_pos h0]
  · rw [cond_neg (by simp; omega), if_neg h0, cond_pos (by rw [neI_dec, leI_dec]; simp; omega), e3]
    generalize (2 : Nat) ^ (n % 31) = p at *
    rw [isub64 (by omega) (by omega)]
    congr 3
    omega

/-! ## Slices -/
theorem works_eq (N : Nat) (hN : 2000000 < N) : F_stemlaw4_bitmapWorks N () = some ((true, ()), ()) := by
  have e : fromI 40 [1, 3] = ((40, ([10, -2], ())), (0, ())) := by decide
  have e2 : F_slices_Equal_int N ([10, -2], ([10, -2], ())) = some ((true, ()), ()) := by
    simp only [F_slices_Equal_int]
    rw [cond_neg (by rw [neI_dec]; simp)]
    refine iterF_run (fun k => ((k : Int), ())) 2 _ rfl ?_ ?_ (by omega)
    · intro k hk ih
      dsimp only
      rw [cond_pos (lt_len hk), cond_pos (by rw [inB_len hk]; rfl), cond_neg (by rw [neI_dec]; simp), iadd_nat (by omega)]
    · intro ih
      dsimp only
      rw [cond_neg (nlt_len (by simp))]
  simp only [F_stemlaw4_bitmapWorks, letJ_def, fromIndices_eq N 40 [1, 3] (by simp) hN, e, e2, oSome_some, oGet_some, cond_true, eqI_dec]
  rfl

end
end Go.Proofs.YtpnklahcegahiaaDoor
