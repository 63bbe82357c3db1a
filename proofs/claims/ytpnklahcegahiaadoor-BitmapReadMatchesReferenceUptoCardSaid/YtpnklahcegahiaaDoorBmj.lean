/- Bitmaps: Indices. -/
import Derived.Test.YtpnklahcegahiaaDoorBmi
set_option linter.unusedVariables false
set_option linter.unusedSimpArgs false
set_option linter.unnecessarySimpa false
set_option linter.unusedSectionVars false
set_option linter.unusedSimpArgs false
namespace Go.Proofs.YtpnklahcegahiaaDoor
open Go.Vi
noncomputable section

def trueFrom : Nat → List Bool → List Int
  | _, [] => []
  | off, b :: d => if b = true then (off : Int) :: trueFrom (off + 1) d else trueFrom (off + 1) d

theorem trueFrom_append : ∀ (d1 d2 : List Bool) (off : Nat), trueFrom off (d1 ++ d2) = trueFrom off d1 ++ trueFrom (off + d1.length) d2
  | [], _, _ => by simp [trueFrom]
  | b :: d1, d2, off => by
    simp only [List.cons_append, trueFrom, trueFrom_append d1 d2 (off + 1), List.length_cons, show off + (d1.length + 1) = off + 1 + d1.length by omega]
    split <;> rfl
theorem trueFrom_length : ∀ (d : List Bool) (off : Nat), (trueFrom off d).length ≤ d.length
  | [], _ => Nat.le_refl _
  | b :: d, off => by
    have := trueFrom_length d (off + 1)
    unfold trueFrom
    split <;> simp only [List.length_cons] <;> omega
theorem trueFrom_none : ∀ (d : List Bool) (off : Nat), (∀ b ∈ d, b = false) → trueFrom off d = []
  | [], _, _ => rfl
  | b :: d, off, h => by
    unfold trueFrom
    rw [if_neg (by rw [h b (List.mem_cons_self ..)]; decide), trueFrom_none d _ fun b hb => h b (List.mem_cons_of_mem _ hb)]
theorem trueFrom_range (p : Nat → Bool) (off : Nat) : ∀ m, trueFrom off ((List.range m).map p) = ((List.range m).filter p).map (fun b => ((off + b : Nat) : Int))
  | 0 => rfl
  | m + 1 => by
    rw [List.range_succ, List.map_append, trueFrom_append, trueFrom_range p off m, List.filter_append, List.map_append]
    congr 1
    simp only [List.map_cons, List.map_nil, List.length_map, List.length_range, trueFrom]
    by_cases h : p m = true
    · rw [if_pos h, List.filter_cons_of_pos h]; rfl
    · rw [if_neg h, List.filter_cons_of_neg h]; rfl
theorem bitsOf_true (j a : Nat) : bitsOf j a = trueFrom (31 * j) (gbits (a : Int)) := by
  unfold bitsOf gbits
  rw [trueFrom_range]
  rfl

def idxFrom : Nat → List Int → List Int
  | _, [] => []
  | j, g :: G => bitsOf j g.toNat ++ idxFrom (j + 1) G
theorem idxFrom_true : ∀ (G : List Int) (j : Nat), (∀ g ∈ G, GOk g) → idxFrom j G = trueFrom (31 * j) (G.flatMap gbits)
  | [], _, _ => rfl
  | g :: G, j, h => by
    have hg := h g (List.mem_cons_self ..)
    rw [idxFrom, idxFrom_true G (j + 1) (fun g hg => h g (List.mem_cons_of_mem _ hg)), List.flatMap_cons, trueFrom_append, gbits_length, bitsOf_true, Int.toNat_of_nonneg hg.1, show 31 * (j + 1) = 31 * j + 31 by omega]

theorem inner_run {R : Type} {step : (List Int × (Int × Unit) → Option R) → (List Int × (Int × Unit)) → Option R} {rest : List Int → Option R} {j B : Nat}
    (h0 : ∀ ih out, step ih (out, (((0 : Nat) : Int), ())) = rest out)
    (h1 : ∀ ih (out : List Int) (a : Nat), 0 < a → a < 2 ^ 31 → out.length ≤ B → step ih (out, ((a : Int), ())) = ih (out ++ [((31 * j + Lib.ctz 64 a : Nat) : Int)], (((a &&& (a - 1) : Nat) : Int), ()))) :
    ∀ (m N a : Nat) (out : List Int), m < N → (bitsOf j a).length = m → a < 2 ^ 31 → out.length + m ≤ B → iterF N step (out, ((a : Int), ())) = rest (out ++ bitsOf j a)
  | m, 0, _, _, h, _, _, _ => by omega
  | 0, N + 1, a, out, _, hl, ha, _ => by
    by_cases h : a = 0
    · subst h
      rw [iterF_succ, h0, bitsOf_zero, List.append_nil]
    · obtain ⟨_, e⟩ := bitsOf_low (j := j) (by omega : 0 < a) ha
      rw [e] at hl
      simp at hl
  | m + 1, N + 1, a, out, hN, hl, ha, hB => by
    by_cases h : a = 0
    · subst h
      rw [bitsOf_zero] at hl
      simp at hl
    · obtain ⟨_, e⟩ := bitsOf_low (j := j) (by omega : 0 < a) ha
      rw [e] at hl ⊢
      simp only [List.length_cons] at hl
      rw [iterF_succ, h1 _ _ _ (by omega) ha (by omega), inner_run h0 h1 m N _ _ (by omega) (by omega) (Nat.lt_of_le_of_lt Nat.and_le_left ha) (by simp; omega), List.append_assoc]
      rfl

theorem bitsOf_length (j a : Nat) : (bitsOf j a).length ≤ 31 := by
  unfold bitsOf
  rw [List.length_map]
  refine Nat.le_trans (List.length_filter_le _ _) ?_
  rw [List.length_range]
  exact Nat.le_refl _

theorem indices_eq (N : Nat) (n : Int) (ws : List Int) (hw : ∀ w ∈ ws, I64 w) (hl : ws.length ≤ 1048576) (hN : 100000000 < N) :
    F_bitmap_Indices N ((n, (ws, ())), ()) = some ((if chk n ws = 0 then (trueFrom 0 ((dec ws).take n.toNat), (0, ())) else ([], (chk n ws, ()))), ()) := by
  simp only [F_bitmap_Indices, letJ_def, check_eq N n ws hw hl hN, oSome_some, oGet_some, cond_true, neI_dec]
  by_cases hc : chk n ws = 0
  · rw [cond_neg (by simp [hc]), if_pos hc]
    obtain ⟨m, rfl, hm, hok⟩ := chk_zero hc
    simp only [expand_any N ws hm hw hl hN, if_pos hok, oSome_some, oGet_some, cond_true]
    obtain ⟨hd, hg⟩ := dec_grp ws 2 hok.1
    have hG : (grp ws).length = (m + 30) / 31 := (okB_iff.1 hok).2.1
    have hres : trueFrom 0 ((dec ws).take m) = idxFrom 0 (grp ws) := by
      rw [idxFrom_true _ 0 hg, ← hd]
      conv => rhs; rw [← List.take_append_drop m (dec ws), trueFrom_append]
      rw [trueFrom_none ((dec ws).drop m), List.append_nil]
      · intro b hb
        obtain ⟨i, hi, rfl⟩ := List.getElem_of_mem hb
        refine hok.2.2 (m + i) (by omega) _ ?_
        rw [List.getElem_drop, List.getElem?_eq_getElem (by rw [List.length_drop] at hi; omega)]
    rw [Int.toNat_natCast, hres]
    generalize grp ws = G at hg hG
    refine (iterF_post (S := (List Int) × (Int × Unit)) (R := ((List Int) × (Int × Unit)) × Unit) (fun p => G.length - p.2.1.toNat) (fun p => ∃ i : Nat, p.2.1 = (i : Int) ∧ i ≤ G.length ∧ p.1.length ≤ 31 * i) (fun p => ((p.1 ++ idxFrom p.2.1.toNat (G.drop p.2.1.toNat), (0, ())), ())) ?_ N _ ⟨0, rfl, Nat.zero_le _, Nat.zero_le _⟩ (by simp; omega)).trans rfl
    rintro ih ⟨out, _, _⟩ ⟨i, rfl, h2, h3⟩ hih
    simp only [Int.toNat_natCast] at hih h3 ⊢
    by_cases hi : i < G.length
    · have hgi := hg G[i] (List.getElem_mem hi)
      obtain ⟨a, ha⟩ : ∃ a : Nat, G[i] = (a : Int) := ⟨G[i].toNat, by rw [Int.toNat_of_nonneg hgi.1]⟩
      have ha2 : a < 2 ^ 31 := by have := hgi.2; omega
      rw [cond_pos (lt_len hi), cond_pos (inB_len hi), lget_at _ hi, ha]
      have hb := bitsOf_length i a
      rw [inner_run (j := i) (B := 31 * i + 31) (rest := fun o => ih (o, (iadd .i64 (i : Int) 1, ()))) ?_ ?_ (bitsOf i a).length N a out (by omega) rfl ha2 (by omega)]
      · rw [iadd_nat (by omega), hih _ ⟨i + 1, rfl, by omega, by simp only [List.length_append]; omega⟩ (by simp only [Int.toNat_natCast]; omega)]
        simp only [Int.toNat_natCast]
        rw [drop_cons' hi, idxFrom, ha, Int.toNat_natCast, List.append_assoc]
      · intro ih2 o
        dsimp only
        rw [cond_neg (by rw [ltI_dec]; rfl)]
      · intro ih2 o b hb0 hb1 hbl
        have hk := (bitsOf_low (j := i) hb0 hb1).1
        have e1 : iwrap .u64 (b : Int) = (b : Int) := by rw [iwrap_def, wrap_u64_id (by omega) (by omega)]
        dsimp only
        rw [cond_pos (by rw [ltI_dec]; simp; omega), e1]
        simp only [ctz_eq N b hb0 (by omega), oSome_some, oGet_some, Bool.true_and]
        rw [cond_pos (room2_ok (by simp only [List.length_cons, List.length_nil]; omega)), lapp_def, imul64 (by omega) (by omega), iadd64 (by omega) (by omega), isub64 (by omega) (by omega), show (b : Int) - 1 = ((b - 1 : Nat) : Int) by omega, band64 (by omega) (by omega), show (i : Int) * 31 + ((Lib.ctz 64 b : Nat) : Int) = ((31 * i + Lib.ctz 64 b : Nat) : Int) by omega]
    · have hi' : i = G.length := by omega
      rw [cond_neg (nlt_len hi)]
      subst hi'
      rw [List.drop_length]
      simp [idxFrom]
  · rw [cond_pos (by simp [hc]), if_neg hc]

theorem trueIndices_eq (N : Nat) (d : List Bool) (hN : d.length < N) (hl : d.length ≤ 1000000) : F_stemlaw4_trueIndices N (d, ()) = some ((trueFrom 0 d, ()), ()) := by
  simp only [F_stemlaw4_trueIndices]
  refine iterF_run (fun i => (trueFrom 0 (d.take i), ((i : Int), ()))) d.length _ rfl ?_ ?_ hN
  · intro i hi ih
    have h1 := trueFrom_length (d.take i) 0
    rw [List.length_take] at h1
    dsimp only
    rw [cond_pos (lt_len hi), cond_pos (inB_len hi), lget_at _ hi, cond_pos (by rw [room2_ok (by simp only [List.length_cons, List.length_nil]; omega)]; cases d[i] <;> rfl), iadd_nat (by omega), lapp_def, take_snoc hi, trueFrom_append, List.length_take, show min i d.length = i by omega]
    cases d[i] <;> simp [trueFrom]
  · intro ih
    dsimp only
    rw [cond_neg (nlt_len (by omega)), List.take_length]
end
end Go.Proofs.YtpnklahcegahiaaDoor
