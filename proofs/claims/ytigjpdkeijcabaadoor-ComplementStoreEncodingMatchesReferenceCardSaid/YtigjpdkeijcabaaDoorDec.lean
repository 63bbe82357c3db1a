/- The row encoding: the reference's encoder, the decoders. -/
import Derived.Test.YtigjpdkeijcabaaDoorEnc
set_option linter.unusedVariables false
set_option linter.unusedSimpArgs false
set_option linter.unnecessarySimpa false
set_option linter.unusedSectionVars false
set_option linter.unusedSimpArgs false
namespace Go.Proofs.YtigjpdkeijcabaaDoor
open Go.Vi
noncomputable section

/-! ## Bytes -/
def Byt (xs : List Int) : Prop := ∀ b ∈ xs, 0 ≤ b ∧ b < 256
theorem Byt.tail {b : Int} {r : List Int} (h : Byt (b :: r)) : Byt r := fun c hc => h c (List.mem_cons_of_mem _ hc)
theorem Byt.head {b : Int} {r : List Int} (h : Byt (b :: r)) : 0 ≤ b ∧ b < 256 := h b List.mem_cons_self
theorem Byt.drop {xs : List Int} (h : Byt xs) (n : Nat) : Byt (xs.drop n) := fun c hc => h c (List.mem_of_mem_drop hc)
theorem Byt.append {xs ys : List Int} (h : Byt xs) (h2 : Byt ys) : Byt (xs ++ ys) := fun c hc => (List.mem_append.1 hc).elim (h c) (h2 c)
theorem Byt.cons {b : Int} {ys : List Int} (h : 0 ≤ b ∧ b < 256) (h2 : Byt ys) : Byt (b :: ys) := fun c hc => (List.mem_cons.1 hc).elim (fun e => e ▸ h) (h2 c)
theorem Byt.nil : Byt [] := fun _ h => by cases h

theorem bytesOf_byt (s : List UInt8) : Byt (bytesOf s) := fun c hc => by
  obtain ⟨b, _, rfl⟩ := List.mem_map.1 hc
  have := b.toNat_lt
  omega
theorem bytesI_intsB {xs : List Int} (h : Byt xs) : bytesI (intsB xs) = xs := by
  rw [intsB_def, bytesI_eq, bytesOf, List.map_map]
  refine (List.map_congr_left fun b hb => ?_).trans (List.map_id _)
  have := h b hb
  simp only [Function.comp_apply, UInt8.toNat_ofNat', id]
  omega
theorem intsB_bytesOf (s : List UInt8) : intsB (bytesOf s) = s := by
  rw [intsB_def, bytesOf, List.map_map]
  refine (List.map_congr_left fun b hb => ?_).trans (List.map_id _)
  simp
theorem intsB_inj {xs ys : List Int} (h : Byt xs) (h2 : Byt ys) (e : intsB xs = intsB ys) : xs = ys := by
  rw [← bytesI_intsB h, ← bytesI_intsB h2, e]
theorem intsB_app (xs ys : List Int) : intsB xs ++ intsB ys = intsB (xs ++ ys) := by rw [intsB_def, intsB_def, intsB_def, List.map_append]
theorem intsB_length (xs : List Int) : (intsB xs).length = xs.length := by rw [intsB_def, List.length_map]

theorem uvar_byt : (n : Nat) → Byt (uvar n) := by
  intro n
  induction n using Nat.strongRecOn with
  | ind n ih =>
    by_cases h : n < 128
    · rw [uvar_small h]; exact Byt.cons (by omega) Byt.nil
    · rw [uvar_big h]; exact Byt.cons (by omega) (ih _ (by omega))
theorem encV_byt {v : D_api_Value} (h : vErr v = 0) : Byt (encV v) := by
  unfold encV
  rcases vErr_zero h with ⟨h1, _, _⟩ | ⟨h1, h2, h3, _⟩ | ⟨h1, _, _⟩ | ⟨h1, _, h3⟩
  · simp only [h1]; exact Byt.cons (by omega) Byt.nil
  · simp only [h1]; exact Byt.cons (by omega) (uvar_byt _)
  · simp only [h1]; exact Byt.cons (by omega) (Byt.cons (by omega) Byt.nil)
  · simp only [h1]; exact Byt.cons (by omega) (Byt.cons (by omega) (bytesOf_byt _))
theorem flat_byt {r : List D_api_Value} (h : ∀ v ∈ r, vErr v = 0) : Byt (r.flatMap encV) := fun c hc => by
  obtain ⟨v, hv, hc⟩ := List.mem_flatMap.1 hc
  exact encV_byt (h v hv) c hc
theorem encR_byt {r : List D_api_Value} (hr : r.length < 256) (h : ∀ v ∈ r, vErr v = 0) : Byt (encR r) := Byt.cons (by omega) (flat_byt h)

theorem rowErr_zero {r : List D_api_Value} (h : rowErr r = 0) : r.length ≤ 12 ∧ ∀ v ∈ r, vErr v = 0 := by
  have h12 : r.length ≤ 12 := by
    unfold rowErr at h
    split at h
    · cases h
    · omega
  refine ⟨h12, firstErr_zero ?_⟩
  unfold rowErr at h; rwa [if_neg (by omega)] at h

/-! ## The reference's encoder -/
theorem room_str (a b : List UInt8) (h : a.length + b.length ≤ 1000000) : room2 (lenI a) (lenI b) 1 = true := by
  rw [room2_def, lenI_def, lenI_def]; simp; omega

theorem zigzag_eq (N : Nat) {v : Int} (h1 : -1000000000000 ≤ v) (h2 : v ≤ 1000000000000) (hN : 20 < N) : F_stemref4_zigzag N (v, ()) = some ((intsB (uvar (zig v)), ()), ()) := by
  simp only [F_stemref4_zigzag, letJ_def]
  have hz : zig v < 128 ^ 9 := by unfold zig; split <;> omega
  have e : (bif ltI v 0 then iwrap .u64 (isub .i64 (imul .i64 (-2) v) 1) else iwrap .u64 (imul .i64 2 v)) = (zig v : Int) := by
    unfold zig
    by_cases h : v < 0
    · rw [cond_pos (by rw [ltI_def]; simpa using h), if_pos h, imul_def, isub_def, iwrap_def, wrap64 (z := -2 * v) (by omega) (by omega), wrap64 (by omega) (by omega), wrap_u64_id (by omega) (by omega)]
      omega
    · rw [cond_neg (by rw [ltI_def]; simpa using h), if_neg h, imul_def, iwrap_def, wrap64 (by omega) (by omega), wrap_u64_id (by omega) (by omega)]
      omega
  rw [e]
  have hl := uvar_len 8 _ hz
  refine iterF_post (S := Int × ((List UInt8) × Unit)) (R := ((List UInt8) × Unit) × Unit) (fun p => (uvar p.1.toNat).length) (fun p => ∃ m : Nat, p.1 = (m : Int) ∧ m < 128 ^ 9 ∧ p.2.1.length + (uvar m).length ≤ 1000) (fun p => ((p.2.1 ++ intsB (uvar p.1.toNat), ()), ())) ?_ N _ ⟨zig v, rfl, hz, by simp only [List.length_nil]; omega⟩ (by simp only [Int.toNat_natCast]; omega)
  rintro ih ⟨_, o, _⟩ ⟨m, rfl, hm9, h3⟩ hih
  simp only [Int.toNat_natCast] at hih h3 ⊢
  by_cases hm : m < 128
  · rw [uvar_small hm] at h3 ⊢
    simp only [List.length_cons, List.length_nil] at h3
    have e : iwrap .u8 (m : Int) = (m : Int) := wrap8_id (by omega) (by omega)
    rw [cond_neg (by rw [leI_def]; simp; omega), cond_pos (room_str _ _ (by rw [intsB_length]; simp only [List.length_cons, List.length_nil]; omega)), lapp_def, e]
  · rw [uvar_big hm] at h3 hih ⊢
    simp only [List.length_cons] at h3 hih
    have e : iwrap .u8 (iadd .u64 (irem (m : Int) 128) 128) = ((m % 128 + 128 : Nat) : Int) := by
      have e1 : irem (m : Int) 128 = ((m % 128 : Nat) : Int) := by rw [irem_def, Int.tmod_eq_emod_of_nonneg (by omega)]; omega
      rw [e1, iadd_def, wrap_u64_id (by omega) (by omega), wrap8_id (by omega) (by omega)]
      omega
    have e2 : iquo .u64 (m : Int) 128 = ((m / 128 : Nat) : Int) := by
      rw [iquo_def, Int.tdiv_eq_ediv_of_nonneg (by omega), wrap_u64_id (by omega) (by omega)]
      omega
    have hr : room2 (lenI o) (lenI (intsB [((m % 128 + 128 : Nat) : Int)])) 1 = true := room_str _ _ (by rw [intsB_length]; simp only [List.length_cons, List.length_nil]; omega)
    simp only [e, e2, hr, neI_dec, lapp_def]
    rw [cond_pos (by rw [leI_def]; simp; omega), cond_pos (by decide), cond_pos (by decide)]
    rw [hih _ ⟨m / 128, rfl, by omega, by simp only [List.length_append, intsB_length, List.length_cons, List.length_nil]; omega⟩ (by simp only [Int.toNat_natCast]; omega)]
    simp only [Int.toNat_natCast, List.append_assoc, intsB_app, List.cons_append, List.nil_append]

theorem rowString_eq (N : Nat) (r : List D_api_Value) (hr : r.length ≤ 12) (hv : ∀ v ∈ r, vErr v = 0) (hN : 20 < N) : F_stemref4_rowString N (r, ()) = some ((intsB (encR r), ()), ()) := by
  simp only [F_stemref4_rowString, letJ_def]
  have hl : iwrap .u8 (lenI r) = (r.length : Int) := by rw [lenI_def]; exact wrap8_id (by omega) (by omega)
  simp only [lapp_def, List.nil_append, hl]
  refine iterF_post (S := (List UInt8) × (Int × Unit)) (R := ((List UInt8) × Unit) × Unit) (fun p => r.length - p.2.1.toNat) (fun p => ∃ i : Nat, p.2.1 = (i : Int) ∧ i ≤ r.length ∧ p.1 = intsB ((r.length : Int) :: (r.take i).flatMap encV)) (fun p => ((intsB (encR r), ()), ())) ?_ N _ ⟨0, rfl, Nat.zero_le _, by simp⟩ (by simp; omega)
  rintro ih ⟨o, _, _⟩ ⟨i, rfl, h2, ho⟩ hih
  simp only [Int.toNat_natCast] at hih ho ⊢
  by_cases hi : i < r.length
  · have hg : lget r (i : Int) (0, (0, ([], ()))) = r[i] := lget_nat (List.getElem?_eq_getElem hi)
    have hfl : ((r.take i).flatMap encV).length ≤ 30 * (r.take i).length := flat_len fun v hm => hv v (List.mem_of_mem_take hm)
    have htl : (r.take i).length ≤ 12 := by rw [List.length_take]; omega
    have hol : o.length ≤ 1000 := by subst ho; rw [intsB_length, List.length_cons]; omega
    have hvi := hv r[i] (List.getElem_mem hi)
    rw [cond_pos (lt_len hi), cond_pos (inB_len hi), cond_pos (room_str _ _ (by rw [intsB_length]; simp only [List.length_cons, List.length_nil]; omega))]
    simp only [hg]
    have fin : ∀ (o' : List UInt8), o' = intsB ((r.length : Int) :: (r.take (i + 1)).flatMap encV) → ih (o', (iadd .i64 (i : Int) 1, ())) = some ((intsB (encR r), ()), ()) := fun o' ho' => by
      rw [iadd_nat (by omega)]
      exact hih _ ⟨i + 1, rfl, by omega, ho'⟩ (by simp only [Int.toNat_natCast]; omega)
    have fin2 : ∀ (o' : List UInt8), o' = o ++ intsB (encV r[i]) → ih (o', (iadd .i64 (i : Int) 1, ())) = some ((intsB (encR r), ()), ()) := fun o' ho' => by
      refine fin _ ?_
      rw [ho', ho, intsB_app, flat_take hi]
      rfl
    have hrm : ∀ b : List UInt8, b.length ≤ 1000 → room2 (lenI (o ++ intsB [r[i].1])) (lenI b) 1 = true := fun b hb => room_str _ _ (by simp only [List.length_append, intsB_length, List.length_cons, List.length_nil]; omega)
    rcases vErr_zero hvi with ⟨h1, _, _⟩ | ⟨h1, h3, h4, _⟩ | ⟨h1, h3, _⟩ | ⟨h1, h5, h3⟩
    · have hk : iwrap .u8 r[i].1 = r[i].1 := wrap8_id (by omega) (by omega)
      simp only [hk, lapp_def]
      rw [cond_pos (by simp [h1, eqI_dec]), cond_neg (by simp [h1, eqI_dec]), cond_neg (by simp [h1, eqI_dec]), cond_neg (by simp [h1, eqI_dec])]
      exact fin2 _ (by simp [encV, h1])
    · have hk : iwrap .u8 r[i].1 = r[i].1 := wrap8_id (by omega) (by omega)
      have hz : zig r[i].2.1 < 128 ^ (6 + 1) := by unfold zig; split <;> omega
      have hul := uvar_len 6 _ hz
      simp only [hk, lapp_def, zigzag_eq N h3 h4 hN, oSome_some, oGet_some, hrm _ (show (intsB (uvar (zig r[i].2.1))).length ≤ 1000 by rw [intsB_length]; omega)]
      rw [cond_pos (by simp [h1, eqI_dec]), cond_pos (by simp [h1, eqI_dec])]
      exact fin2 _ (by rw [List.append_assoc, intsB_app]; simp [encV, h1])
    · have hk : iwrap .u8 r[i].1 = r[i].1 := wrap8_id (by omega) (by omega)
      have hb : iwrap .u8 r[i].2.1 = r[i].2.1 := wrap8_id (by omega) (by omega)
      simp only [hk, hb, lapp_def, hrm _ (show (intsB [r[i].2.1]).length ≤ 1000 by rw [intsB_length]; simp)]
      rw [cond_pos (by simp [h1, eqI_dec]), cond_neg (by simp [h1, eqI_dec]), cond_pos (by simp [h1, eqI_dec])]
      exact fin2 _ (by rw [List.append_assoc, intsB_app]; simp [encV, h1])
    · have hk : iwrap .u8 r[i].1 = r[i].1 := wrap8_id (by omega) (by omega)
      have hb : iwrap .u8 (lenI r[i].2.2.1) = (r[i].2.2.1.length : Int) := by rw [lenI_def]; exact wrap8_id (by omega) (by omega)
      have hrm2 : room2 (lenI (intsB [(r[i].2.2.1.length : Int)])) (lenI r[i].2.2.1) 1 = true := room_str _ _ (by rw [intsB_length]; simp; omega)
      simp only [hk, hb, lapp_def, hrm2, hrm _ (show (intsB [(r[i].2.2.1.length : Int)] ++ r[i].2.2.1).length ≤ 1000 by rw [List.length_append, intsB_length]; simp; omega)]
      rw [cond_pos (by simp [h1, eqI_dec]), cond_neg (by simp [h1, eqI_dec]), cond_neg (by simp [h1, eqI_dec]), cond_pos (by simp [h1, eqI_dec])]
      refine fin2 _ ?_
      have e : intsB [(r[i].2.2.1.length : Int)] ++ r[i].2.2.1 = intsB ((r[i].2.2.1.length : Int) :: bytesOf r[i].2.2.1) := by
        conv => lhs; rhs; rw [← intsB_bytesOf r[i].2.2.1]
        rw [intsB_app]; rfl
      rw [e, List.append_assoc, intsB_app]
      simp [encV, h1]
  · have hi' : i = r.length := by omega
    rw [cond_neg (nlt_len hi), ho]
    subst hi'
    rw [List.take_length]
    rfl

/-! ## The decoder -/
def pByte (d : D_encoding_decoder) : (Int × Unit) × (D_encoding_decoder × Unit) :=
  match d.1 with
  | [] => ((0, ()), (([], (true, ())), ()))
  | b :: r => ((b, ()), ((r, d.2), ()))

theorem slice_from {α : Type} (xs : List α) (i : Nat) : lslice xs (i : Int) (lenI xs) = xs.drop i := by
  rw [lslice_def, lenI_def]; simp
theorem slice_to {α : Type} (xs : List α) (i : Nat) : lslice xs 0 (i : Int) = xs.take i := by
  rw [lslice_def]; simp
theorem inS_from {α : Type} {xs : List α} {i : Nat} (h : i ≤ xs.length) : inS (i : Int) (lenI xs) (lenI xs) = true := by
  rw [inS_def, lenI_def]; simp; omega

theorem byte_eq (N : Nat) (d : D_encoding_decoder) : F_decoder_byte N (d, ()) = some (pByte d) := by
  obtain ⟨b, bad, _⟩ := d
  simp only [F_decoder_byte]
  cases b with
  | nil => rw [cond_pos (by simp [eqI_dec, lenI_def])]; rfl
  | cons b r =>
    rw [cond_neg (by simp only [eqI_dec, lenI_def, List.length_cons]; simp; omega), show inB 0 (lenI (b :: r)) = true from inB_len (i := 0) (by simp), show inS 1 (lenI (b :: r)) (lenI (b :: r)) = true from inS_from (i := 1) (by simp), show lslice (b :: r) 1 (lenI (b :: r)) = r from slice_from _ 1, show lget (b :: r) 0 0 = b from lget_nat (i := 0) rfl]
    rfl
theorem pByte_byt {d : D_encoding_decoder} (h : Byt d.1) : (0 ≤ (pByte d).1.1 ∧ (pByte d).1.1 < 256) ∧ Byt (pByte d).2.1.1 := by
  obtain ⟨b, bad, _⟩ := d
  cases b with
  | nil => exact ⟨by simp [pByte], Byt.nil⟩
  | cons b r => exact ⟨h.head, h.tail⟩

def stepU (n b : Int) (i : Nat) : Int := bor .u64 n (shlI .u64 (iwrap .u64 (band .u8 b 127)) (imul .i64 7 (i : Int)))
def pUvar : Nat → D_encoding_decoder → Int → Nat → (Int × Unit) × (D_encoding_decoder × Unit)
  | 0, d, _, _ => ((0, ()), ((d.1, (true, d.2.2)), ()))
  | k + 1, d, n, i => if (pByte d).1.1 < 128 then ((stepU n (pByte d).1.1 i, ()), (pByte d).2) else pUvar k (pByte d).2.1 (stepU n (pByte d).1.1 i) (i + 1)

theorem uvarint_eq (N : Nat) (d : D_encoding_decoder) (hN : 20 < N) : F_decoder_uvarint N (d, ()) = some (pUvar 10 d 0 0) := by
  simp only [F_decoder_uvarint, letJ_def]
  refine iterF_post (S := D_encoding_decoder × (Int × (Int × Unit))) (R := (Int × Unit) × (D_encoding_decoder × Unit)) (fun p => 10 - p.2.2.1.toNat) (fun p => ∃ i : Nat, p.2.2.1 = (i : Int) ∧ i ≤ 10) (fun p => pUvar (10 - p.2.2.1.toNat) p.1 p.2.1 p.2.2.1.toNat) ?_ N _ ⟨0, rfl, Nat.zero_le _⟩ (by simp; omega)
  rintro ih ⟨d, n, _, _⟩ ⟨i, rfl, h2⟩ hih
  simp only [Int.toNat_natCast] at hih ⊢
  by_cases hi : i < 10
  · obtain ⟨k, hk⟩ : ∃ k, 10 - i = k + 1 := ⟨9 - i, by omega⟩
    rw [cond_pos (by rw [ltI_def]; simp; omega)]
    simp only [byte_eq, oSome_some, oGet_some, cond_true, hk, pUvar]
    rw [cond_pos (by rw [leI_def, imul_def, wrap64 (by omega) (by omega)]; simp; omega)]
    by_cases hb : (pByte d).1.1 < 128
    · rw [cond_pos (by rw [ltI_def]; simpa using hb), if_pos hb]; rfl
    · rw [cond_neg (by rw [ltI_def]; simpa using hb), if_neg hb, iadd_nat (by omega), hih _ ⟨i + 1, rfl, by omega⟩ (by simp only [Int.toNat_natCast]; omega)]
      simp only [Int.toNat_natCast, show 10 - (i + 1) = k by omega]
      rfl
  · rw [cond_neg (by rw [ltI_def]; simp; omega), show 10 - i = 0 by omega]
    rfl

theorem pUvar_byt : (k : Nat) → (d : D_encoding_decoder) → (n : Int) → (i : Nat) → Byt d.1 → Byt (pUvar k d n i).2.1.1
  | 0, d, n, i, h => h
  | k + 1, d, n, i, h => by
    unfold pUvar
    split
    · exact (pByte_byt h).2
    · exact pUvar_byt k _ _ _ (pByte_byt h).2

theorem or_add {n b i : Nat} (hn : n < 2 ^ i) : n ||| (b * 2 ^ i) = n + b * 2 ^ i := by
  have := Nat.shiftLeft_add_eq_or_of_lt hn b
  rw [Nat.shiftLeft_eq] at this
  rw [Nat.or_comm, ← this, Nat.add_comm]

theorem stepU_eq {n c i : Nat} {b : Int} (hb : b = (c : Int)) (hc : c < 256) (hi : i ≤ 8) (hn : n < 128 ^ i) : stepU (n : Int) b i = ((n + (c % 128) * 128 ^ i : Nat) : Int) := by
  subst hb
  have hp : (128 : Nat) ^ i = 2 ^ (7 * i) := by rw [Nat.pow_mul]
  have hle : (128 : Nat) ^ i ≤ 128 ^ 8 := Nat.pow_le_pow_right (by decide) hi
  have h1 : band .u8 (c : Int) 127 = ((c % 128 : Nat) : Int) := by
    rw [band_def]
    have key : ∀ m : Fin 256, (BitVec.ofInt 8 (m.val : Int) &&& BitVec.ofInt 8 127).toNat = m.val % 128 := by decide +kernel
    have := key ⟨c, hc⟩
    refine (congrArg (fun z : Nat => IntKind.wrap .u8 (z : Int)) this).trans ?_
    show IntKind.wrap .u8 ((c % 128 : Nat) : Int) = _
    rw [wrap_u8]
    omega
  have h2 : imul .i64 7 (i : Int) = ((7 * i : Nat) : Int) := by rw [imul_def, wrap64 (by omega) (by omega)]; omega
  have hm : (c % 128) * 128 ^ i < 128 ^ 9 := by
    have : (c % 128) * 128 ^ i ≤ 127 * 128 ^ i := Nat.mul_le_mul_right _ (by omega)
    omega
  have h3 : shlI .u64 (iwrap .u64 ((c % 128 : Nat) : Int)) ((7 * i : Nat) : Int) = (((c % 128) * 128 ^ i : Nat) : Int) := by
    rw [shlI_def, iwrap_def, wrap_u64_id (n := ((c % 128 : Nat) : Int)) (by omega) (by omega), Int.toNat_natCast, show min (7 * i) (IntKind.bits .u64) = 7 * i from Nat.min_eq_left (by show 7 * i ≤ 64; omega)]
    have e : ((c % 128 : Nat) : Int) * 2 ^ (7 * i) = (((c % 128) * 128 ^ i : Nat) : Int) := by
      rw [hp]; push_cast; rfl
    rw [e, wrap_u64_id (by omega) (by omega)]
  rw [stepU, h1, h2, h3, bor_def]
  have e0 : (BitVec.ofInt 64 (n : Int) ||| BitVec.ofInt 64 (((c % 128) * 128 ^ i : Nat) : Int)).toNat = n + (c % 128) * 128 ^ i := by
    rw [BitVec.toNat_or, BitVec.toNat_ofInt, BitVec.toNat_ofInt]
    have e1 : ((n : Int) % (2 ^ 64 : Nat)).toNat = n := by omega
    have e2 : ((((c % 128) * 128 ^ i : Nat) : Int) % (2 ^ 64 : Nat)).toNat = (c % 128) * 128 ^ i := by omega
    rw [e1, e2, hp]
    exact or_add (by omega)
  refine (congrArg (fun z : Nat => IntKind.wrap .u64 (z : Int)) e0).trans ?_
  exact wrap_u64_id (by omega) (by omega)

theorem pow_next (i : Nat) : (128 : Nat) ^ (i + 1) = 128 * 128 ^ i := by rw [Nat.pow_succ, Nat.mul_comm]
theorem pUvar_last (t m n i : Nat) (rest : List Int) (bad : Bool × Unit) (hm : m < 128) (hi : i ≤ 8) (hn : n < 128 ^ i) : pUvar (t + 1) (uvar m ++ rest, bad) (n : Int) i = ((((n + m * 128 ^ i : Nat) : Int), ()), ((rest, bad), ())) := by
  rw [uvar_small hm, pUvar]
  have e : pByte ([(m : Int)] ++ rest, bad) = (((m : Int), ()), ((rest, bad), ())) := rfl
  rw [e, if_pos (by show (m : Int) < 128; omega)]
  show ((stepU (n : Int) (m : Int) i, ()), ((rest, bad), ())) = _
  rw [stepU_eq rfl (by omega) hi hn, Nat.mod_eq_of_lt hm]
theorem pUvar_uvar : (k t m n i : Nat) → (rest : List Int) → (bad : Bool × Unit) → k ≤ t → m < 128 ^ (k + 1) → k + i ≤ 8 → n < 128 ^ i → pUvar (t + 1) (uvar m ++ rest, bad) (n : Int) i = ((((n + m * 128 ^ i : Nat) : Int), ()), ((rest, bad), ()))
  | 0, t, m, n, i, rest, bad, _, hm, hi, hn => pUvar_last t m n i rest bad (by simpa using hm) (by omega) hn
  | k + 1, 0, m, n, i, rest, bad, ht, hm, hi, hn => by omega
  | k + 1, t + 1, m, n, i, rest, bad, ht, hm, hi, hn => by
    by_cases hs : m < 128
    · exact pUvar_last (t + 1) m n i rest bad hs (by omega) hn
    · rw [uvar_big hs, pUvar]
      have e : pByte (((m % 128 + 128 : Nat) : Int) :: uvar (m / 128) ++ rest, bad) = ((((m % 128 + 128 : Nat) : Int), ()), ((uvar (m / 128) ++ rest, bad), ())) := rfl
      have hp := pow_next i
      have hp2 := pow_next (k + 1)
      have h1 : (m % 128) * 128 ^ i ≤ 127 * 128 ^ i := Nat.mul_le_mul_right _ (by omega)
      rw [e, if_neg (by show ¬ ((m % 128 + 128 : Nat) : Int) < 128; omega), stepU_eq rfl (by omega) (by omega) hn, show (m % 128 + 128) % 128 = m % 128 by omega]
      rw [pUvar_uvar k t (m / 128) _ (i + 1) rest bad (by omega) (by omega) (by omega) (by omega)]
      have h2 : m / 128 * 128 ^ (i + 1) = (128 * (m / 128)) * 128 ^ i := by rw [hp, ← Nat.mul_assoc, Nat.mul_comm (m / 128) 128]
      have h3 : m * 128 ^ i = (128 * (m / 128)) * 128 ^ i + (m % 128) * 128 ^ i := by rw [← Nat.add_mul]; congr 1; omega
      rw [h2, h3]
      congr 3
      omega

def pStr (d : D_encoding_decoder) (n : Int) : ((List UInt8) × Unit) × (D_encoding_decoder × Unit) :=
  if (d.1.length : Int) < n then (([], ()), ((d.1, (true, d.2.2)), ())) else ((intsB (d.1.take n.toNat), ()), ((d.1.drop n.toNat, d.2), ()))
theorem string_eq (N : Nat) (d : D_encoding_decoder) (n : Int) (hn : 0 ≤ n) : F_decoder_string N (d, (n, ())) = some (pStr d n) := by
  obtain ⟨n, rfl⟩ := Int.eq_ofNat_of_zero_le hn
  simp only [F_decoder_string, letJ_def, pStr, Int.toNat_natCast]
  by_cases h : (d.1.length : Int) < (n : Int)
  · rw [cond_pos (by rw [ltI_def, lenI_def]; simpa using h), if_pos h]
  · rw [cond_neg (by rw [ltI_def, lenI_def]; simpa using h), if_neg h, cond_pos (by rw [inS_def, lenI_def]; simp; omega), cond_pos (inS_from (by omega)), slice_from, slice_to]

/-- One value. -/
def pVal (d : D_encoding_decoder) : D_api_Value × D_encoding_decoder :=
  if (pByte d).1.1 = 1 then (((pByte d).1.1, (bxor .i64 (iwrap .i64 (shrI .u64 (pUvar 10 (pByte d).2.1 0 0).1.1 1)) (ineg .i64 (iwrap .i64 (band .u64 (pUvar 10 (pByte d).2.1 0 0).1.1 1))), ([], ()))), (pUvar 10 (pByte d).2.1 0 0).2.1)
  else if (pByte d).1.1 = 2 then (((pByte d).1.1, ((pByte (pByte d).2.1).1.1, ([], ()))), (pByte (pByte d).2.1).2.1)
  else if (pByte d).1.1 = 3 then (((pByte d).1.1, (0, ((pStr (pByte (pByte d).2.1).2.1 (pByte (pByte d).2.1).1.1).1.1, ()))), (pStr (pByte (pByte d).2.1).2.1 (pByte (pByte d).2.1).1.1).2.1)
  else (((pByte d).1.1, (0, ([], ()))), (pByte d).2.1)
theorem pVal_byt {d : D_encoding_decoder} (h : Byt d.1) : Byt (pVal d).2.1 := by
  unfold pVal
  have h1 := (pByte_byt h).2
  have h2 := (pByte_byt h1).2
  split
  · exact pUvar_byt _ _ _ _ h1
  · split
    · exact h2
    · split
      · unfold pStr
        split
        · exact h2
        · exact h2.drop _
      · exact h1

def pRow : Nat → D_encoding_decoder → List D_api_Value → ((List D_api_Value) × Unit) × (D_encoding_decoder × Unit)
  | 0, d, row => ((row, ()), (d, ()))
  | c + 1, d, row => if d.2.1 = true then ((row, ()), (d, ())) else pRow c (pVal d).2 (row ++ [(pVal d).1])

theorem wrapi64_id {n : Int} (h1 : 0 ≤ n) (h2 : n < 256) : iwrap .i64 n = n := by rw [iwrap_def]; exact wrap64 (by omega) (by omega)
theorem room_row (out : List D_api_Value) (b : D_api_Value) (h : out.length ≤ 1000000) : room2 (lenI out) (lenI ([b] : List D_api_Value)) 32 = true := by
  rw [room2_def, lenI_def, lenI_def]
  simp
  omega

theorem row_eq (N : Nat) (d : D_encoding_decoder) (hd : Byt d.1) (hN : 1000 < N) : F_decoder_row N (d, ()) = some (pRow (pByte d).1.1.toNat (pByte d).2.1 []) := by
  have h0 := pByte_byt hd
  have hN2 : 20 < N := by omega
  simp only [F_decoder_row, letJ_def, byte_eq, oSome_some, oGet_some, cond_true, uvarint_eq N _ hN2]
  refine iterF_post (S := D_encoding_decoder × ((List D_api_Value) × (Int × Unit))) (R := ((List D_api_Value) × Unit) × (D_encoding_decoder × Unit)) (fun p => p.2.2.1.toNat) (fun p => Byt p.1.1 ∧ ∃ i : Nat, p.2.2.1 = (i : Int) ∧ p.2.1.length + i ≤ 255) (fun p => pRow p.2.2.1.toNat p.1 p.2.1) ?_ N _ ⟨h0.2, (pByte d).1.1.toNat, by simp only; omega, by simp only [List.length_nil]; omega⟩ (by simp only; omega)
  rintro ih ⟨d, row, _, _⟩ ⟨hb, i, rfl, h2⟩ hih
  simp only [Int.toNat_natCast] at hih h2 hb ⊢
  cases i with
  | zero => rw [cond_neg (by rw [ltI_def]; rfl)]; rfl
  | succ i =>
    by_cases hbad : d.2.1 = true
    · rw [cond_neg (by rw [hbad]; simp), pRow, if_pos hbad]
    · have hb1 := pByte_byt hb
      have hb2 := pByte_byt hb1.2
      rw [cond_pos (by rw [ltI_def]; simp [hbad]), pRow, if_neg hbad]
      have ei : isub .u8 (((i + 1 : Nat)) : Int) 1 = (i : Int) := by rw [isub_def, wrap_u8]; omega
      have hstr := string_eq N (pByte (pByte d).2.1).2.1 (pByte (pByte d).2.1).1.1 hb2.1.1
      simp only [wrapi64_id hb1.1.1 hb1.1.2, wrapi64_id hb2.1.1 hb2.1.2, hstr, oSome_some, oGet_some, room_row row _ (by omega), cond_true, lapp_def, ei, show leI 0 1 = true from by rw [leI_def]; rfl, Bool.and_self]
      have fin : ∀ d' v', v' = (pVal d).1 → d' = (pVal d).2 → ih (d', (row ++ [v'], ((i : Int), ()))) = some (pRow i (pVal d).2 (row ++ [(pVal d).1])) := fun d' v' e1 e2 => by
        subst e1 e2
        rw [hih _ ⟨pVal_byt hb, i, rfl, by simp only [List.length_append, List.length_cons, List.length_nil]; omega⟩ (by simp)]
        simp only [Int.toNat_natCast]
      by_cases k1 : (pByte d).1.1 = 1
      · rw [cond_pos (show eqI (pByte d).1.1 1 = true by simp [eqI_dec, k1]), cond_pos (show eqI (pByte d).1.1 1 = true by simp [eqI_dec, k1]), cond_pos (show eqI (pByte d).1.1 1 = true by simp [eqI_dec, k1])]
        exact fin _ _ (by unfold pVal; rw [if_pos k1]) (by unfold pVal; rw [if_pos k1])
      · have n1 : eqI (pByte d).1.1 1 = false := by simp [eqI_dec, k1]
        simp only [n1, cond_false]
        by_cases k2 : (pByte d).1.1 = 2
        · have n2 : eqI (pByte d).1.1 2 = true := by simp [eqI_dec, k2]
          simp only [n2, cond_true]
          exact fin _ _ (by unfold pVal; rw [if_neg k1, if_pos k2]) (by unfold pVal; rw [if_neg k1, if_pos k2])
        · have n2 : eqI (pByte d).1.1 2 = false := by simp [eqI_dec, k2]
          simp only [n2, cond_false]
          by_cases k3 : (pByte d).1.1 = 3
          · have n3 : eqI (pByte d).1.1 3 = true := by simp [eqI_dec, k3]
            simp only [n3, cond_true]
            exact fin _ _ (by unfold pVal; rw [if_neg k1, if_neg k2, if_pos k3]) (by unfold pVal; rw [if_neg k1, if_neg k2, if_pos k3])
          · have n3 : eqI (pByte d).1.1 3 = false := by simp [eqI_dec, k3]
            simp only [n3, cond_false, cond_true]
            exact fin _ _ (by unfold pVal; rw [if_neg k1, if_neg k2, if_neg k3]) (by unfold pVal; rw [if_neg k1, if_neg k2, if_neg k3])

theorem pVal_enc {v : D_api_Value} (h : vErr v = 0) (rest : List Int) : pVal (encV v ++ rest, (false, ())) = (v, (rest, (false, ()))) := by
  obtain ⟨k, n, s, _⟩ := v
  rcases vErr_zero h with ⟨h1, h2, h3⟩ | ⟨h1, h2, h3, h4⟩ | ⟨h1, h2, h3⟩ | ⟨h1, h2, h3⟩
  · simp only at h1 h2 h3; subst h1 h2 h3; rfl
  · simp only at h1 h2 h3 h4; subst h1 h4
    have hz : zig n < 128 ^ (6 + 1) := by unfold zig; split <;> omega
    have e0 : pByte (encV (1, (n, ([], ()))) ++ rest, (false, ())) = ((1, ()), ((uvar (zig n) ++ rest, (false, ())), ())) := rfl
    have e1 := pUvar_uvar 6 9 (zig n) 0 0 rest (false, ()) (by omega) hz (by omega) (by decide)
    unfold pVal
    rw [e0, if_pos rfl]
    have e2 : pUvar 10 (uvar (zig n) ++ rest, (false, ())) 0 0 = (((zig n : Int), ()), ((rest, (false, ())), ())) := e1.trans (by simp)
    simp only [e2, zig_dec h2 h3]
  · simp only at h1 h2 h3; subst h1 h3; rfl
  · simp only at h1 h2 h3; subst h1 h2
    have e0 : pByte (encV (3, (0, (s, ()))) ++ rest, (false, ())) = ((3, ()), (((s.length : Int) :: bytesOf s ++ rest, (false, ())), ())) := rfl
    have e1 : pByte ((s.length : Int) :: bytesOf s ++ rest, (false, ())) = (((s.length : Int), ()), ((bytesOf s ++ rest, (false, ())), ())) := rfl
    have hl : (bytesOf s).length = s.length := by simp [bytesOf]
    have e2 : pStr (bytesOf s ++ rest, (false, ())) (s.length : Int) = ((s, ()), ((rest, (false, ())), ())) := by
      unfold pStr
      rw [if_neg (by simp only [List.length_append, hl]; omega)]
      simp only [Int.toNat_natCast, ← hl, List.take_left, List.drop_left, intsB_bytesOf]
    unfold pVal
    rw [e0, if_neg (by show ¬ (3 : Int) = 1; decide), if_neg (by show ¬ (3 : Int) = 2; decide), if_pos rfl]
    simp only [e1, e2]

theorem pRow_enc : (r : List D_api_Value) → (∀ v ∈ r, vErr v = 0) → (rest : List Int) → (row : List D_api_Value) → pRow r.length (r.flatMap encV ++ rest, (false, ())) row = ((row ++ r, ()), ((rest, (false, ())), ()))
  | [], _, rest, row => by simp [pRow]
  | v :: r, h, rest, row => by
    rw [List.length_cons, pRow, if_neg (by simp), List.flatMap_cons, List.append_assoc, pVal_enc (h v List.mem_cons_self), pRow_enc r (fun u hu => h u (List.mem_cons_of_mem _ hu)), List.append_assoc]
    rfl

theorem row_enc {r : List D_api_Value} (h : ∀ v ∈ r, vErr v = 0) (rest : List Int) : pRow (pByte (encR r ++ rest, (false, ()))).1.1.toNat (pByte (encR r ++ rest, (false, ()))).2.1 [] = ((r, ()), ((rest, (false, ())), ())) := by
  have e : pByte (encR r ++ rest, (false, ())) = (((r.length : Int), ()), ((r.flatMap encV ++ rest, (false, ())), ())) := rfl
  rw [e]
  simp only [Int.toNat_natCast, pRow_enc r h, List.nil_append]

/-- What decoding a row means. -/
def RowOut (xs : List Int) (o : List D_api_Value × (Int × Unit)) : Prop := (∃ r, rowErr r = 0 ∧ encR r = xs ∧ o = (r, (0, ()))) ∨ ((¬ ∃ r, rowErr r = 0 ∧ encR r = xs) ∧ o = ([], (3, ())))
theorem encR_inj {r s : List D_api_Value} (hr : rowErr r = 0) (hs : rowErr s = 0) (h : encR r = encR s) : r = s := by
  have h1 := row_enc (rowErr_zero hr).2 []
  have h2 := row_enc (rowErr_zero hs).2 []
  rw [h, h2] at h1
  exact (congrArg (fun x => x.1.1) h1).symm
theorem RowOut.det {xs : List Int} {o o' : List D_api_Value × (Int × Unit)} (h : RowOut xs o) (h' : RowOut xs o') : o = o' := by
  rcases h with ⟨r, h1, h2, h3⟩ | ⟨h1, h2⟩ <;> rcases h' with ⟨r', h1', h2', h3'⟩ | ⟨h1', h2'⟩
  · rw [h3, h3', encR_inj h1 h1' (h2.trans h2'.symm)]
  · exact absurd ⟨r, h1, h2⟩ h1'
  · exact absurd ⟨r', h1', h2'⟩ h1
  · rw [h2, h2']

theorem canonical_eq (N : Nat) (d : D_encoding_decoder) (a b : List Int) (e : Int) : ∃ z, F_decoder_canonical N (d, (a, (b, (e, ())))) = some (((!d.2.1 && decide (d.1 = []) && decide (e = 0) && decide (intsB a = intsB b)), ()), z) := by
  refine ⟨(d, ()), ?_⟩
  have el : eqI (lenI d.1) 0 = decide (d.1 = []) := by
    rw [eqI_dec, lenI_def]
    by_cases h : d.1 = []
    · simp [h]
    · have := List.length_pos_iff.2 h
      simp [h]
  simp only [F_decoder_canonical, F_bytes_Equal, oSome_some, oGet_some, Bool.or_true, cond_true, eqI_dec (x := e), el, eqS_dec]

/-! ## The reference's decoder -/
abbrev RInt : Type := (Int × D_encoding_decoder) × Unit
def rInt (x : List Int) : Nat → Int → Int → Nat → Int × D_encoding_decoder
  | 0, _, _, _ => (0, ([], (false, ())))
  | k + 1, n, w, i => if x.length ≤ i then (0, ([], (false, ()))) else
    if lget x (i : Int) 0 < 128 then
      (if irem (iadd .i64 n (imul .i64 (irem (iwrap .i64 (lget x (i : Int) 0)) 128) w)) 2 = 1 then (iquo .i64 (ineg .i64 (iadd .i64 (iadd .i64 n (imul .i64 (irem (iwrap .i64 (lget x (i : Int) 0)) 128) w)) 1)) 2, (x.drop (i + 1), (true, ())))
       else (iquo .i64 (iadd .i64 n (imul .i64 (irem (iwrap .i64 (lget x (i : Int) 0)) 128) w)) 2, (x.drop (i + 1), (true, ()))))
    else rInt x k (iadd .i64 n (imul .i64 (irem (iwrap .i64 (lget x (i : Int) 0)) 128) w)) (imul .i64 w 128) (i + 1)

theorem decodeInt_eq (N : Nat) (x : List Int) (hN : 20 < N) : F_stemref4_decodeInt N (x, ()) = some (rInt x 8 0 1 0, ()) := by
  simp only [F_stemref4_decodeInt, letJ_def]
  refine iterF_post (S := Int × (Int × (Int × Unit))) (R := (Int × D_encoding_decoder) × Unit) (fun p => 8 - p.2.2.1.toNat) (fun p => ∃ i : Nat, p.2.2.1 = (i : Int) ∧ i ≤ 8) (fun p => (rInt x (8 - p.2.2.1.toNat) p.1 p.2.1 p.2.2.1.toNat, ())) ?_ N _ ⟨0, rfl, Nat.zero_le _⟩ (by simp; omega)
  rintro ih ⟨n, w, _, _⟩ ⟨i, rfl, h2⟩ hih
  simp only [Int.toNat_natCast] at hih ⊢
  by_cases hi : i < 8
  · obtain ⟨k, hk⟩ : ∃ k, 8 - i = k + 1 := ⟨7 - i, by omega⟩
    rw [cond_pos (by rw [ltI_def]; simp; omega), hk, rInt]
    by_cases hl : x.length ≤ i
    · rw [cond_pos (by rw [leI_def, lenI_def]; simpa using hl), if_pos hl]
    · have hl' : i < x.length := by omega
      rw [cond_neg (by rw [leI_def, lenI_def]; simpa using hl'), if_neg hl]
      have en : ∀ z : Int, z ≠ 0 → neI z 0 = true := fun z hz => by rw [neI_dec]; simp [hz]
      simp only [inB_len hl', en 128 (by decide), en 2 (by decide), Bool.and_self, cond_true, Bool.true_and, iadd_nat (show i < 4611686018427387904 by omega), inS_from (show i + 1 ≤ x.length by omega), slice_from]
      by_cases hb : lget x (i : Int) 0 < 128
      · rw [cond_pos (by rw [ltI_def]; simpa using hb), if_pos hb]
        by_cases ho : irem (iadd .i64 n (imul .i64 (irem (iwrap .i64 (lget x (i : Int) 0)) 128) w)) 2 = 1
        · rw [cond_pos (by rw [eqI_dec]; simpa using ho), if_pos ho]
        · rw [cond_neg (by rw [eqI_dec]; simpa using ho), if_neg ho]
      · rw [cond_neg (by rw [ltI_def]; simpa using hb), if_neg hb, hih _ ⟨i + 1, rfl, by omega⟩ (by simp only [Int.toNat_natCast]; omega)]
        simp only [Int.toNat_natCast, show 8 - (i + 1) = k by omega]
  · rw [cond_neg (by rw [ltI_def]; simp; omega), show 8 - i = 0 by omega]
    rfl

theorem rInt_byt (x : List Int) (hx : Byt x) : (k : Nat) → (n w : Int) → (i : Nat) → Byt (rInt x k n w i).2.1
  | 0, _, _, _ => Byt.nil
  | k + 1, n, w, i => by
    unfold rInt
    split
    · exact Byt.nil
    · split
      · split <;> exact hx.drop _
      · exact rInt_byt x hx k _ _ _

theorem zig_back {v : Int} (h1 : -1000000000000 ≤ v) (h2 : v ≤ 1000000000000) : (irem (zig v : Int) 2 = 1 → iquo .i64 (ineg .i64 (iadd .i64 (zig v : Int) 1)) 2 = v) ∧ (irem (zig v : Int) 2 ≠ 1 → iquo .i64 (zig v : Int) 2 = v) := by
  have hz : ((zig v : Nat) : Int) = if v < 0 then -2 * v - 1 else 2 * v := by unfold zig; split <;> omega
  have hm : irem (zig v : Int) 2 = (zig v : Int) % 2 := by rw [irem_def, Int.tmod_eq_emod_of_nonneg (by omega)]
  rw [hm]
  constructor
  · intro h
    have : v < 0 := by
      apply Classical.byContradiction
      intro hn
      rw [if_neg hn] at hz
      omega
    rw [if_pos this] at hz
    rw [hz, iadd_def, ineg_def, iquo_def, wrap64 (z := -2 * v - 1 + 1) (by omega) (by omega), wrap64 (z := 0 - (-2 * v - 1 + 1)) (by omega) (by omega), show 0 - (-2 * v - 1 + 1) = 2 * v by omega]
    have e : (2 * v).tdiv 2 = v := Int.mul_tdiv_cancel_left v (by decide)
    rw [e, wrap64 (by omega) (by omega)]
  · intro h
    have : ¬ v < 0 := by
      intro hn
      rw [if_pos hn] at hz
      omega
    rw [if_neg this] at hz
    have e : (2 * v).tdiv 2 = v := Int.mul_tdiv_cancel_left v (by decide)
    rw [hz, iquo_def, e, wrap64 (by omega) (by omega)]

theorem rInt_last {x : List Int} {k m n i : Nat} {v : Int} {rest : List Int} (hx : x.drop i = uvar m ++ rest) (hm : m < 128) (hi : i ≤ 8) (h1 : -1000000000000 ≤ v) (h2 : v ≤ 1000000000000) (hv : n + m * 128 ^ i = zig v) : rInt x (k + 1) (n : Int) ((128 ^ i : Nat) : Int) i = (v, (rest, (true, ()))) := by
  rw [uvar_small hm] at hx
  have hz : zig v < 4000000000000 := by unfold zig; split <;> omega
  have hl : ¬ x.length ≤ i := by
    intro h
    rw [List.drop_eq_nil_of_le h] at hx
    cases hx
  have hg : lget x (i : Int) 0 = (m : Int) := by
    refine lget_nat ?_
    have := congrArg (fun l : List Int => l[0]?) hx
    simpa using this
  have hr : x.drop (i + 1) = rest := by
    have := congrArg (fun l : List Int => l.drop 1) hx
    simpa [List.drop_drop, Nat.add_comm] using this
  have e : iadd .i64 (n : Int) (imul .i64 (irem (iwrap .i64 (m : Int)) 128) ((128 ^ i : Nat) : Int)) = (zig v : Int) := by
    have em : irem (m : Int) 128 = (m : Int) := by rw [irem_def, Int.tmod_eq_emod_of_nonneg (by omega)]; omega
    have ec : (m : Int) * ((128 ^ i : Nat) : Int) = ((m * 128 ^ i : Nat) : Int) := (Int.natCast_mul _ _).symm
    rw [wrapi64_id (by omega) (by omega), em, imul_def, ec, iadd_def, wrap64 (z := ((m * 128 ^ i : Nat) : Int)) (by omega) (by omega), wrap64 (by omega) (by omega)]
    omega
  rw [rInt, if_neg hl, hg, if_pos (by omega), e, hr]
  by_cases ho : irem (zig v : Int) 2 = 1
  · rw [if_pos ho, (zig_back h1 h2).1 ho]
  · rw [if_neg ho, (zig_back h1 h2).2 ho]

theorem rInt_enc (x : List Int) (v : Int) (rest : List Int) (h1 : -1000000000000 ≤ v) (h2 : v ≤ 1000000000000) : (k t m n i : Nat) → k ≤ t → m < 128 ^ (k + 1) → k + i ≤ 7 → x.drop i = uvar m ++ rest → n + m * 128 ^ i = zig v → rInt x (t + 1) (n : Int) ((128 ^ i : Nat) : Int) i = (v, (rest, (true, ())))
  | 0, t, m, n, i, _, hm, hi, hx, hv => rInt_last hx (by simpa using hm) (by omega) h1 h2 hv
  | k + 1, 0, m, n, i, ht, hm, hi, hx, hv => by omega
  | k + 1, t + 1, m, n, i, ht, hm, hi, hx, hv => by
    by_cases hs : m < 128
    · exact rInt_last hx hs (by omega) h1 h2 hv
    · rw [uvar_big hs] at hx
      have hz : zig v < 4000000000000 := by unfold zig; split <;> omega
      have hl : ¬ x.length ≤ i := by
        intro h
        rw [List.drop_eq_nil_of_le h] at hx
        cases hx
      have hg : lget x (i : Int) 0 = ((m % 128 + 128 : Nat) : Int) := by
        refine lget_nat ?_
        have := congrArg (fun l : List Int => l[0]?) hx
        simpa using this
      have hr : x.drop (i + 1) = uvar (m / 128) ++ rest := by
        have := congrArg (fun l : List Int => l.drop 1) hx
        simpa [List.drop_drop, Nat.add_comm] using this
      have hp := pow_next i
      have hp2 := pow_next (k + 1)
      have hple : (128 : Nat) ^ i ≤ 128 ^ 7 := Nat.pow_le_pow_right (by decide) (by omega)
      have h3 : m * 128 ^ i = (128 * (m / 128)) * 128 ^ i + (m % 128) * 128 ^ i := by rw [← Nat.add_mul]; congr 1; omega
      have h4 : m / 128 * 128 ^ (i + 1) = (128 * (m / 128)) * 128 ^ i := by rw [hp, ← Nat.mul_assoc, Nat.mul_comm (m / 128) 128]
      have e : iadd .i64 (n : Int) (imul .i64 (irem (iwrap .i64 ((m % 128 + 128 : Nat) : Int)) 128) ((128 ^ i : Nat) : Int)) = ((n + (m % 128) * 128 ^ i : Nat) : Int) := by
        have em : irem ((m % 128 + 128 : Nat) : Int) 128 = ((m % 128 : Nat) : Int) := by rw [irem_def, Int.tmod_eq_emod_of_nonneg (by omega)]; omega
        have ec : ((m % 128 : Nat) : Int) * ((128 ^ i : Nat) : Int) = (((m % 128) * 128 ^ i : Nat) : Int) := (Int.natCast_mul _ _).symm
        rw [wrapi64_id (by omega) (by omega), em, imul_def, ec, iadd_def, wrap64 (z := (((m % 128) * 128 ^ i : Nat) : Int)) (by omega) (by omega), wrap64 (by omega) (by omega)]
        omega
      have ew : imul .i64 ((128 ^ i : Nat) : Int) 128 = ((128 ^ (i + 1) : Nat) : Int) := by
        rw [imul_def, wrap64 (by omega) (by omega)]
        omega
      rw [rInt, if_neg hl, hg, if_neg (by omega), e, ew]
      exact rInt_enc x v rest h1 h2 k t (m / 128) _ (i + 1) (by omega) (by omega) (by omega) hr (by omega)

/-- One value. -/
def rBad : D_api_Value × D_encoding_decoder := ((0, (0, ([], ()))), ([], (false, ())))
def rVal (x : List Int) : D_api_Value × D_encoding_decoder :=
  if x.length = 0 ∨ 3 < lget x 0 0 ∨ (lget x 0 0 ≠ 0 ∧ x.length = 1) then rBad
  else if lget x 0 0 = 1 then ((lget x 0 0, ((rInt (x.drop 1) 8 0 1 0).1, ([], ()))), ((rInt (x.drop 1) 8 0 1 0).2.1, ((rInt (x.drop 1) 8 0 1 0).2.2.1, ())))
  else if lget x 0 0 = 2 then ((lget x 0 0, (lget x 1 0, ([], ()))), (x.drop 2, (true, ())))
  else if lget x 0 0 = 3 then (if (x.length : Int) - 2 < lget x 1 0 then rBad else ((lget x 0 0, (0, (intsB ((x.take (2 + (lget x 1 0).toNat)).drop 2), ()))), (x.drop (2 + (lget x 1 0).toNat), (true, ()))))
  else ((lget x 0 0, (0, ([], ()))), (x.drop 1, (true, ())))

theorem lget_byt {x : List Int} (hx : Byt x) (i : Nat) : 0 ≤ lget x (i : Int) 0 ∧ lget x (i : Int) 0 < 256 := by
  by_cases h : i < x.length
  · rw [lget_nat (List.getElem?_eq_getElem h)]
    exact hx _ (List.getElem_mem h)
  · rw [lget_def]
    simp [List.getD, List.getElem?_eq_none (show x.length ≤ i by omega)]

theorem decodeValue_eq (N : Nat) (x : List Int) (hx : Byt x) (hl : x.length ≤ 1000000) (hN : 20 < N) : F_stemref4_decodeValue N (x, ()) = some (rVal x, ()) := by
  have g0 : 0 ≤ lget x 0 0 ∧ lget x 0 0 < 256 := lget_byt hx 0
  have g1 : 0 ≤ lget x 1 0 ∧ lget x 1 0 < 256 := lget_byt hx 1
  simp only [F_stemref4_decodeValue, letJ_def]
  rw [cond_pos (by
    by_cases h : x.length = 0
    · simp [eqI_dec, lenI_def, h]
    · rw [show inB 0 (lenI x) = true from inB_len (i := 0) (by omega)]; simp)]
  have eL : ∀ n : Nat, eqI (lenI x) (n : Int) = decide (x.length = n) := fun n => by rw [eqI_dec, lenI_def]; exact decide_eq_decide.2 (by omega)
  have e0 : eqI (lenI x) 0 = decide (x.length = 0) := eL 0
  have e1 : eqI (lenI x) 1 = decide (x.length = 1) := eL 1
  have eq : ((eqI (lenI x) 0 || ltI 3 (lget x 0 0)) || (neI (lget x 0 0) 0 && eqI (lenI x) 1)) = decide (x.length = 0 ∨ 3 < lget x 0 0 ∨ (lget x 0 0 ≠ 0 ∧ x.length = 1)) := by
    rw [e0, e1, ltI_def, neI_dec]
    by_cases h1 : x.length = 0 <;> by_cases h2 : 3 < lget x 0 0 <;> by_cases h3 : lget x 0 0 = 0 <;> by_cases h4 : x.length = 1 <;> simp [h1, h2, h3, h4]
  rw [eq, rVal]
  by_cases hc : x.length = 0 ∨ 3 < lget x 0 0 ∨ (lget x 0 0 ≠ 0 ∧ x.length = 1)
  · rw [cond_pos (by simpa using hc), if_pos hc]; rfl
  · rw [cond_neg (by simpa using hc), if_neg hc]
    have hl1 : 1 ≤ x.length := by omega
    have s1 : inS 1 (lenI x) (lenI x) = true := inS_from (i := 1) hl1
    have b0 : inB 0 (lenI x) = true := inB_len (i := 0) (by omega)
    have l1 : lslice x 1 (lenI x) = x.drop 1 := slice_from x 1
    simp only [b0, cond_true, wrapi64_id g0.1 g0.2, s1, l1, decodeInt_eq N _ hN, oSome_some, oGet_some, Bool.and_self, wrapi64_id g1.1 g1.2]
    by_cases k1 : lget x 0 0 = 1
    · rw [cond_pos (by simp [eqI_dec, k1]), if_pos k1]
    · rw [cond_neg (by simp [eqI_dec, k1]), if_neg k1]
      by_cases k2 : lget x 0 0 = 2
      · have hl2 : 2 ≤ x.length := by omega
        rw [cond_pos (by simp [eqI_dec, k2]), if_pos k2, show inB 1 (lenI x) = true from inB_len (i := 1) (by omega), show inS 2 (lenI x) (lenI x) = true from inS_from (i := 2) hl2, show lslice x 2 (lenI x) = x.drop 2 from slice_from x 2]
        rfl
      · rw [cond_neg (by simp [eqI_dec, k2]), if_neg k2]
        by_cases k3 : lget x 0 0 = 3
        · have hl2 : 2 ≤ x.length := by omega
          have es : isub .i64 (lenI x) 2 = (x.length : Int) - 2 := by rw [isub_def, lenI_def, wrap64 (by omega) (by omega)]
          rw [cond_pos (by simp [eqI_dec, k3]), if_pos k3, show inB 1 (lenI x) = true from inB_len (i := 1) (by omega), cond_true, es]
          by_cases k4 : (x.length : Int) - 2 < lget x 1 0
          · rw [cond_pos (by rw [ltI_def]; simpa using k4), if_pos k4]; rfl
          · obtain ⟨m, hm⟩ := Int.eq_ofNat_of_zero_le g1.1
            have em : (lget x 1 0).toNat = m := by omega
            have ea : iadd .i64 2 (lget x 1 0) = ((2 + m : Nat) : Int) := by rw [hm, iadd_def, wrap64 (by omega) (by omega)]; omega
            rw [cond_neg (by rw [ltI_def]; simpa using k4), if_neg k4, ea, em, cond_pos (by rw [inS_def, lenI_def]; simp; omega), cond_pos (inS_from (by omega)), slice_from, lslice_def]
            simp only [Int.toNat_natCast]
            rfl
        · rw [cond_neg (by simp [eqI_dec, k3]), if_neg k3]

theorem rInt_len (x : List Int) : (k : Nat) → (n w : Int) → (i : Nat) → (rInt x k n w i).2.1.length ≤ x.length
  | 0, _, _, _ => Nat.zero_le _
  | k + 1, n, w, i => by
    unfold rInt
    split
    · exact Nat.zero_le _
    · split
      · split <;> (simp only [List.length_drop]; omega)
      · exact rInt_len x k _ _ _
theorem rVal_byt {x : List Int} (hx : Byt x) : Byt (rVal x).2.1 ∧ (rVal x).2.1.length ≤ x.length := by
  unfold rVal
  split
  · exact ⟨Byt.nil, Nat.zero_le _⟩
  · split
    · exact ⟨rInt_byt _ (hx.drop 1) _ _ _ _, Nat.le_trans (rInt_len _ _ _ _ _) (by rw [List.length_drop]; omega)⟩
    · split
      · exact ⟨hx.drop _, by simp only [List.length_drop]; omega⟩
      · split
        · split
          · exact ⟨Byt.nil, Nat.zero_le _⟩
          · exact ⟨hx.drop _, by simp only [List.length_drop]; omega⟩
        · exact ⟨hx.drop _, by simp only [List.length_drop]; omega⟩

theorem rVal_enc {v : D_api_Value} (h : vErr v = 0) (rest : List Int) : rVal (encV v ++ rest) = (v, (rest, (true, ()))) := by
  obtain ⟨k, n, s, _⟩ := v
  rcases vErr_zero h with ⟨h1, h2, h3⟩ | ⟨h1, h2, h3, h4⟩ | ⟨h1, h2, h3⟩ | ⟨h1, h2, h3⟩
  · simp only at h1 h2 h3; subst h1 h2 h3
    have e : encV (0, (0, ([], ()))) ++ rest = 0 :: rest := rfl
    have g : lget (0 :: rest) 0 0 = 0 := lget_nat (i := 0) rfl
    rw [e, rVal, g]
    simp
  · simp only at h1 h2 h3 h4; subst h1 h4
    have hz : zig n < 128 ^ (6 + 1) := by unfold zig; split <;> omega
    have e : encV (1, (n, ([], ()))) ++ rest = 1 :: (uvar (zig n) ++ rest) := rfl
    have g : lget (1 :: (uvar (zig n) ++ rest)) 0 0 = 1 := lget_nat (i := 0) rfl
    have hp : 1 ≤ (uvar (zig n)).length := by rw [uvar]; split <;> simp
    have e1 := rInt_enc (uvar (zig n) ++ rest) n rest h2 h3 6 7 (zig n) 0 0 (by omega) hz (by omega) rfl (by simp)
    have e2 : rInt (uvar (zig n) ++ rest) 8 0 1 0 = (n, (rest, (true, ()))) := e1
    rw [e, rVal, g, if_neg (by simp only [List.length_cons, List.length_append]; omega), if_pos rfl]
    simp only [List.drop_succ_cons, List.drop_zero, e2]
  · simp only at h1 h2 h3; subst h1 h3
    have e : encV (2, (n, ([], ()))) ++ rest = 2 :: n :: rest := rfl
    have g : lget (2 :: n :: rest) 0 0 = 2 := lget_nat (i := 0) rfl
    have g1 : lget (2 :: n :: rest) 1 0 = n := lget_nat (i := 1) rfl
    rw [e, rVal, g, g1]
    simp
  · simp only at h1 h2 h3; subst h1 h2
    have e : encV (3, (0, (s, ()))) ++ rest = 3 :: (s.length : Int) :: (bytesOf s ++ rest) := rfl
    have g : lget (3 :: (s.length : Int) :: (bytesOf s ++ rest)) 0 0 = 3 := lget_nat (i := 0) rfl
    have g1 : lget (3 :: (s.length : Int) :: (bytesOf s ++ rest)) 1 0 = (s.length : Int) := lget_nat (i := 1) rfl
    have hl : (bytesOf s).length = s.length := by simp [bytesOf]
    have e2 : 2 + (bytesOf s).length = ((bytesOf s).length + 1) + 1 := by omega
    rw [e, rVal, g, g1, if_neg (by simp only [List.length_cons, List.length_append, hl]; omega), if_neg (by decide), if_neg (by decide), if_pos rfl, if_neg (by simp only [List.length_cons, List.length_append, hl]; omega)]
    rw [← hl]
    simp only [Int.toNat_natCast, e2, List.take_succ_cons, List.drop_succ_cons, List.drop_zero, List.take_left, List.drop_left, intsB_bytesOf]

def rRow : Nat → List Int → List D_api_Value → List D_api_Value × D_encoding_decoder
  | 0, d, row => (row, (d, (true, ())))
  | c + 1, d, row => if (rVal d).2.2.1 = true then rRow c (rVal d).2.1 (row ++ [(rVal d).1]) else ([], ([], (false, ())))
def rRow0 (x : List Int) : List D_api_Value × D_encoding_decoder := if x.length = 0 ∨ 12 < lget x 0 0 then ([], ([], (false, ()))) else rRow (lget x 0 0).toNat (x.drop 1) []

theorem rDecodeRow_eq (N : Nat) (x : List Int) (hx : Byt x) (hl : x.length ≤ 1000000) (hN : 20 < N) : F_stemref4_decodeRow N (x, ()) = some (rRow0 x, ()) := by
  have g0 : 0 ≤ lget x 0 0 ∧ lget x 0 0 < 256 := lget_byt hx 0
  have e0 : eqI (lenI x) 0 = decide (x.length = 0) := by rw [eqI_dec, lenI_def]; exact decide_eq_decide.2 (by omega)
  simp only [F_stemref4_decodeRow, letJ_def, e0, ltI_def]
  rw [cond_pos (by
    by_cases h : x.length = 0
    · simp [h]
    · rw [show inB 0 (lenI x) = true from inB_len (i := 0) (by omega)]; simp), rRow0]
  by_cases hc : x.length = 0 ∨ 12 < lget x 0 0
  · rw [cond_pos (by simpa using hc), if_pos hc]
  · have s1 : inS 1 (lenI x) (lenI x) = true := inS_from (i := 1) (by omega)
    have b0 : inB 0 (lenI x) = true := inB_len (i := 0) (by omega)
    have l1 : lslice x 1 (lenI x) = x.drop 1 := slice_from x 1
    rw [cond_neg (by simpa using hc), if_neg hc, b0, s1, l1, wrapi64_id g0.1 g0.2]
    simp only [cond_true]
    obtain ⟨m, hm⟩ := Int.eq_ofNat_of_zero_le g0.1
    rw [hm, Int.toNat_natCast]
    refine iterF_post (S := (List D_api_Value) × ((List Int) × (Int × Unit))) (R := ((List D_api_Value) × D_encoding_decoder) × Unit) (fun p => m - p.2.2.1.toNat) (fun p => Byt p.2.1 ∧ p.2.1.length ≤ 1000000 ∧ ∃ i : Nat, p.2.2.1 = (i : Int) ∧ i ≤ m ∧ p.1.length = i) (fun p => (rRow (m - p.2.2.1.toNat) p.2.1 p.1, ())) ?_ N _ ⟨hx.drop 1, by simp only [List.length_drop]; omega, 0, rfl, Nat.zero_le _, rfl⟩ (by simp; omega)
    rintro ih ⟨row, d, _, _⟩ ⟨hb, hdl, i, rfl, h2, h3⟩ hih
    simp only [Int.toNat_natCast] at hih hb hdl h3 ⊢
    by_cases hi : i < m
    · obtain ⟨k, hk⟩ : ∃ k, m - i = k + 1 := ⟨m - i - 1, by omega⟩
      have hvb := rVal_byt hb
      simp only [decodeValue_eq N d hb hdl hN, oSome_some, oGet_some, cond_true]
      rw [cond_pos (by simp; omega), hk, rRow]
      by_cases ho : (rVal d).2.2.1 = true
      · rw [ho, if_pos rfl, cond_neg (by rfl), cond_pos (room_row row _ (by omega)), iadd_nat (by omega), lapp_def, hih _ ⟨hvb.1, Nat.le_trans hvb.2 hdl, i + 1, rfl, by omega, by simp only [List.length_append, List.length_cons, List.length_nil]; omega⟩ (by simp only [Int.toNat_natCast]; omega)]
        simp only [Int.toNat_natCast, show m - (i + 1) = k by omega]
      · rw [if_neg ho, cond_pos (by simpa using ho)]
    · rw [cond_neg (by simp; omega), show m - i = 0 by omega]
      rfl

theorem rRow_enc : (r : List D_api_Value) → (∀ v ∈ r, vErr v = 0) → (rest : List Int) → (row : List D_api_Value) → rRow r.length (r.flatMap encV ++ rest) row = (row ++ r, (rest, (true, ())))
  | [], _, rest, row => by simp [rRow]
  | v :: r, h, rest, row => by
    rw [List.length_cons, rRow, List.flatMap_cons, List.append_assoc, rVal_enc (h v List.mem_cons_self), if_pos rfl, rRow_enc r (fun u hu => h u (List.mem_cons_of_mem _ hu)), List.append_assoc]
    rfl
theorem rRow0_enc {r : List D_api_Value} (h : rowErr r = 0) (rest : List Int) : rRow0 (encR r ++ rest) = (r, (rest, (true, ()))) := by
  obtain ⟨h1, h2⟩ := rowErr_zero h
  have g : lget (encR r ++ rest) 0 0 = (r.length : Int) := lget_nat (i := 0) rfl
  rw [rRow0, g, if_neg (by simp only [encR, List.length_append, List.length_cons]; omega), Int.toNat_natCast]
  show rRow r.length (r.flatMap encV ++ rest) [] = _
  rw [rRow_enc r h2, List.nil_append]

/-! ## The law -/
theorem works_eq (N : Nat) (hN : 20 < N) : F_stemlaw4_encodingWorks N () = some ((true, ()), ()) := by
  have e : rowErr [(1, (1, ([], ())))] = 0 := by simp [rowErr, firstErr, vErr]
  have e2 : encR [(1, (1, ([], ())))] = [1, 1, 2] := by
    simp only [encR, encV, List.flatMap_cons, List.flatMap_nil, if_true, List.append_nil]
    rw [show zig 1 = 2 from rfl, uvar_small (by omega)]
    rfl
  simp only [F_stemlaw4_encodingWorks, letJ_def, encodeRow_eq N _ hN, oSome_some, oGet_some, cond_true, if_pos e, e2]
  rw [eqS_dec, intsB_def, eqI_dec]
  rfl

theorem byt_of_good {xs : List Int} (h : (Ty.slice (.int .u8)).good xs) : Byt xs := fun b hb => by
  have := h.2 b hb
  simp [Ty.good, IntKind.has, IntKind.min, IntKind.max, IntKind.signed, IntKind.bits] at this
  omega
end
end Go.Proofs.YtigjpdkeijcabaaDoor
