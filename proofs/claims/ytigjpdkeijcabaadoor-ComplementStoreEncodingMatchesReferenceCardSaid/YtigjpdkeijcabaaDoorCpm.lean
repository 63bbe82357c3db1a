/- Complements: the decoders, the law. -/
import Derived.Test.YtigjpdkeijcabaaDoorCpl
set_option linter.unusedVariables false
set_option linter.unusedSimpArgs false
set_option linter.unnecessarySimpa false
set_option linter.unusedSectionVars false
set_option linter.unusedSimpArgs false
set_option maxRecDepth 100000
namespace Go.Proofs.YtigjpdkeijcabaaDoor
open Go.Vi
noncomputable section

/-! ## What decoding comes to -/
open Classical in
def decI (xs : List Int) : Option Ins' := if h : ∃ s, instErr s = 0 ∧ encI s = xs then some (Classical.choose h) else none
theorem decI_some {xs : List Int} {s : Ins'} (h : decI xs = some s) : instErr s = 0 ∧ encI s = xs := by
  unfold decI at h
  split at h
  · rename_i hx
    injection h with h
    subst h
    exact Classical.choose_spec hx
  · cases h
theorem decI_enc {s : Ins'} (h : instErr s = 0) : decI (encI s) = some s := by
  unfold decI
  have hx : ∃ t, instErr t = 0 ∧ encI t = encI s := ⟨s, h, rfl⟩
  rw [dif_pos hx]
  obtain ⟨h1, h2⟩ := Classical.choose_spec hx
  rw [encI_inj h1 h h2]
theorem decI_out {xs : List Int} {o : Ins' × (Int × Unit)} (h : if 65536 < xs.length then o = ([], (2, ())) else InstOut xs o) : decI xs = if o.2.1 = 0 then some o.1 else none := by
  split at h
  · rename_i hl
    subst h
    unfold decI
    rw [dif_neg]
    · rfl
    · rintro ⟨s, h1, h2⟩
      have := encI_len h1
      rw [h2] at this
      omega
  · rcases h with ⟨s, h1, h2, h3⟩ | ⟨h1, h2⟩
    · subst h2 h3
      rw [decI_enc h1]; rfl
    · subst h2
      unfold decI
      rw [dif_neg h1]; rfl

def dLen (x : List Int) : Nat := ((lget x 0 0).toNat * 256 + (lget x 1 0).toNat) * 256 + (lget x 2 0).toNat
def dX (x : List Int) : Option (Ins' × List Int) := if x.length < 3 ∨ x.length - 3 < dLen x then none else match decI ((x.drop 3).take (dLen x)) with
  | some s => some (s, x.drop (3 + dLen x))
  | none => none
def dEdge : Nat → List Int → Edg' → Option (Edg' × List Int)
  | 0, x, acc => some (acc, x)
  | k + 1, x, acc => match dX x with
    | some (s, y) => dEdge k y (acc ++ [s])
    | none => none
def dCs : Nat → List Int → List Edg' → Option (List Edg' × List Int)
  | 0, x, acc => some (acc, x)
  | k + 1, x, acc => if x.length = 0 ∨ 6 < lget x 0 0 then none else match dEdge (lget x 0 0).toNat (x.drop 1) [] with
    | some (e, y) => dCs k y (acc ++ [e])
    | none => none
def dEnd (q : Option (List Edg' × List Int)) : Option (List Edg') := match q with
  | some (c, y) => if y.length = 0 then some c else none
  | none => none
def dAll (x : List Int) : Option (List Edg') := if x.length = 0 ∨ 8 < lget x 0 0 then none else dEnd (dCs (lget x 0 0).toNat (x.drop 1) [])

/-! ## What was decoded is what was encoded -/
theorem byte_cons {x : List Int} (hx : Byt x) (h : x.length ≠ 0) : x = ((lget x 0 0).toNat : Int) :: x.drop 1 := by
  have g := lget_byt hx 0
  cases x with
  | nil => exact absurd rfl h
  | cons b r =>
    have e : lget (b :: r) 0 0 = b := lget_nat (i := 0) rfl
    simp only [Int.natCast_zero, e] at g
    rw [e, List.drop_succ_cons, List.drop_zero]
    congr 1
    omega
theorem dX_some {x : List Int} (hx : Byt x) {s : Ins'} {y : List Int} (h : dX x = some (s, y)) : instErr s = 0 ∧ x = encX s ++ y ∧ Byt y ∧ y.length < x.length := by
  unfold dX at h
  split at h
  · cases h
  rename_i hc
  split at h
  · rename_i s' hd
    injection h with h
    injection h with h1 h2
    subst h1 h2
    obtain ⟨k1, k2⟩ := decI_some hd
    have h3 : 3 ≤ x.length := by omega
    have hl : (encI s').length = dLen x := by rw [k2, List.length_take, List.length_drop]; omega
    refine ⟨k1, ?_, hx.drop _, by rw [List.length_drop]; omega⟩
    have e : x = (lget x 0 0) :: (lget x 1 0) :: (lget x 2 0) :: x.drop 3 := by
      match x, h3 with
      | a :: b :: c :: r, _ => rw [show lget (a :: b :: c :: r) 0 0 = a from lget_nat (i := 0) rfl, show lget (a :: b :: c :: r) 1 0 = b from lget_nat (i := 1) rfl, show lget (a :: b :: c :: r) 2 0 = c from lget_nat (i := 2) rfl]; rfl
    have g0 : 0 ≤ lget x 0 0 ∧ lget x 0 0 < 256 := lget_byt hx 0
    have g1 : 0 ≤ lget x 1 0 ∧ lget x 1 0 < 256 := lget_byt hx 1
    have g2 : 0 ≤ lget x 2 0 ∧ lget x 2 0 < 256 := lget_byt hx 2
    have e3 : len3 (encI s').length = [lget x 0 0, lget x 1 0, lget x 2 0] := by
      rw [hl, len3, dLen]
      refine congr (congrArg List.cons ?_) (congr (congrArg List.cons ?_) (congrArg (fun z => [z]) ?_)) <;> omega
    rw [encX, e3, k2]
    conv => lhs; rw [e]
    simp only [List.cons_append, List.nil_append]
    rw [show x.drop (3 + dLen x) = (x.drop 3).drop (dLen x) from by rw [List.drop_drop], List.take_append_drop]
  · cases h
theorem dEdge_some : (k : Nat) → {x : List Int} → {acc : Edg'} → {e : Edg'} → {y : List Int} → Byt x → dEdge k x acc = some (e, y) → ∃ r, e = acc ++ r ∧ r.length = k ∧ instsErr r = 0 ∧ x = r.flatMap encX ++ y ∧ Byt y ∧ y.length ≤ x.length
  | 0, x, acc, e, y, hx, h => by
    simp only [dEdge, Option.some.injEq, Prod.mk.injEq] at h
    obtain ⟨rfl, rfl⟩ := h
    exact ⟨[], by simp, rfl, rfl, by simp, hx, Nat.le_refl _⟩
  | k + 1, x, acc, e, y, hx, h => by
    unfold dEdge at h
    split at h
    · rename_i s z hz
      obtain ⟨h1, h2, h3, h4⟩ := dX_some hx hz
      obtain ⟨r, e1, e2, e3, e4, e5, e6⟩ := dEdge_some k h3 h
      refine ⟨s :: r, by rw [e1, List.append_assoc]; rfl, by simp [e2], by simp [instsErr, h1, e3], ?_, e5, by omega⟩
      rw [h2, e4, List.flatMap_cons, List.append_assoc]
    · cases h
theorem dCs_some : (k : Nat) → {x : List Int} → {acc : List Edg'} → {c : List Edg'} → {y : List Int} → Byt x → dCs k x acc = some (c, y) → ∃ r, c = acc ++ r ∧ r.length = k ∧ cpErr r = 0 ∧ x = r.flatMap encE ++ y
  | 0, x, acc, c, y, hx, h => by
    simp only [dCs, Option.some.injEq, Prod.mk.injEq] at h
    obtain ⟨rfl, rfl⟩ := h
    exact ⟨[], by simp, rfl, rfl, by simp⟩
  | k + 1, x, acc, c, y, hx, h => by
    unfold dCs at h
    split at h
    · cases h
    rename_i hc
    split at h
    · rename_i e z hz
      obtain ⟨r, e1, e2, e3, e4, e5, _⟩ := dEdge_some _ (hx.drop 1) hz
      obtain ⟨q, k1, k2, k3, k4⟩ := dCs_some k e5 h
      have hne : x.length ≠ 0 := fun h => hc (.inl h)
      have he : e = r := by rw [e1, List.nil_append]
      subst he
      have hlen : ¬ 6 < e.length := by have := lget_byt hx 0; simp only [Int.natCast_zero] at this; omega
      refine ⟨e :: q, by rw [k1, List.append_assoc]; rfl, by simp [k2], by simp [cpErr, hlen, e3, k3], ?_⟩
      rw [byte_cons hx hne, e4, k4, List.flatMap_cons, encE, e2]
      simp
    · cases h
theorem dAll_some {x : List Int} (hx : Byt x) {c : List Edg'} (h : dAll x = some c) : cErr c = 0 ∧ encM c = x := by
  unfold dAll at h
  split at h
  · cases h
  rename_i hc
  unfold dEnd at h
  split at h
  · rename_i c' y hz
    split at h
    · rename_i hy
      injection h with h
      subst h
      obtain ⟨r, e1, e2, e3, e4⟩ := dCs_some _ (hx.drop 1) hz
      have he : c' = r := by rw [e1, List.nil_append]
      subst he
      have hlen : ¬ 8 < c'.length := by have := lget_byt hx 0; simp only [Int.natCast_zero] at this; omega
      have hy' : y = [] := List.eq_nil_of_length_eq_zero hy
      subst hy'
      refine ⟨by simp [cErr, hlen, e3], ?_⟩
      rw [byte_cons hx (fun h => hc (.inl h)), e4, encM, e2]
      simp
    · cases h
  · cases h

/-! ## The program's decoder -/
theorem eqLen0 {α : Type} (xs : List α) : eqI (lenI xs) 0 = decide (xs.length = 0) := by rw [eqI_dec, lenI_def]; exact decide_eq_decide.2 (by omega)
theorem iadd8 {i : Nat} (h : i < 255) : iadd .u8 (i : Int) 1 = ((i + 1 : Nat) : Int) := by rw [iadd_def, wrap_u8]; omega

theorem bytes3 {a b c : Nat} (ha : a < 256) (hb : b < 256) (hc : c < 256) : bor .i64 (bor .i64 (shlI .i64 (a : Int) 16) (shlI .i64 (b : Int) 8)) (c : Int) = (((a * 256 + b) * 256 + c : Nat) : Int) := by
  rw [show (16 : Int) = ((16 : Nat) : Int) from rfl, show (8 : Int) = ((8 : Nat) : Int) from rfl, shl64 (by omega) (by omega), shl64 (by omega) (by omega), bor64 (by omega) (by omega)]
  have e1 : a * 2 ^ 16 ||| b * 2 ^ 8 = a * 2 ^ 16 + b * 2 ^ 8 := by
    rw [Nat.or_comm, or_add (i := 16) (by omega), Nat.add_comm]
  rw [e1, bor64 (by omega) (by omega)]
  have e2 : (a * 2 ^ 16 + b * 2 ^ 8) ||| c = (a * 2 ^ 16 + b * 2 ^ 8) + c := by
    rw [Nat.or_comm, show a * 2 ^ 16 + b * 2 ^ 8 = (a * 2 ^ 8 + b) * 2 ^ 8 by omega, or_add (i := 8) (by omega), Nat.add_comm]
  rw [e2]
  omega

theorem cdec_eq (N : Nat) (x : List Int) (hx : Byt x) (hl : x.length ≤ 9223372036854775807) (hN : 1000 < N) : ∃ o, F_complementstore_decodeInstance N (x, ()) = some (o, ()) ∧ (match dX x with
    | some (s, y) => o = (s, (y, (true, ())))
    | none => o.2.2.1 = false) := by
  have g0 : 0 ≤ lget x 0 0 ∧ lget x 0 0 < 256 := lget_byt hx 0
  have g1 : 0 ≤ lget x 1 0 ∧ lget x 1 0 < 256 := lget_byt hx 1
  have g2 : 0 ≤ lget x 2 0 ∧ lget x 2 0 < 256 := lget_byt hx 2
  simp only [F_complementstore_decodeInstance, letJ_def]
  by_cases h3 : x.length < 3
  · refine ⟨_, by rw [cond_pos (by rw [ltI_def, lenI_def]; simp; omega)], ?_⟩
    rw [dX, if_pos (.inl h3)]
  · rw [cond_neg (by rw [ltI_def, lenI_def]; simp; omega), cond_pos (by
      rw [show inB 0 (lenI x) = true from inB_len (i := 0) (by omega), show inB 1 (lenI x) = true from inB_len (i := 1) (by omega), show inB 2 (lenI x) = true from inB_len (i := 2) (by omega), leI_def, leI_def]; rfl)]
    have en : bor .i64 (bor .i64 (shlI .i64 (iwrap .i64 (lget x 0 0)) 16) (shlI .i64 (iwrap .i64 (lget x 1 0)) 8)) (iwrap .i64 (lget x 2 0)) = (dLen x : Int) := by
      rw [wrapi64_id g0.1 g0.2, wrapi64_id g1.1 g1.2, wrapi64_id g2.1 g2.2]
      have := bytes3 (a := (lget x 0 0).toNat) (b := (lget x 1 0).toNat) (c := (lget x 2 0).toNat) (by omega) (by omega) (by omega)
      rw [Int.toNat_of_nonneg g0.1, Int.toNat_of_nonneg g1.1, Int.toNat_of_nonneg g2.1] at this
      exact this
    have hd : dLen x < 16777216 := by unfold dLen; omega
    have es : isub .i64 (lenI x) 3 = (x.length : Int) - 3 := by rw [lenI_def, isub64 (by omega) (by omega)]
    rw [en, es]
    by_cases h4 : x.length - 3 < dLen x
    · refine ⟨_, by rw [cond_pos (by rw [ltI_def]; simp; omega)], ?_⟩
      rw [dX, if_pos (.inr h4)]
    · have ea : iadd .i64 3 (dLen x : Int) = ((3 + dLen x : Nat) : Int) := by rw [iadd64 (by omega) (by omega)]; omega
      have e2 : lslice x 3 ((3 + dLen x : Nat) : Int) = (x.drop 3).take (dLen x) := by
        rw [show (3 : Int) = ((3 : Nat) : Int) from rfl, slice_at, List.drop_take, show 3 + dLen x - 3 = dLen x by omega]
      have hmb : Byt ((x.drop 3).take (dLen x)) := fun b hb => hx b (List.mem_of_mem_drop (List.mem_of_mem_take hb))
      obtain ⟨o, ho1, ho2⟩ := decodeInstance_eq N _ hmb hN
      have hdo := decI_out ho2
      rw [cond_neg (by rw [ltI_def]; simp; omega), ea, e2]
      simp only [ho1, oSome_some, oGet_some, Bool.and_true]
      rw [cond_pos (by rw [inS_def, lenI_def]; simp; omega), cond_pos (inS_from (by omega)), slice_from]
      refine ⟨_, rfl, ?_⟩
      rw [dX, if_neg (by omega), hdo]
      by_cases he : o.2.1 = 0
      · simp [he, eqI_dec]
      · simp [he, eqI_dec]

theorem room_ins (out : Edg') (b : Ins') (h : out.length ≤ 1000000) : room2 (lenI out) (lenI ([b] : Edg')) 24 = true := room2_ok (by simp only [List.length_cons, List.length_nil]; omega)
theorem room_edg (out : List Edg') (b : Edg') (h : out.length ≤ 1000000) : room2 (lenI out) (lenI ([b] : List Edg')) 24 = true := room2_ok (by simp only [List.length_cons, List.length_nil]; omega)

def finD (q : Option (List Edg')) : List Edg' × (Int × Unit) := match q with
  | some c => (c, (0, ()))
  | none => ([], (3, ()))

theorem decode_eq (N : Nat) (xs : List Int) (hb : Byt xs) (hlen : xs.length ≤ 9223372036854775807) (hN : 1000 < N) : F_complementstore_Decode N (xs, ()) = some (finD (dAll xs), ()) := by
  have g0 : 0 ≤ lget xs 0 0 ∧ lget xs 0 0 < 256 := lget_byt hb 0
  simp only [F_complementstore_Decode, letJ_def, eqLen0, ltI_dec (x := 8)]
  rw [cond_pos (by
    by_cases h : xs.length = 0
    · simp [h]
    · rw [show inB 0 (lenI xs) = true from inB_len (i := 0) (by omega)]; simp)]
  by_cases hc : xs.length = 0 ∨ 8 < lget xs 0 0
  · rw [cond_pos (by simpa using hc), dAll, if_pos hc]; rfl
  · have b0 : inB 0 (lenI xs) = true := inB_len (i := 0) (by omega)
    have s1 : inS 1 (lenI xs) (lenI xs) = true := inS_from (i := 1) (by omega)
    have l1 : lslice xs 1 (lenI xs) = xs.drop 1 := slice_from xs 1
    rw [cond_neg (by simpa using hc), b0, s1, l1, dAll, if_neg hc]
    simp only [cond_true]
    obtain ⟨m, hm⟩ := Int.eq_ofNat_of_zero_le g0.1
    have hm8 : m ≤ 8 := by omega
    rw [hm, Int.toNat_natCast]
    refine iterF_post (S := (List Int) × ((List Edg') × (Int × Unit))) (R := ((List Edg') × (Int × Unit)) × Unit) (fun p => m - p.2.2.1.toNat) (fun p => Byt p.1 ∧ p.1.length ≤ 9223372036854775807 ∧ ∃ i : Nat, p.2.2.1 = (i : Int) ∧ i ≤ m ∧ p.2.1.length = i) (fun p => (finD (dEnd (dCs (m - p.2.2.1.toNat) p.1 p.2.1)), ())) ?_ N (xs.drop 1, ([], (0, ()))) ⟨hb.drop 1, by simp only [List.length_drop]; omega, 0, rfl, Nat.zero_le _, rfl⟩ (by simp; omega)
    rintro ih ⟨x, cs, _, _⟩ ⟨hx, hxl, i, rfl, h2, h3⟩ hih
    simp only [Int.toNat_natCast] at hih hx hxl h3 ⊢
    by_cases hi : i < m
    · obtain ⟨k, hk⟩ : ∃ k, m - i = k + 1 := ⟨m - i - 1, by omega⟩
      have g1 := lget_byt hx 0
      simp only [Int.natCast_zero] at g1
      rw [cond_pos (by rw [ltI_def]; simp; omega), cond_pos (by
        by_cases h : x.length = 0
        · simp [h]
        · rw [show inB 0 (lenI x) = true from inB_len (i := 0) (by omega)]; simp), hk, dCs, ltI_dec (x := 6)]
      by_cases hc2 : x.length = 0 ∨ 6 < lget x 0 0
      · rw [cond_pos (by simpa using hc2), if_pos hc2]; rfl
      · have b1 : inB 0 (lenI x) = true := inB_len (i := 0) (by omega)
        have s2 : inS 1 (lenI x) (lenI x) = true := inS_from (i := 1) (by omega)
        have l2 : lslice x 1 (lenI x) = x.drop 1 := slice_from x 1
        rw [cond_neg (by simpa using hc2), if_neg hc2, b1, s2, l2]
        simp only [cond_true]
        obtain ⟨q, hq⟩ := Int.eq_ofNat_of_zero_le g1.1
        have hq6 : q ≤ 6 := by omega
        rw [hq, Int.toNat_natCast]
        refine iterF_post (S := (List Int) × (Edg' × (Int × Unit))) (R := ((List Edg') × (Int × Unit)) × Unit) (fun p => q - p.2.2.1.toNat) (fun p => Byt p.1 ∧ p.1.length ≤ 9223372036854775807 ∧ ∃ j : Nat, p.2.2.1 = (j : Int) ∧ j ≤ q ∧ p.2.1.length = j) (fun p => (finD (dEnd (match dEdge (q - p.2.2.1.toNat) p.1 p.2.1 with
          | some (e, y) => dCs k y (cs ++ [e])
          | none => none)), ())) ?_ N (x.drop 1, ([], (0, ()))) ⟨hx.drop 1, by simp only [List.length_drop]; omega, 0, rfl, Nat.zero_le _, rfl⟩ (by simp; omega)
        rintro ih2 ⟨y, acc, _, _⟩ ⟨hy, hyl, j, rfl, h4, h5⟩ hih2
        simp only [Int.toNat_natCast] at hih2 hy hyl h5 ⊢
        by_cases hj : j < q
        · obtain ⟨l, hl⟩ : ∃ l, q - j = l + 1 := ⟨q - j - 1, by omega⟩
          obtain ⟨o, ho1, ho2⟩ := cdec_eq N y hy hyl hN
          rw [cond_pos (by rw [ltI_def]; simp; omega)]
          simp only [ho1, oSome_some, oGet_some, cond_true]
          rw [hl, dEdge]
          cases hd : dX y with
          | some sy =>
            obtain ⟨s, z⟩ := sy
            rw [hd] at ho2
            simp only at ho2
            subst ho2
            obtain ⟨_, _, z1, z2⟩ := dX_some hy hd
            simp only
            rw [cond_neg (by rfl), cond_pos (room_ins acc _ (by omega)), iadd8 (by omega), lapp_def, hih2 _ ⟨z1, by simp only; omega, j + 1, rfl, by omega, by simp only [List.length_append, List.length_cons, List.length_nil]; omega⟩ (by simp only [Int.toNat_natCast]; omega)]
            simp only [Int.toNat_natCast, show q - (j + 1) = l by omega]
          | none =>
            rw [hd] at ho2
            simp only at ho2
            rw [cond_pos (by rw [ho2]; rfl)]
            rfl
        · rw [cond_neg (by rw [ltI_def]; simp; omega), cond_pos (room_edg cs _ (by omega)), iadd8 (by omega), lapp_def, show q - j = 0 by omega, dEdge, hih _ ⟨hy, hyl, i + 1, rfl, by omega, by simp only [List.length_append, List.length_cons, List.length_nil]; omega⟩ (by simp only [Int.toNat_natCast]; omega)]
          simp only [Int.toNat_natCast, show m - (i + 1) = k by omega]
    · rw [cond_neg (by rw [ltI_def]; simp; omega), show m - i = 0 by omega, dCs, dEnd]
      by_cases hx0 : x.length = 0
      · rw [cond_neg (by rw [ltI_def, lenI_def, hx0]; rfl), if_pos hx0]; rfl
      · rw [cond_pos (by rw [ltI_def, lenI_def]; simp; omega), if_neg hx0]; rfl

theorem decodable_eq (N : Nat) (xs : List Int) (hb : Byt xs) (hlen : xs.length ≤ 9223372036854775807) (hN : 1000 < N) : F_stemlaw4_decodable N (xs, ()) = some (((dAll xs).isSome, ()), ()) := by
  have g0 : 0 ≤ lget xs 0 0 ∧ lget xs 0 0 < 256 := lget_byt hb 0
  simp only [F_stemlaw4_decodable, letJ_def, eqLen0, ltI_dec (x := 8)]
  rw [cond_pos (by
    by_cases h : xs.length = 0
    · simp [h]
    · rw [show inB 0 (lenI xs) = true from inB_len (i := 0) (by omega)]; simp)]
  by_cases hc : xs.length = 0 ∨ 8 < lget xs 0 0
  · rw [cond_pos (by simpa using hc), dAll, if_pos hc]; rfl
  · have b0 : inB 0 (lenI xs) = true := inB_len (i := 0) (by omega)
    have s1 : inS 1 (lenI xs) (lenI xs) = true := inS_from (i := 1) (by omega)
    have l1 : lslice xs 1 (lenI xs) = xs.drop 1 := slice_from xs 1
    rw [cond_neg (by simpa using hc), b0, s1, l1, dAll, if_neg hc]
    simp only [cond_true]
    obtain ⟨m, hm⟩ := Int.eq_ofNat_of_zero_le g0.1
    have hm8 : m ≤ 8 := by omega
    rw [hm, Int.toNat_natCast]
    have acc0 : ∀ (k : Nat) (x : List Int) (a b : List Edg'), (dEnd (dCs k x a)).isSome = (dEnd (dCs k x b)).isSome := by
      intro k
      induction k with
      | zero => intro x a b; simp only [dCs, dEnd]; split <;> rfl
      | succ k ih =>
        intro x a b
        simp only [dCs]
        split
        · rfl
        · split
          · exact ih _ _ _
          · rfl
    refine iterF_post (S := (List Int) × (Int × Unit)) (R := (Bool × Unit) × Unit) (fun p => m - p.2.1.toNat) (fun p => Byt p.1 ∧ p.1.length ≤ 9223372036854775807 ∧ ∃ i : Nat, p.2.1 = (i : Int) ∧ i ≤ m) (fun p => (((dEnd (dCs (m - p.2.1.toNat) p.1 [])).isSome, ()), ())) ?_ N (xs.drop 1, (0, ())) ⟨hb.drop 1, by simp only [List.length_drop]; omega, 0, rfl, Nat.zero_le _⟩ (by simp; omega)
    rintro ih ⟨x, _, _⟩ ⟨hx, hxl, i, rfl, h2⟩ hih
    simp only [Int.toNat_natCast] at hih hx hxl ⊢
    by_cases hi : i < m
    · obtain ⟨k, hk⟩ : ∃ k, m - i = k + 1 := ⟨m - i - 1, by omega⟩
      have g1 := lget_byt hx 0
      simp only [Int.natCast_zero] at g1
      rw [cond_pos (by rw [ltI_def]; simp; omega), cond_pos (by
        by_cases h : x.length = 0
        · simp [h]
        · rw [show inB 0 (lenI x) = true from inB_len (i := 0) (by omega)]; simp), hk, dCs, ltI_dec (x := 6)]
      by_cases hc2 : x.length = 0 ∨ 6 < lget x 0 0
      · rw [cond_pos (by simpa using hc2), if_pos hc2]; rfl
      · have b1 : inB 0 (lenI x) = true := inB_len (i := 0) (by omega)
        have s2 : inS 1 (lenI x) (lenI x) = true := inS_from (i := 1) (by omega)
        have l2 : lslice x 1 (lenI x) = x.drop 1 := slice_from x 1
        rw [cond_neg (by simpa using hc2), if_neg hc2, b1, s2, l2]
        simp only [cond_true]
        obtain ⟨q, hq⟩ := Int.eq_ofNat_of_zero_le g1.1
        have hq6 : q ≤ 6 := by omega
        rw [hq, Int.toNat_natCast]
        have accE : ∀ (n : Nat) (y : List Int) (a b : Edg'), (dEnd (match dEdge n y a with
          | some (e, y) => dCs k y ([] ++ [e])
          | none => none)).isSome = (dEnd (match dEdge n y b with
          | some (e, y) => dCs k y ([] ++ [e])
          | none => none)).isSome := by
          intro n
          induction n with
          | zero => intro y a b; exact acc0 _ _ _ _
          | succ n ih =>
            intro y a b
            simp only [dEdge]
            cases dX y with
            | some sy => exact ih _ _ _
            | none => rfl
        refine iterF_post (S := (List Int) × (Int × Unit)) (R := (Bool × Unit) × Unit) (fun p => q - p.2.1.toNat) (fun p => Byt p.1 ∧ p.1.length ≤ 9223372036854775807 ∧ ∃ j : Nat, p.2.1 = (j : Int) ∧ j ≤ q) (fun p => (((dEnd (match dEdge (q - p.2.1.toNat) p.1 [] with
          | some (e, y) => dCs k y ([] ++ [e])
          | none => none)).isSome, ()), ())) ?_ N (x.drop 1, (0, ())) ⟨hx.drop 1, by simp only [List.length_drop]; omega, 0, rfl, Nat.zero_le _⟩ (by simp; omega)
        rintro ih2 ⟨y, _, _⟩ ⟨hy, hyl, j, rfl, h4⟩ hih2
        simp only [Int.toNat_natCast] at hih2 hy hyl ⊢
        by_cases hj : j < q
        · obtain ⟨l, hl⟩ : ∃ l, q - j = l + 1 := ⟨q - j - 1, by omega⟩
          have k0 : 0 ≤ lget y 0 0 ∧ lget y 0 0 < 256 := lget_byt hy 0
          have k1 : 0 ≤ lget y 1 0 ∧ lget y 1 0 < 256 := lget_byt hy 1
          have k2 : 0 ≤ lget y 2 0 ∧ lget y 2 0 < 256 := lget_byt hy 2
          rw [cond_pos (by rw [ltI_def]; simp; omega), hl, dEdge]
          by_cases y3 : y.length < 3
          · rw [cond_pos (by rw [ltI_def, lenI_def]; simp; omega), show dX y = none from by rw [dX, if_pos (.inl y3)]]; rfl
          · have en : iadd .i64 (imul .i64 (iadd .i64 (imul .i64 (iwrap .i64 (lget y 0 0)) 256) (iwrap .i64 (lget y 1 0))) 256) (iwrap .i64 (lget y 2 0)) = (dLen y : Int) := by
              rw [wrapi64_id k0.1 k0.2, wrapi64_id k1.1 k1.2, wrapi64_id k2.1 k2.2, imul64 (x := lget y 0 0) (by omega) (by omega), iadd64 (x := lget y 0 0 * 256) (by omega) (by omega), imul64 (by omega) (by omega), iadd64 (by omega) (by omega), dLen]
              omega
            have hd : dLen y < 16777216 := by unfold dLen; omega
            have es : isub .i64 (lenI y) 3 = (y.length : Int) - 3 := by rw [lenI_def, isub64 (by omega) (by omega)]
            rw [cond_neg (by rw [ltI_def, lenI_def]; simp; omega), cond_pos (by
              rw [show inB 0 (lenI y) = true from inB_len (i := 0) (by omega), show inB 1 (lenI y) = true from inB_len (i := 1) (by omega), show inB 2 (lenI y) = true from inB_len (i := 2) (by omega)]; rfl), en, es]
            by_cases y4 : y.length - 3 < dLen y
            · rw [cond_pos (by rw [ltI_def]; simp; omega), show dX y = none from by rw [dX, if_pos (.inr y4)]]; rfl
            · have ea : iadd .i64 3 (dLen y : Int) = ((3 + dLen y : Nat) : Int) := by rw [iadd64 (by omega) (by omega)]; omega
              have e2 : lslice y 3 ((3 + dLen y : Nat) : Int) = (y.drop 3).take (dLen y) := by
                rw [show (3 : Int) = ((3 : Nat) : Int) from rfl, slice_at, List.drop_take, show 3 + dLen y - 3 = dLen y by omega]
              have hmb : Byt ((y.drop 3).take (dLen y)) := fun b hb => hy b (List.mem_of_mem_drop (List.mem_of_mem_take hb))
              obtain ⟨o, ho1, ho2⟩ := refDecodeInstance_eq N _ hmb hN
              have hdo := decI_out ho2
              rw [cond_neg (by rw [ltI_def]; simp; omega), ea, e2]
              simp only [ho1, oSome_some, oGet_some, Bool.and_true, neI_dec]
              rw [cond_pos (by rw [inS_def, lenI_def]; simp; omega)]
              by_cases he : o.2.1 = 0
              · have hdx : dX y = some (o.1, y.drop (3 + dLen y)) := by rw [dX, if_neg (by omega), hdo, if_pos he]
                rw [hdx, cond_neg (by simp [he]), cond_pos (inS_from (by omega)), slice_from, iadd8 (by omega), hih2 _ ⟨hy.drop _, by simp only [List.length_drop]; omega, j + 1, rfl, by omega⟩ (by simp only [Int.toNat_natCast]; omega)]
                simp only [Int.toNat_natCast, show q - (j + 1) = l by omega]
                rw [accE l _ [] ([] ++ [o.1])]
              · have hdx : dX y = none := by rw [dX, if_neg (by omega), hdo, if_neg he]
                rw [hdx, cond_pos (by simp [he])]; rfl
        · rw [cond_neg (by rw [ltI_def]; simp; omega), iadd8 (by omega), show q - j = 0 by omega, dEdge, hih _ ⟨hy, hyl, i + 1, rfl, by omega⟩ (by simp only [Int.toNat_natCast]; omega)]
          simp only [Int.toNat_natCast, show m - (i + 1) = k by omega]
          rw [acc0 k y [] ([] ++ [[]])]
    · rw [cond_neg (by rw [ltI_def]; simp; omega), show m - i = 0 by omega, dCs, dEnd]
      by_cases hx0 : x.length = 0
      · simp [hx0]
      · simp [hx0]

/-! ## The law -/
theorem law15 (x : (List Edg') × ((List Int) × Unit)) (hs : ∀ e ∈ x.1, ∀ s ∈ e, ∀ t ∈ s, t.1.length ≤ 9223372036854775807) (hb : Byt x.2.1) (hlen : x.2.1.length ≤ 9223372036854775807) : ∃ N z, F_stemlaw4_ComplementStoreEncodingMatchesReference N x = some ((true, ()), z) := by
  obtain ⟨c, xs, _⟩ := x
  simp only at hs hb hlen
  obtain ⟨M, hM⟩ : ∃ M : Nat, ∀ e ∈ c, ∀ s ∈ e, ∀ t ∈ s, t.1.length < M := by
    have one : ∀ s : Ins', ∃ M : Nat, ∀ t ∈ s, t.1.length < M := fun s => by
      induction s with
      | nil => exact ⟨0, fun t ht => by cases ht⟩
      | cons t s ih =>
        obtain ⟨M, hM⟩ := ih
        refine ⟨max M (t.1.length + 1), fun u hu => ?_⟩
        rcases List.mem_cons.1 hu with rfl | hu
        · omega
        · have := hM u hu; omega
    have two : ∀ e : Edg', ∃ M : Nat, ∀ s ∈ e, ∀ t ∈ s, t.1.length < M := fun e => by
      induction e with
      | nil => exact ⟨0, fun t ht => by cases ht⟩
      | cons s e ih =>
        obtain ⟨M, hM⟩ := ih
        obtain ⟨K, hK⟩ := one s
        refine ⟨max M K, fun u hu t ht => ?_⟩
        rcases List.mem_cons.1 hu with rfl | hu
        · have := hK t ht; omega
        · have := hM u hu t ht; omega
    clear hs
    induction c with
    | nil => exact ⟨0, fun t ht => by cases ht⟩
    | cons e c ih =>
      obtain ⟨M, hM⟩ := ih
      obtain ⟨K, hK⟩ := two e
      refine ⟨max M K, fun u hu s hs t ht => ?_⟩
      rcases List.mem_cons.1 hu with rfl | hu
      · have := hK s hs t ht; omega
      · have := hM u hu s hs t ht; omega
  have hs' : ∀ e ∈ c, ∀ s ∈ e, ∀ t ∈ s, t.1.length ≤ 9223372036854775807 ∧ t.1.length < 3000 + M := fun e he s hs2 t ht => ⟨hs e he s hs2 t ht, by have := hM e he s hs2 t ht; omega⟩
  refine ⟨3000 + M, (), ?_⟩
  simp only [F_stemlaw4_ComplementStoreEncodingMatchesReference, letJ_def, encode_eq (3000 + M) c hs' (by omega), refEncode_eq (3000 + M) _ (by omega), works_eq (3000 + M) (by omega), decode_eq (3000 + M) xs hb hlen (by omega), decodable_eq (3000 + M) xs hb hlen (by omega), oSome_some, oGet_some, cond_true, Bool.or_true]
  rw [cond_neg (by rw [eqS_dec, neI_dec]; simp)]
  cases hd : dAll xs with
  | none =>
    rw [cond_pos (by rw [neI_dec]; rfl)]
    simp [finD, eqI_dec, lenI_def]
  | some c' =>
    obtain ⟨k1, k2⟩ := dAll_some hb hd
    rw [cond_neg (by rw [neI_dec]; rfl)]
    simp [finD, k1, k2, eqI_dec, eqS_dec]

theorem law15Said (x : (List Edg') × ((List Int) × Unit)) (h1 : (Ty.slice (.slice (.slice T_api_Relation))).good x.1) (h2 : (Ty.slice (.int .u8)).good x.2.1) : ∃ N z, F_stemlaw4_ComplementStoreEncodingMatchesReference N x = some ((true, ()), z) :=
  law15 x (fun e he s hs t ht => (((h1.2 e he).2 s hs).2 t ht).1) (byt_of_good h2) h2.1

end
end Go.Proofs.YtigjpdkeijcabaaDoor
