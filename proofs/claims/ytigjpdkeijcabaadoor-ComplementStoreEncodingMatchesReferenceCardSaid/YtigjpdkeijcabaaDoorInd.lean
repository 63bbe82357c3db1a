/- Instances: the decoders, the law. -/
import Derived.Test.YtigjpdkeijcabaaDoorIns
set_option linter.unusedVariables false
set_option linter.unusedSimpArgs false
set_option linter.unnecessarySimpa false
set_option linter.unusedSectionVars false
set_option linter.unusedSimpArgs false
set_option maxRecDepth 100000
namespace Go.Proofs.YtigjpdkeijcabaaDoor
open Go.Vi
noncomputable section

def encO (s : List Rel') : List Int := if instErr s = 0 then encI s else []

/-- What the program makes of what it parsed. -/
def finI (xs : List Int) (q : List Rel' × Dec') : List Rel' × (Int × Unit) :=
  if (!q.2.2.1 && decide (q.2.1 = []) && decide (instErr q.1 = 0) && decide (intsB xs = intsB (encO q.1))) = true then (q.1, (0, ())) else ([], (3, ()))
/-- .. and the reference. -/
def finR (xs : List Int) (q : Option (List Rel' × List Int)) : List Rel' × (Int × Unit) := match q with
  | some (ts, y) => if y.length = 0 ∧ instErr ts = 0 ∧ intsB (encO ts) = intsB xs then (ts, (0, ())) else ([], (3, ()))
  | none => ([], (3, ()))

theorem name_len {d : Dec'} {n : Int} (h : 0 ≤ n ∧ n < 256) : (pStr d n).1.1.length ≤ 255 := by
  unfold pStr
  split
  · exact Nat.zero_le _
  · rw [intsB_length, List.length_take]; omega

theorem room_rows (out : List Row') (b : Row') (h : out.length ≤ 1000000) : room2 (lenI out) (lenI ([b] : List Row')) 24 = true := room2_ok (by simp only [List.length_cons, List.length_nil]; omega)
theorem room_rels (out : List Rel') (b : Rel') (h : out.length ≤ 1000000) : room2 (lenI out) (lenI ([b] : List Rel')) 40 = true := room2_ok (by simp only [List.length_cons, List.length_nil]; omega)

theorem decodeInstance_run (N : Nat) (xs : List Int) (hb : Byt xs) (hN : 1000 < N) (hl : ¬ 65536 < xs.length) : F_encoding_DecodeInstance N (xs, ()) = some (finI xs (pInst (xs, (false, ()))), ()) := by
  simp only [F_encoding_DecodeInstance, letJ_def]
  rw [cond_neg (by rw [ltI_def, lenI_def]; simp; omega)]
  have h0 := pByte_byt (d := (xs, (false, ()))) hb
  simp only [byte_eq, oSome_some, oGet_some, cond_true]
  refine iterF_post (S := Dec' × ((List Rel') × (Int × Unit))) (R := ((List Rel') × (Int × Unit)) × Unit) (fun p => p.2.2.1.toNat) (fun p => Byt p.1.1 ∧ (∀ t ∈ p.2.1, t.1.length ≤ 255) ∧ ∃ i : Nat, p.2.2.1 = (i : Int) ∧ p.2.1.length + i ≤ 255) (fun p => (finI xs (pTabs p.2.2.1.toNat p.1 p.2.1), ())) ?_ N _ ⟨h0.2, fun t ht => (by cases ht), (pByte (xs, (false, ()))).1.1.toNat, by simp only; omega, by simp only [List.length_nil]; omega⟩ (by simp only; omega)
  rintro ih ⟨d, rels, _, _⟩ ⟨hd, hnl, i, rfl, h2⟩ hih
  simp only [Int.toNat_natCast] at hih hd hnl h2 ⊢
  have done : (bif oSome (F_encoding_EncodeInstance N (rels, ())) then
      bif oSome (F_decoder_canonical N (d, (xs, ((oGet (F_encoding_EncodeInstance N (rels, ())) (([], (0, ())), ())).1.1, ((oGet (F_encoding_EncodeInstance N (rels, ())) (([], (0, ())), ())).1.2.1, ()))))) then
        bif !(oGet (F_decoder_canonical N (d, (xs, ((oGet (F_encoding_EncodeInstance N (rels, ())) (([], (0, ())), ())).1.1, ((oGet (F_encoding_EncodeInstance N (rels, ())) (([], (0, ())), ())).1.2.1, ()))))) ((false, ()), ((([] : List Int), (false, ())), ()))).1.1 then some (([], (3, ())), ()) else some ((rels, (0, ())), ())
      else none else none) = some (finI xs (rels, d), ()) := by
    have he := encodeInstance_eq N rels (fun t ht => ⟨by have := hnl t ht; omega, by have := hnl t ht; omega⟩) hN
    have hi0 : instErr rels = 0 ∨ instErr rels ≠ 0 := Classical.em _
    simp only [he, oSome_some, oGet_some, cond_true]
    rcases hi0 with hi0 | hi0
    · obtain ⟨z, hz⟩ := canonical_eq N d xs (encI rels) 0
      simp only [hi0, if_true, hz, oSome_some, oGet_some, cond_true, finI, encO]
      cases (!d.2.1 && decide (d.1 = []) && decide True && decide (intsB xs = intsB (encI rels))) <;> simp
    · obtain ⟨z, hz⟩ := canonical_eq N d xs [] (instErr rels)
      simp only [hi0, if_false, hz, oSome_some, oGet_some, cond_true, finI, encO, decide_false, Bool.and_false, Bool.false_and, Bool.not_false]
      simp
  by_cases hc : i = 0 ∨ d.2.1 = true
  · rw [cond_neg (by
      rcases hc with h | h
      · subst h; rw [ltI_def]; rfl
      · rw [h]; simp), done]
    congr 3
    rcases hc with h | h
    · subst h; rfl
    · cases i with
      | zero => rfl
      | succ i => rw [pTabs, if_pos h]
  · obtain ⟨k, hk⟩ : ∃ k, i = k + 1 := ⟨i - 1, by omega⟩
    subst hk
    have hbad : d.2.1 = false := by simpa using (not_or.1 hc).2
    have hb1 := pByte_byt hd
    have hnm := pName_byt hd
    have hb2 := pByte_byt hnm
    have hstr := string_eq N (pByte d).2.1 (pByte d).1.1 hb1.1.1
    rw [cond_pos (by rw [ltI_def, hbad]; simp)]
    simp only [wrapi64_id hb1.1.1 hb1.1.2, hstr, oSome_some, oGet_some, cond_true, Bool.and_self]
    have fin : ∀ (rs : List Row') (d' : Dec'), Byt d'.1 → rs = (pRowsB (pName d).2).1 → d' = (pRowsB (pName d).2).2 → (bif room2 (lenI rels) (lenI ([((pName d).1, (rs, ()))] : List Rel')) 40 then ih (d', (lapp rels [((pName d).1, (rs, ()))], (isub .u8 ((k + 1 : Nat) : Int) 1, ()))) else none) = some (finI xs (pTabs (k + 1) d rels), ()) := fun rs d' hd' e1 e2 => by
      have ei : isub .u8 (((k + 1 : Nat)) : Int) 1 = (k : Int) := by rw [isub_def, wrap_u8]; omega
      rw [cond_pos (room_rels rels _ (by omega)), ei, lapp_def, hih _ ⟨hd', fun t ht => ?_, k, rfl, by simp only [List.length_append, List.length_cons, List.length_nil]; omega⟩ (by simp only [Int.toNat_natCast]; omega)]
      · subst e1 e2
        simp only [Int.toNat_natCast]
        rw [pTabs, if_neg (by simp [hbad])]
        rfl
      · rcases List.mem_append.1 ht with ht | ht
        · exact hnl t ht
        · simp only [List.mem_singleton] at ht
          subst ht
          exact name_len hb1.1
    show iterF N _ ((pByte (pName d).2).2.1, (((pName d).1, ([], ())), ((pByte (pName d).2).1.1, ()))) = _
    obtain ⟨m, hm⟩ := Int.eq_ofNat_of_zero_le hb2.1.1
    have hmk : pRowsB (pName d).2 = pRows m (pByte (pName d).2).2.1 [] := by unfold pRowsB; rw [hm]; rfl
    rw [hm]
    refine iterF_post (S := Dec' × (Rel' × (Int × Unit))) (R := ((List Rel') × (Int × Unit)) × Unit) (fun p => p.2.2.1.toNat) (fun p => Byt p.1.1 ∧ p.2.1.1 = (pName d).1 ∧ ∃ j : Nat, p.2.2.1 = (j : Int) ∧ p.2.1.2.1.length + j ≤ 255 ∧ pRows j p.1 p.2.1.2.1 = pRowsB (pName d).2) (fun p => (finI xs (pTabs (k + 1) d rels), ())) ?_ N _ ⟨hb2.2, rfl, m, rfl, by simp only [List.length_nil]; omega, hmk.symm⟩ (by simp only [Int.toNat_natCast]; omega)
    rintro ih2 ⟨d2, ⟨nm, rs, _⟩, _, _⟩ ⟨hd2, hnm2, j, rfl, h4, h5⟩ hih2
    simp only [Int.toNat_natCast] at hih2 hd2 hnm2 h4 h5 ⊢
    subst hnm2
    by_cases hc2 : j = 0 ∨ d2.2.1 = true
    · have e : pRows j d2 rs = (rs, d2) := by
        rcases hc2 with h | h
        · subst h; rfl
        · cases j with
          | zero => rfl
          | succ j => rw [pRows, if_pos h]
      rw [e] at h5
      rw [cond_neg (by
        rcases hc2 with h | h
        · subst h; rw [ltI_def]; rfl
        · rw [h]; simp)]
      exact fin rs d2 hd2 (by rw [← h5]) (by rw [← h5])
    · obtain ⟨l, hl2⟩ : ∃ l, j = l + 1 := ⟨j - 1, by omega⟩
      subst hl2
      have hbad2 : d2.2.1 = false := by simpa using (not_or.1 hc2).2
      have ei : isub .u8 (((l + 1 : Nat)) : Int) 1 = (l : Int) := by rw [isub_def, wrap_u8]; omega
      rw [cond_pos (by rw [ltI_def, hbad2]; simp)]
      simp only [row_eq N d2 hd2 hN, oSome_some, oGet_some, Bool.true_and, ei, lapp_def]
      rw [cond_pos (room_rows rs _ (by omega))]
      rw [pRows, if_neg (by simp [hbad2])] at h5
      exact hih2 _ ⟨pRow'_byt hd2, rfl, l, rfl, by simp only [List.length_append, List.length_cons, List.length_nil]; omega, h5⟩ (by simp only [Int.toNat_natCast]; omega)

theorem decodeInstance_eq (N : Nat) (xs : List Int) (hb : Byt xs) (hN : 1000 < N) : ∃ o, F_encoding_DecodeInstance N (xs, ()) = some (o, ()) ∧ (if 65536 < xs.length then o = ([], (2, ())) else InstOut xs o) := by
  by_cases hl : 65536 < xs.length
  · refine ⟨([], (2, ())), ?_, by rw [if_pos hl]⟩
    simp only [F_encoding_DecodeInstance, letJ_def]
    rw [cond_pos (by rw [ltI_def, lenI_def]; simp; omega)]
  · refine ⟨_, decodeInstance_run N xs hb hN hl, ?_⟩
    rw [if_neg hl]
    generalize hp : pInst (xs, (false, ())) = p
    obtain ⟨s, d⟩ := p
    have key : ∀ s', instErr s' = 0 → encI s' = xs → s = s' ∧ d = ([], (false, ())) := fun s' h1 h2 => by
      subst h2
      have := pInst_enc h1 []
      rw [List.append_nil, hp] at this
      exact ⟨congrArg (fun x => x.1) this, congrArg (fun x => x.2) this⟩
    unfold finI
    split
    · rename_i hc
      simp only [Bool.and_eq_true, decide_eq_true_eq] at hc
      obtain ⟨⟨⟨c1, c2⟩, c3⟩, c4⟩ := hc
      rw [encO, if_pos c3] at c4
      exact .inl ⟨s, c3, (intsB_inj hb (encI_byt c3) c4).symm, rfl⟩
    · rename_i hc
      refine .inr ⟨?_, rfl⟩
      rintro ⟨s', h1, h2⟩
      obtain ⟨e1, e2⟩ := key s' h1 h2
      subst e1 e2
      rw [encO, if_pos h1, h2] at hc
      simp [h1] at hc

/-! ## The reference -/
theorem decodeName_eq (N : Nat) (x : List Int) (hx : Byt x) (hl : x.length ≤ 1000000) : F_stemref4_decodeName N (x, ()) = some (rName x, ()) := by
  have g0 : 0 ≤ lget x 0 0 ∧ lget x 0 0 < 256 := lget_byt hx 0
  have e0 : eqI (lenI x) 0 = decide (x.length = 0) := by rw [eqI_dec, lenI_def]; exact decide_eq_decide.2 (by omega)
  have e1 : isub .i64 (lenI x) 1 = (x.length : Int) - 1 := by rw [lenI_def, isub64 (by omega) (by omega)]
  simp only [F_stemref4_decodeName, letJ_def, e0, e1, wrapi64_id g0.1 g0.2, ltI_dec]
  rw [cond_pos (by
    by_cases h : x.length = 0
    · simp [h]
    · rw [show inB 0 (lenI x) = true from inB_len (i := 0) (by omega)]; simp), rName]
  by_cases hc : x.length = 0 ∨ (x.length : Int) - 1 < lget x 0 0
  · rw [cond_pos (by simpa using hc), if_pos hc]
  · obtain ⟨m, hm⟩ := Int.eq_ofNat_of_zero_le g0.1
    have ea : iadd .i64 1 (lget x 0 0) = ((1 + m : Nat) : Int) := by rw [hm, iadd64 (by omega) (by omega)]; omega
    have hlen : 1 + m ≤ x.length := by omega
    rw [cond_neg (by simpa using hc), if_neg hc, ea, show (lget x 0 0).toNat = m by omega, cond_pos (by
      rw [show inB 0 (lenI x) = true from inB_len (i := 0) (by omega), inS_from hlen, inS_def, lenI_def]; simp; omega), slice_from, show (1 : Int) = ((1 : Nat) : Int) from rfl, slice_at]
    congr 4
    rw [List.drop_take, show 1 + m - 1 = m by omega]

theorem refDecodeInstance_run (N : Nat) (xs : List Int) (hb : Byt xs) (hN : 1000 < N) (hl : ¬ 65536 < xs.length) : F_stemref4_DecodeInstance N (xs, ()) = some ((if xs.length = 0 ∨ 6 < lget xs 0 0 then ([], (3, ())) else finR xs (rTabs (lget xs 0 0).toNat (xs.drop 1) [])), ()) := by
  have g0 : 0 ≤ lget xs 0 0 ∧ lget xs 0 0 < 256 := lget_byt hb 0
  have e0 : eqI (lenI xs) 0 = decide (xs.length = 0) := by rw [eqI_dec, lenI_def]; exact decide_eq_decide.2 (by omega)
  simp only [F_stemref4_DecodeInstance, letJ_def]
  rw [cond_neg (by rw [ltI_def, lenI_def]; simp; omega)]
  simp only [e0, ltI_dec (x := 6)]
  rw [cond_pos (by
    by_cases h : xs.length = 0
    · simp [h]
    · rw [show inB 0 (lenI xs) = true from inB_len (i := 0) (by omega)]; simp)]
  by_cases hc : xs.length = 0 ∨ 6 < lget xs 0 0
  · rw [cond_pos (by simpa using hc), if_pos hc]
  · have b0 : inB 0 (lenI xs) = true := inB_len (i := 0) (by omega)
    have s1 : inS 1 (lenI xs) (lenI xs) = true := inS_from (i := 1) (by omega)
    have l1 : lslice xs 1 (lenI xs) = xs.drop 1 := slice_from xs 1
    rw [cond_neg (by simpa using hc), if_neg hc, b0, s1, l1, wrapi64_id g0.1 g0.2]
    simp only [cond_true]
    obtain ⟨m, hm⟩ := Int.eq_ofNat_of_zero_le g0.1
    have hm6 : m ≤ 6 := by omega
    rw [hm, Int.toNat_natCast]
    refine iterF_post (S := (List Rel') × ((List Int) × (Int × Unit))) (R := ((List Rel') × (Int × Unit)) × Unit) (fun p => m - p.2.2.1.toNat) (fun p => Byt p.2.1 ∧ p.2.1.length ≤ 1000000 ∧ ∃ i : Nat, p.2.2.1 = (i : Int) ∧ i ≤ m ∧ p.1.length = i) (fun p => (finR xs (rTabs (m - p.2.2.1.toNat) p.2.1 p.1), ())) ?_ N _ ⟨hb.drop 1, by simp only [List.length_drop]; omega, 0, rfl, Nat.zero_le _, rfl⟩ (by simp; omega)
    rintro ih ⟨ts, x, _, _⟩ ⟨hx, hxl, i, rfl, h2, h3⟩ hih
    simp only [Int.toNat_natCast] at hih hx hxl h3 ⊢
    by_cases hi : i < m
    · obtain ⟨k, hk⟩ : ∃ k, m - i = k + 1 := ⟨m - i - 1, by omega⟩
      obtain ⟨n1, n2⟩ := rName_byt hx
      have g1 := lget_byt n1 0
      simp only [Int.natCast_zero] at g1
      rw [cond_pos (by rw [ltI_def]; simp; omega), hk, rTabs]
      simp only [decodeName_eq N x hx hxl, oSome_some, oGet_some, cond_true]
      have e1 : eqI (lenI (rName x).2.1) 0 = decide ((rName x).2.1.length = 0) := by rw [eqI_dec, lenI_def]; exact decide_eq_decide.2 (by omega)
      rw [e1, ltI_dec (x := 24), rTab]
      by_cases hok : (rName x).2.2.1 = true ∧ (rName x).2.1.length ≠ 0 ∧ lget (rName x).2.1 0 0 ≤ 24
      · obtain ⟨k1, k2, k3⟩ := hok
        have b1 : inB 0 (lenI (rName x).2.1) = true := inB_len (i := 0) (by omega)
        have s2 : inS 1 (lenI (rName x).2.1) (lenI (rName x).2.1) = true := inS_from (i := 1) (by omega)
        have l2 : lslice (rName x).2.1 1 (lenI (rName x).2.1) = (rName x).2.1.drop 1 := slice_from _ 1
        rw [if_pos ⟨k1, k2, k3⟩, b1, s2, l2, k1, wrapi64_id g1.1 g1.2, cond_pos (by simp), cond_neg (by simp [k2]; omega)]
        simp only [cond_true]
        obtain ⟨q, hq⟩ := Int.eq_ofNat_of_zero_le g1.1
        have hq24 : q ≤ 24 := by omega
        rw [hq, Int.toNat_natCast]
        refine iterF_post (S := (List Int) × (Rel' × (Int × Unit))) (R := ((List Rel') × (Int × Unit)) × Unit) (fun p => q - p.2.2.1.toNat) (fun p => Byt p.1 ∧ p.1.length ≤ 1000000 ∧ p.2.1.1 = (rName x).1 ∧ ∃ j : Nat, p.2.2.1 = (j : Int) ∧ j ≤ q ∧ p.2.1.2.1.length = j ∧ rRows (q - j) p.1 p.2.1.2.1 = rRows q ((rName x).2.1.drop 1) []) (fun p => (finR xs (match (match rRows q ((rName x).2.1.drop 1) [] with
          | some (rs, y) => some (((rName x).1, (rs, ())), y)
          | none => none) with
          | some (t, y) => rTabs k y (ts ++ [t])
          | none => none), ())) ?_ N ((rName x).2.1.drop 1, (((rName x).1, ([], ())), (0, ()))) ⟨n1.drop 1, by simp only [List.length_drop]; omega, rfl, 0, rfl, Nat.zero_le _, rfl, rfl⟩ (by simp; omega)
        rintro ih2 ⟨y, ⟨nm, rs, _⟩, _, _⟩ ⟨hy, hyl, hnm, j, rfl, h4, h5, h6⟩ hih2
        simp only [Int.toNat_natCast] at hih2 hy hyl hnm h4 h5 h6 ⊢
        subst hnm
        by_cases hj : j < q
        · obtain ⟨l, hl2⟩ : ∃ l, q - j = l + 1 := ⟨q - j - 1, by omega⟩
          obtain ⟨y1, y2⟩ := rRow0_byt hy
          rw [cond_pos (by rw [ltI_def]; simp; omega)]
          simp only [rDecodeRow_eq N y hy hyl (show 20 < N by omega), oSome_some, oGet_some, cond_true]
          rw [hl2, rRows] at h6
          by_cases ho : (rRow0 y).2.2.1 = true
          · rw [if_pos ho] at h6
            rw [cond_neg (by simp [ho]), cond_pos (room_rows rs _ (by omega)), iadd_nat (by omega), lapp_def]
            exact hih2 _ ⟨y1, by simp only; omega, rfl, j + 1, rfl, by omega, by simp only [List.length_append, List.length_cons, List.length_nil]; omega, by rw [show q - (j + 1) = l by omega]; exact h6⟩ (by simp only [Int.toNat_natCast]; omega)
          · rw [if_neg ho] at h6
            rw [cond_pos (by simpa using ho), ← h6]
            rfl
        · rw [show q - j = 0 by omega, rRows] at h6
          rw [cond_neg (by rw [ltI_def]; simp; omega), cond_pos (room_rels ts _ (by omega)), iadd_nat (by omega), lapp_def, hih _ ⟨hy, hyl, i + 1, rfl, by omega, by simp only [List.length_append, List.length_cons, List.length_nil]; omega⟩ (by simp only [Int.toNat_natCast]; omega), ← h6]
          simp only [Int.toNat_natCast, show m - (i + 1) = k by omega]
      · rw [if_neg hok]
        by_cases k1 : (rName x).2.2.1 = true
        · by_cases k2 : (rName x).2.1.length = 0
          · rw [cond_pos (by simp [k2]), cond_pos (by simp [k2])]; rfl
          · have k3 : 24 < lget (rName x).2.1 0 0 := by
              have : ¬ lget (rName x).2.1 0 0 ≤ 24 := fun h => hok ⟨k1, k2, h⟩
              omega
            rw [cond_pos (by rw [show inB 0 (lenI (rName x).2.1) = true from inB_len (i := 0) (by omega)]; simp), cond_pos (by simp [k3])]; rfl
        · rw [Bool.not_eq_true] at k1
          rw [k1, cond_pos (by simp), cond_pos (by simp)]; rfl
    · rw [cond_neg (by rw [ltI_def]; simp; omega), show m - i = 0 by omega, rTabs]
      simp only [refEncodeInstance_eq N ts hN, oSome_some, oGet_some, cond_true, finR, eqS_dec, neI_dec, ltI_dec (x := 0)]
      by_cases he : instErr ts = 0
      · simp only [he, if_true, encO]
        by_cases hc2 : x.length = 0 ∧ intsB (encI ts) = intsB xs
        · rw [cond_neg (by rw [lenI_def]; simp [hc2.1, hc2.2]), if_pos ⟨hc2.1, trivial, hc2.2⟩]
        · rw [if_neg (fun h => hc2 ⟨h.1, h.2.2⟩), cond_pos]
          rw [lenI_def]
          by_cases h1 : x.length = 0
          · have h2 : ¬ intsB (encI ts) = intsB xs := fun h => hc2 ⟨h1, h⟩
            simp [h1, h2]
          · have : 0 < x.length := by omega
            simp [this]
      · rw [cond_pos (by simp [he]), if_neg (fun h => he h.2.1)]

theorem refDecodeInstance_eq (N : Nat) (xs : List Int) (hb : Byt xs) (hN : 1000 < N) : ∃ o, F_stemref4_DecodeInstance N (xs, ()) = some (o, ()) ∧ (if 65536 < xs.length then o = ([], (2, ())) else InstOut xs o) := by
  by_cases hl : 65536 < xs.length
  · refine ⟨([], (2, ())), ?_, by rw [if_pos hl]⟩
    simp only [F_stemref4_DecodeInstance, letJ_def]
    rw [cond_pos (by rw [ltI_def, lenI_def]; simp; omega)]
  · refine ⟨_, refDecodeInstance_run N xs hb hN hl, ?_⟩
    rw [if_neg hl]
    have key : ∀ s', instErr s' = 0 → encI s' = xs → ¬ (xs.length = 0 ∨ 6 < lget xs 0 0) ∧ rTabs (lget xs 0 0).toNat (xs.drop 1) [] = some (s', []) := fun s' h1 h2 => by
      subst h2
      obtain ⟨k1, k2⟩ := instErr_zero h1
      have g : lget (encI s') 0 0 = (s'.length : Int) := lget_nat (i := 0) rfl
      have e := rTabs_enc s' k2 [] []
      rw [List.append_nil, List.nil_append] at e
      rw [g, Int.toNat_natCast]
      exact ⟨by simp only [encI, List.length_cons]; omega, e⟩
    split
    · rename_i hc
      refine .inr ⟨?_, rfl⟩
      rintro ⟨s', h1, h2⟩
      exact (key s' h1 h2).1 hc
    · generalize hp : rTabs (lget xs 0 0).toNat (xs.drop 1) [] = p
      unfold finR
      split
      · rename_i ts y
        split
        · rename_i hc
          obtain ⟨c1, c2, c3⟩ := hc
          rw [encO, if_pos c2] at c3
          exact .inl ⟨ts, c2, intsB_inj (encI_byt c2) hb c3, rfl⟩
        · rename_i hc
          refine .inr ⟨?_, rfl⟩
          rintro ⟨s', h1, h2⟩
          have := (key s' h1 h2).2
          rw [hp] at this
          injection this with this
          injection this with e1 e2
          subst e1 e2
          exact hc ⟨rfl, h1, by rw [encO, if_pos h1, h2]⟩
      · refine .inr ⟨?_, rfl⟩
        rintro ⟨s', h1, h2⟩
        have := (key s' h1 h2).2
        rw [hp] at this
        cases this

/-! ## The law -/
end
end Go.Proofs.YtigjpdkeijcabaaDoor
