/- The reference's codes (numerals, sized texts, rows, tables, steps): what they are, and that nothing is lost in them. -/
import Derived.Test.YtjjfjgpjbhjpfaaGreatDoorViStd
import Derived.Test.YtjjfjgpjbhjpfaaGreatDoorViLib
set_option linter.unusedVariables false
set_option linter.unusedSimpArgs false
set_option linter.unnecessarySimpa false
set_option linter.unusedSectionVars false
namespace Go.Vi

/-! ## Numerals -/
/-- A byte that may stand in a numeral. -/
def dig (b : UInt8) : Prop := b = 45 ∨ (48 ≤ b.toNat ∧ b.toNat ≤ 57)
instance (b : UInt8) : Decidable (dig b) := by unfold dig; infer_instance

theorem ofNat_digit {d : Nat} (h : d < 10) : (UInt8.ofNat (48 + d)).toNat = 48 + d := by
  rw [UInt8.toNat_ofNat']; omega

theorem decDigits_dig (u : Nat) : ∀ b ∈ Lib.decDigits u, 48 ≤ b.toNat ∧ b.toNat ≤ 57 := by
  induction u using Nat.strongRecOn with
  | ind u ih =>
    intro b hb
    rw [Lib.decDigits] at hb
    split at hb
    · rename_i h
      simp only [List.mem_singleton] at hb
      subst hb
      rw [ofNat_digit h]; omega
    · rename_i h
      rcases List.mem_append.1 hb with hb | hb
      · exact ih (u / 10) (by omega) b hb
      · simp only [List.mem_singleton] at hb
        subst hb
        rw [ofNat_digit (Nat.mod_lt _ (by omega))]; omega

theorem decDigits_ne (u : Nat) : Lib.decDigits u ≠ [] := by
  rw [Lib.decDigits]
  split <;> simp

/-- What the digits come to. -/
def numOf (l : List UInt8) : Nat := l.foldl (fun n b => n * 10 + (b.toNat - 48)) 0
theorem numOf_snoc (l : List UInt8) (b : UInt8) : numOf (l ++ [b]) = numOf l * 10 + (b.toNat - 48) := by simp [numOf]
theorem numOf_decDigits (u : Nat) : numOf (Lib.decDigits u) = u := by
  induction u using Nat.strongRecOn with
  | ind u ih =>
    rw [Lib.decDigits]
    split
    · rename_i h
      simp only [numOf, List.foldl_cons, List.foldl_nil, ofNat_digit h]; omega
    · rename_i h
      rw [numOf_snoc, ih (u / 10) (by omega), ofNat_digit (Nat.mod_lt _ (by omega))]
      omega

theorem itoa_dig (n : Int) : ∀ b ∈ Lib.itoa n, dig b := by
  intro b hb
  unfold Lib.itoa at hb
  split at hb
  · rcases List.mem_cons.1 hb with rfl | hb
    · exact .inl rfl
    · exact .inr (decDigits_dig _ b hb)
  · exact .inr (decDigits_dig _ b hb)
theorem itoa_ne (n : Int) : Lib.itoa n ≠ [] := by
  unfold Lib.itoa
  split
  · simp
  · exact decDigits_ne _
theorem itoa_inj {a b : Int} (h : Lib.itoa a = Lib.itoa b) : a = b := by
  have no45 : ∀ u : Nat, ∀ r, Lib.decDigits u ≠ 45 :: r := fun u r e => by
    have := decDigits_dig u 45 (by rw [e]; exact List.mem_cons_self)
    have : (48 : Nat) ≤ 45 := this.1
    omega
  unfold Lib.itoa at h
  split at h <;> split at h
  · have e := congrArg numOf (List.cons.inj h).2
    rw [numOf_decDigits, numOf_decDigits] at e
    omega
  · exact absurd h.symm (no45 _ _)
  · exact absurd h (no45 _ _)
  · have e := congrArg numOf h
    rw [numOf_decDigits, numOf_decDigits] at e
    omega

/-! ## Parting -/
/-- What follows a run of such bytes begins with another, or is at its end. -/
def stops (P : UInt8 → Prop) (r : List UInt8) : Prop := ∀ b t, r = b :: t → ¬ P b
theorem stops_nil (P : UInt8 → Prop) : stops P [] := fun _ _ h => by cases h
theorem stops_cons {P : UInt8 → Prop} {b : UInt8} {t : List UInt8} (h : ¬ P b) : stops P (b :: t) := fun _ _ e => by cases e; exact h

theorem part {P : UInt8 → Prop} : (a b : List UInt8) → {r s : List UInt8} → (∀ x ∈ a, P x) → (∀ x ∈ b, P x) → stops P r → stops P s → a ++ r = b ++ s → a = b ∧ r = s
  | [], [], _, _, _, _, _, _, h => ⟨rfl, h⟩
  | [], y :: b, r, s, _, hb, hr, _, h => absurd (hb y List.mem_cons_self) (hr y (b ++ s) h)
  | x :: a, [], r, s, ha, _, _, hs, h => absurd (ha x List.mem_cons_self) (hs x (a ++ r) h.symm)
  | x :: a, y :: b, r, s, ha, hb, hr, hs, h => by
    injection h with h1 h2
    obtain ⟨h3, h4⟩ := part a b (fun z hz => ha z (List.mem_cons_of_mem _ hz)) (fun z hz => hb z (List.mem_cons_of_mem _ hz)) hr hs h2
    exact ⟨by rw [h1, h3], h4⟩

theorem itoa_part {a b : Int} {r s : List UInt8} (hr : stops dig r) (hs : stops dig s) (h : Lib.itoa a ++ r = Lib.itoa b ++ s) : a = b ∧ r = s := by
  obtain ⟨h1, h2⟩ := part _ _ (itoa_dig a) (itoa_dig b) hr hs h
  exact ⟨itoa_inj h1, h2⟩

/-! ## Sized texts -/
def sizedC (s : List UInt8) : List UInt8 := Lib.itoa (s.length : Int) ++ 58 :: s
theorem sizedC_part {a b r s : List UInt8} (h : sizedC a ++ r = sizedC b ++ s) : a = b ∧ r = s := by
  unfold sizedC at h
  rw [List.append_assoc, List.append_assoc] at h
  obtain ⟨h1, h2⟩ := itoa_part (stops_cons (by decide)) (stops_cons (by decide)) h
  exact List.append_inj (List.cons.inj h2).2 (by omega)

/-! ## Rows -/
theorem encV_part {a b : Int × (Int × (List UInt8 × Unit))} {r s : List UInt8} (h : encV a ++ r = encV b ++ s) : a = b ∧ r = s := by
  obtain ⟨a1, a2, a3, ⟨⟩⟩ := a
  obtain ⟨b1, b2, b3, ⟨⟩⟩ := b
  unfold encV at h
  simp only [List.cons_append, List.append_assoc] at h
  injection h with _ h
  obtain ⟨h1, h2⟩ := itoa_part (stops_cons (by decide)) (stops_cons (by decide)) h
  obtain ⟨h3, h4⟩ := itoa_part (stops_cons (by decide)) (stops_cons (by decide)) (List.cons.inj h2).2
  obtain ⟨h5, h6⟩ := itoa_part (stops_cons (by decide)) (stops_cons (by decide)) (List.cons.inj h4).2
  obtain ⟨h7, h8⟩ := List.append_inj (List.cons.inj h6).2 (by omega)
  exact ⟨by rw [h1, h3, h7], h8⟩

theorem encVs_part : (xs ys : List (Int × (Int × (List UInt8 × Unit)))) → {r s : List UInt8} → xs.length = ys.length → (xs.map encV).flatten ++ r = (ys.map encV).flatten ++ s → xs = ys ∧ r = s
  | [], [], _, _, _, h => ⟨rfl, h⟩
  | x :: xs, y :: ys, r, s, hl, h => by
    simp only [List.map_cons, List.flatten_cons, List.append_assoc] at h
    obtain ⟨h1, h2⟩ := encV_part h
    obtain ⟨h3, h4⟩ := encVs_part xs ys (by simpa using hl) h2
    exact ⟨by rw [h1, h3], h4⟩

theorem encR_part {xs ys : List (Int × (Int × (List UInt8 × Unit)))} {r s : List UInt8} (hr : stops dig r) (hs : stops dig s) (h : encR xs ++ r = encR ys ++ s) : xs = ys ∧ r = s := by
  have st : ∀ (l : List (Int × (Int × (List UInt8 × Unit)))) (r : List UInt8), stops dig r → stops dig ((l.map encV).flatten ++ r) := fun l r hr => by
    cases l with
    | nil => exact hr
    | cons x l =>
      rw [List.map_cons, List.flatten_cons, encV]
      exact stops_cons (by decide)
  unfold encR at h
  rw [List.append_assoc, List.append_assoc] at h
  obtain ⟨h1, h2⟩ := itoa_part (st xs r hr) (st ys s hs) h
  exact encVs_part xs ys (by omega) h2
theorem encR_inj {xs ys : List (Int × (Int × (List UInt8 × Unit)))} (h : encR xs = encR ys) : xs = ys :=
  (encR_part (r := []) (s := []) (stops_nil _) (stops_nil _) (by rw [List.append_nil, List.append_nil]; exact h)).1
/-- Of a known number of values: whatever follows. -/
theorem encR_partN {xs ys : List (Int × (Int × (List UInt8 × Unit)))} {r s : List UInt8} (hl : xs.length = ys.length) (h : encR xs ++ r = encR ys ++ s) : xs = ys ∧ r = s := by
  unfold encR at h
  rw [hl, List.append_assoc, List.append_assoc] at h
  exact encVs_part xs ys hl (List.append_cancel_left h)

/-! ## Columns' numbers -/
def colsC (l : List Int) : List UInt8 := (l.map fun i => 44 :: Lib.itoa i).flatten
theorem colsC_nil : colsC [] = [] := rfl
theorem colsC_cons (i : Int) (l : List Int) : colsC (i :: l) = 44 :: (Lib.itoa i ++ colsC l) := rfl
theorem colsC_stops (l : List Int) {r : List UInt8} (hr : stops dig r) : stops dig (colsC l ++ r) := by
  cases l with
  | nil => exact hr
  | cons i l => rw [colsC_cons]; exact stops_cons (by decide)
theorem colsC_part : (a b : List Int) → {r s : List UInt8} → stops dig r → stops dig s → stops (· = 44) r → stops (· = 44) s → colsC a ++ r = colsC b ++ s → a = b ∧ r = s
  | [], [], _, _, _, _, _, _, h => ⟨rfl, h⟩
  | [], j :: b, r, s, _, _, hr, _, h => absurd rfl (hr 44 (Lib.itoa j ++ colsC b ++ s) h)
  | i :: a, [], r, s, _, _, _, hs, h => absurd rfl (hs 44 (Lib.itoa i ++ colsC a ++ r) h.symm)
  | i :: a, j :: b, r, s, hr, hs, hr', hs', h => by
    simp only [colsC_cons, List.cons_append, List.append_assoc] at h
    injection h with _ h
    obtain ⟨h1, h2⟩ := itoa_part (colsC_stops a hr) (colsC_stops b hs) h
    obtain ⟨h3, h4⟩ := colsC_part a b hr hs hr' hs' h2
    exact ⟨by rw [h1, h3], h4⟩

/-! ## Foreign keys -/
abbrev DFk : Type := List UInt8 × (List Int × (List UInt8 × Unit))
def fkC (f : DFk) : List UInt8 := sizedC f.1 ++ (sizedC f.2.2.1 ++ colsC f.2.1)
theorem fkC_inj {a b : DFk} (h : fkC a = fkC b) : a = b := by
  obtain ⟨a1, a2, a3, ⟨⟩⟩ := a
  obtain ⟨b1, b2, b3, ⟨⟩⟩ := b
  unfold fkC at h
  obtain ⟨h1, h2⟩ := sizedC_part h
  obtain ⟨h3, h4⟩ := sizedC_part h2
  obtain ⟨h5, _⟩ := colsC_part a2 b2 (r := []) (s := []) (stops_nil _) (stops_nil _) (stops_nil _) (stops_nil _) (by rw [List.append_nil, List.append_nil]; exact h4)
  simp only at h1 h3
  rw [h1, h3, h5]

/-! ## Tables -/
abbrev DCol : Type := List UInt8 × (Int × (Bool × Unit))
abbrev DTab : Type := List UInt8 × (List DCol × (List Int × Unit))
def boolC (b : Bool) : List UInt8 := if b then [116, 114, 117, 101] else [102, 97, 108, 115, 101]
def colC (c : DCol) : List UInt8 := sizedC c.1 ++ (Lib.itoa c.2.1 ++ (boolC c.2.2.1 ++ [44]))
def pkC (l : List Int) : List UInt8 := (l.map fun i => Lib.itoa i ++ [44]).flatten
def tabC (t : DTab) : List UInt8 := sizedC t.1 ++ 40 :: (Lib.itoa (t.2.1.length : Int) ++ 44 :: ((t.2.1.map colC).flatten ++ (pkC t.2.2.1 ++ [41])))

theorem boolC_stops (b : Bool) (r : List UInt8) : stops dig (boolC b ++ r) := by cases b <;> exact stops_cons (by decide)
theorem boolC_part {a b : Bool} {r s : List UInt8} (h : boolC a ++ r = boolC b ++ s) : a = b ∧ r = s := by
  cases a <;> cases b <;> simp_all [boolC]
theorem colC_part {a b : DCol} {r s : List UInt8} (h : colC a ++ r = colC b ++ s) : a = b ∧ r = s := by
  obtain ⟨a1, a2, a3, ⟨⟩⟩ := a
  obtain ⟨b1, b2, b3, ⟨⟩⟩ := b
  unfold colC at h
  simp only [List.append_assoc] at h
  obtain ⟨h1, h2⟩ := sizedC_part h
  obtain ⟨h3, h4⟩ := itoa_part (boolC_stops _ _) (boolC_stops _ _) h2
  obtain ⟨h5, h6⟩ := boolC_part h4
  exact ⟨by rw [h1, h3, h5], (List.append_cancel_left h6)⟩
theorem colCs_part : (xs ys : List DCol) → {r s : List UInt8} → xs.length = ys.length → (xs.map colC).flatten ++ r = (ys.map colC).flatten ++ s → xs = ys ∧ r = s
  | [], [], _, _, _, h => ⟨rfl, h⟩
  | x :: xs, y :: ys, r, s, hl, h => by
    simp only [List.map_cons, List.flatten_cons, List.append_assoc] at h
    obtain ⟨h1, h2⟩ := colC_part h
    obtain ⟨h3, h4⟩ := colCs_part xs ys (by simpa using hl) h2
    exact ⟨by rw [h1, h3], h4⟩
theorem pkC_cons (i : Int) (l : List Int) : pkC (i :: l) = Lib.itoa i ++ 44 :: pkC l := by simp [pkC]
theorem itoa_head (i : Int) (r : List UInt8) {c : UInt8} {s : List UInt8} (hc : ¬ dig c) : Lib.itoa i ++ r ≠ c :: s := fun e => by
  cases h : Lib.itoa i with
  | nil => exact itoa_ne i h
  | cons x t =>
    rw [h] at e
    injection e with e1 _
    exact hc (e1 ▸ itoa_dig i x (by rw [h]; exact List.mem_cons_self))
theorem pkC_part : (a b : List Int) → {r s : List UInt8} → pkC a ++ 41 :: r = pkC b ++ 41 :: s → a = b ∧ r = s
  | [], [], _, _, h => ⟨rfl, (List.cons.inj h).2⟩
  | [], j :: b, r, s, h => by
    rw [pkC_cons, List.append_assoc] at h
    exact absurd h.symm (itoa_head j _ (by decide))
  | i :: a, [], r, s, h => by
    rw [pkC_cons, List.append_assoc] at h
    exact absurd h (itoa_head i _ (by decide))
  | i :: a, j :: b, r, s, h => by
    simp only [pkC_cons, List.append_assoc, List.cons_append] at h
    obtain ⟨h1, h2⟩ := itoa_part (stops_cons (by decide)) (stops_cons (by decide)) h
    obtain ⟨h3, h4⟩ := pkC_part a b (List.cons.inj h2).2
    exact ⟨by rw [h1, h3], h4⟩
theorem tabC_part {a b : DTab} {r s : List UInt8} (h : tabC a ++ r = tabC b ++ s) : a = b ∧ r = s := by
  obtain ⟨a1, a2, a3, ⟨⟩⟩ := a
  obtain ⟨b1, b2, b3, ⟨⟩⟩ := b
  unfold tabC at h
  simp only [List.append_assoc, List.cons_append, List.nil_append] at h
  obtain ⟨h1, h2⟩ := sizedC_part h
  obtain ⟨h3, h4⟩ := itoa_part (stops_cons (by decide)) (stops_cons (by decide)) (List.cons.inj h2).2
  obtain ⟨h5, h6⟩ := colCs_part a2 b2 (by omega) (List.cons.inj h4).2
  obtain ⟨h7, h8⟩ := pkC_part a3 b3 h6
  exact ⟨by rw [h1, h5, h7], h8⟩

/-! ## Steps -/
abbrev DVal : Type := Int × (Int × (List UInt8 × Unit))
abbrev DCon : Type := List UInt8 × (Int × (List UInt8 × (Int × (DVal × Unit))))
abbrev DStep : Type := Int × (List UInt8 × (List UInt8 × (List UInt8 × (List UInt8 × (Int × (List Int × (List UInt8 × (DVal × (DTab × (DCon × (DFk × Unit)))))))))))
def stepRow1 (x : DStep) : List DVal := [(x.1, (x.2.2.2.2.2.1, (x.2.1, ()))), (0, (0, (x.2.2.1, ()))), (0, (0, (x.2.2.2.1, ()))), (0, (0, (x.2.2.2.2.1, ()))), (0, (0, (x.2.2.2.2.2.2.2.1, ()))), x.2.2.2.2.2.2.2.2.1]
def stepRow2 (x : DStep) : List DVal := [(x.2.2.2.2.2.2.2.2.2.2.1.2.1, (x.2.2.2.2.2.2.2.2.2.2.1.2.2.2.1, (x.2.2.2.2.2.2.2.2.2.2.1.1, ()))), (0, (0, (x.2.2.2.2.2.2.2.2.2.2.1.2.2.1, ()))), x.2.2.2.2.2.2.2.2.2.2.1.2.2.2.2.1]
def stepC (x : DStep) : List UInt8 := encR (stepRow1 x) ++ (colsC x.2.2.2.2.2.2.1 ++ 59 :: (tabC x.2.2.2.2.2.2.2.2.2.1 ++ (encR (stepRow2 x) ++ fkC x.2.2.2.2.2.2.2.2.2.2.2.1)))
theorem stepC_inj {a b : DStep} (h : stepC a = stepC b) : a = b := by
  obtain ⟨a1, a2, a3, a4, a5, a6, a7, a8, a9, a10, ⟨c1, c2, c3, c4, c5, ⟨⟩⟩, a12, ⟨⟩⟩ := a
  obtain ⟨b1, b2, b3, b4, b5, b6, b7, b8, b9, b10, ⟨d1, d2, d3, d4, d5, ⟨⟩⟩, b12, ⟨⟩⟩ := b
  unfold stepC at h
  obtain ⟨h1, h2⟩ := encR_partN (by rfl) h
  obtain ⟨h3, h4⟩ := colsC_part _ _ (stops_cons (by decide)) (stops_cons (by decide)) (stops_cons (by decide)) (stops_cons (by decide)) h2
  obtain ⟨h5, h6⟩ := tabC_part (List.cons.inj h4).2
  obtain ⟨h7, h8⟩ := encR_partN (by rfl) h6
  have h9 := fkC_inj h8
  simp only [stepRow1, stepRow2, List.cons.injEq, Prod.mk.injEq, and_true, true_and] at h1 h7
  simp only at h3 h5 h9
  grind

/-! ## Lists held against each other -/
theorem equalLoop {α : Type} [DecidableEq α] {ne : α → α → Bool} (hne : ∀ a b, ne a b = !decide (a = b)) (xs ys : List α) (d : α) (hl : xs.length = ys.length) (hb : xs.length ≤ 1099511627776) {N : Nat} (hN : xs.length < N) :
    iterF (S := Int × Unit) (R := (Bool × Unit) × Unit) N (fun ih0 => fun p1 => (bif (ltI p1.1 (lenI xs)) then (bif ((inB p1.1 (lenI xs)) && (inB p1.1 (lenI ys))) then (bif (ne (lget xs p1.1 d) (lget ys p1.1 d)) then (some ((false, ()), ())) else (ih0 ((iadd .i64 p1.1 1), ()))) else none) else (some ((true, ()), ())))) (0, ()) = some ((decide (xs = ys), ()), ()) := by
  refine iterF_post (S := Int × Unit) (R := (Bool × Unit) × Unit) (fun p => xs.length - p.1.toNat) (fun p => ∃ i : Nat, p.1 = (i : Int) ∧ i ≤ xs.length ∧ xs.take i = ys.take i) (fun _ => ((decide (xs = ys), ()), ())) ?_ N _ ⟨0, rfl, Nat.zero_le _, by simp⟩ (by simp; omega)
  rintro ih ⟨_, _⟩ ⟨i, rfl, h2, h3⟩ hih
  simp only [Int.toNat_natCast] at hih ⊢
  by_cases hi : i < xs.length
  · have hj : i < ys.length := by omega
    rw [cond_pos (lt_len hi), inB_len hi, inB_len hj, lget_at d hi, lget_at d hj, hne]
    simp only [Bool.and_self, cond_true]
    by_cases e : xs[i] = ys[i]
    · rw [cond_neg (by simp [e]), iadd_nat (by omega), hih _ ⟨i + 1, rfl, by omega, by rw [take_snoc hi, take_snoc hj, h3, e]⟩ (by simp only [Int.toNat_natCast]; omega)]
    · rw [cond_pos (by simp [e])]
      have : xs ≠ ys := fun h => e (by subst h; rfl)
      simp [this]
  · rw [cond_neg (nlt_len hi)]
    have e1 : i = xs.length := by omega
    subst e1
    have : xs = ys := by
      have := h3
      rwa [List.take_length, hl, List.take_length] at this
    simp [this]

theorem cloneForm {α : Type} (xs : List α) (b : Nat) (h : xs.length * b ≤ 140737488355328) :
    (bif (eqI (lenI xs) 0) then (agree (some ((([] : List α), ()), ())) (bif (room2 (lenI ([] : List α)) (lenI xs) b) then (some (((lapp ([] : List α) xs), ()), ())) else none)) else (bif (room2 (lenI ([] : List α)) (lenI xs) b) then (some (((lapp ([] : List α) xs), ()), ())) else none)) = some ((xs, ()), ()) := by
  have e : room2 (lenI ([] : List α)) (lenI xs) b = true := room2_ok (by simpa using h)
  rw [e, cond_true, lapp_def, List.nil_append]
  cases xs with
  | nil => rw [cond_pos (by rw [eqI_dec, lenI_def]; rfl), agree_def, if_pos rfl]
  | cons x xs => rw [cond_neg (by rw [eqI_dec, lenI_def]; simp; omega)]

theorem roomS {a b : List UInt8} (ha : a.length ≤ 4398046511104) (hb : b.length ≤ 4398046511104) : room2 (lenI a) (lenI b) 1 = true := room2_ok (by omega)

/-! ## How long the codes are -/
theorem itoa_len {n : Int} (h : IntKind.i64.has n) : (Lib.itoa n).length ≤ 21 := by
  have h' : -9223372036854775808 ≤ n ∧ n ≤ 9223372036854775807 := by simpa [IntKind.has, IntKind.min, IntKind.max, IntKind.signed, IntKind.bits] using h
  exact Lib.itoa_length_le n h'.1 h'.2
theorem itoa_len_nat {n : Nat} (h : n ≤ maxLen) : (Lib.itoa (n : Int)).length ≤ 21 := by
  unfold maxLen at h
  exact Lib.itoa_length_le _ (by omega) (by omega)
theorem sizedC_len {s : List UInt8} (h : s.length ≤ maxLen) : (sizedC s).length ≤ s.length + 22 := by
  have := itoa_len_nat h
  unfold sizedC
  simp only [List.length_append, List.length_cons]
  omega
theorem encV_len {v : DVal} (h : IntKind.i64.has v.1 ∧ IntKind.i64.has v.2.1 ∧ v.2.2.1.length ≤ maxLen) : (encV v).length ≤ v.2.2.1.length + 67 := by
  have h1 := itoa_len h.1
  have h2 := itoa_len h.2.1
  have h3 := itoa_len_nat h.2.2
  unfold encV
  simp only [List.length_append, List.length_cons]
  omega
theorem colsC_len : {l : List Int} → (∀ i ∈ l, IntKind.i64.has i) → (colsC l).length ≤ 22 * l.length
  | [], _ => Nat.zero_le _
  | i :: l, h => by
    have h1 := itoa_len (h i List.mem_cons_self)
    have h2 := colsC_len (l := l) fun j hj => h j (List.mem_cons_of_mem _ hj)
    rw [colsC_cons]
    simp only [List.length_append, List.length_cons] at h2 ⊢
    omega
theorem pkC_len : {l : List Int} → (∀ i ∈ l, IntKind.i64.has i) → (pkC l).length ≤ 22 * l.length
  | [], _ => Nat.zero_le _
  | i :: l, h => by
    have h1 := itoa_len (h i List.mem_cons_self)
    have h2 := pkC_len (l := l) fun j hj => h j (List.mem_cons_of_mem _ hj)
    rw [pkC_cons]
    simp only [List.length_append, List.length_cons] at h2 ⊢
    omega
abbrev TCol : Ty := .pair .str (.pair (.int .i64) (.pair .bool .unit))
theorem colCs_len : {l : List DCol} → (∀ c ∈ l, TCol.good c) → ((l.map colC).flatten).length ≤ 50 * (l.map TCol.bulk).sum
  | [], _ => Nat.zero_le _
  | c :: l, h => by
    have h0 := h c List.mem_cons_self
    obtain ⟨c1, c2, c3, ⟨⟩⟩ := c
    have h1 := sizedC_len (s := c1) h0.1
    have h2 := itoa_len (n := c2) h0.2.1
    have h3 : (boolC c3).length ≤ 5 := by cases c3 <;> decide
    have h4 := colCs_len (l := l) fun j hj => h j (List.mem_cons_of_mem _ hj)
    have h5 : TCol.bulk (c1, c2, c3, PUnit.unit) = c1.length + 1 + (1 + (1 + 1)) := rfl
    simp only [List.map_cons, List.flatten_cons, colC, List.length_append, List.length_cons, List.length_nil, List.sum_cons] at h4 ⊢
    omega

theorem ints_bulk : (l : List Int) → (l.map (Ty.bulk (.int .i64))).sum = l.length
  | [] => rfl
  | i :: l => by
    have : Ty.bulk (.int .i64) i = 1 := rfl
    rw [List.map_cons, List.sum_cons, ints_bulk l, this, List.length_cons]; omega
abbrev TVal : Ty := .pair (.int .i64) (.pair (.int .i64) (.pair .str .unit))
abbrev TTab : Ty := .pair .str (.pair (.slice TCol) (.pair (.slice (.int .i64)) .unit))
abbrev TFk : Ty := .pair .str (.pair (.slice (.int .i64)) (.pair .str .unit))
abbrev TCon : Ty := .pair .str (.pair (.int .i64) (.pair .str (.pair (.int .i64) (.pair TVal .unit))))
abbrev TStep : Ty := .pair (.int .i64) (.pair .str (.pair .str (.pair .str (.pair .str (.pair (.int .i64) (.pair (.slice (.int .i64)) (.pair .str (.pair TVal (.pair TTab (.pair TCon (.pair TFk .unit)))))))))))

theorem tabC_len {t : DTab} (h : TTab.good t) : (tabC t).length ≤ 50 * TTab.bulk t := by
  obtain ⟨t1, t2, t3, ⟨⟩⟩ := t
  have h1 := sizedC_len (s := t1) h.1
  have h2 := itoa_len_nat (n := t2.length) h.2.1.1
  have h3 := colCs_len (l := t2) h.2.1.2
  have h4 := pkC_len (l := t3) h.2.2.1.2
  have h5 : TTab.bulk (t1, t2, t3, PUnit.unit) = t1.length + 1 + ((t2.map TCol.bulk).sum + 1 + ((t3.map (Ty.bulk (.int .i64))).sum + 1 + 1)) := rfl
  rw [ints_bulk] at h5
  simp only [tabC, List.length_append, List.length_cons, List.length_nil]
  omega
theorem fkC_len {f : DFk} (h : TFk.good f) : (fkC f).length ≤ 50 * TFk.bulk f := by
  obtain ⟨f1, f2, f3, ⟨⟩⟩ := f
  have h1 := sizedC_len (s := f1) h.1
  have h2 := sizedC_len (s := f3) h.2.2.1
  have h3 := colsC_len (l := f2) h.2.1.2
  have h5 : TFk.bulk (f1, f2, f3, PUnit.unit) = f1.length + 1 + ((f2.map (Ty.bulk (.int .i64))).sum + 1 + (f3.length + 1 + 1)) := rfl
  rw [ints_bulk] at h5
  simp only [fkC, List.length_append]
  omega
theorem has_zero : IntKind.i64.has 0 := ⟨by decide, by decide⟩
theorem stepC_len {x : DStep} (h : TStep.good x) : (stepC x).length ≤ 50 * TStep.bulk x + 1000 := by
  obtain ⟨a1, a2, a3, a4, a5, a6, a7, a8, ⟨v1, v2, v3, ⟨⟩⟩, a10, ⟨c1, c2, c3, c4, ⟨d1, d2, d3, ⟨⟩⟩, ⟨⟩⟩, a12, ⟨⟩⟩ := x
  obtain ⟨h1, h2, h3, h4, h5, h6, h7, h8, ⟨hv1, hv2, hv3, _⟩, h10, ⟨hc1, hc2, hc3, hc4, ⟨hd1, hd2, hd3, _⟩, _⟩, h12, _⟩ := h
  have e1 := encV_len (v := (a1, a6, a2, ())) ⟨h1, h6, h2⟩
  have e2 := encV_len (v := (0, 0, a3, ())) ⟨has_zero, has_zero, h3⟩
  have e3 := encV_len (v := (0, 0, a4, ())) ⟨has_zero, has_zero, h4⟩
  have e4 := encV_len (v := (0, 0, a5, ())) ⟨has_zero, has_zero, h5⟩
  have e5 := encV_len (v := (0, 0, a8, ())) ⟨has_zero, has_zero, h8⟩
  have e6 := encV_len (v := (v1, v2, v3, PUnit.unit)) ⟨hv1, hv2, hv3⟩
  have e7 := encV_len (v := (c2, c4, c1, ())) ⟨hc2, hc4, hc1⟩
  have e8 := encV_len (v := (0, 0, c3, ())) ⟨has_zero, has_zero, hc3⟩
  have e9 := encV_len (v := (d1, d2, d3, PUnit.unit)) ⟨hd1, hd2, hd3⟩
  have g1 := colsC_len (l := a7) h7.2
  have g2 := tabC_len (t := a10) h10
  have g3 := fkC_len (f := a12) h12
  have g4 : (Lib.itoa 6).length ≤ 21 := itoa_len_nat (n := 6) (by unfold maxLen; omega)
  have g5 : (Lib.itoa 3).length ≤ 21 := itoa_len_nat (n := 3) (by unfold maxLen; omega)
  have hb : TStep.bulk (a1, a2, a3, a4, a5, a6, a7, a8, (v1, v2, v3, PUnit.unit), a10, (c1, c2, c3, c4, (d1, d2, d3, PUnit.unit), PUnit.unit), a12, PUnit.unit) = 1 + (a2.length + 1 + (a3.length + 1 + (a4.length + 1 + (a5.length + 1 + (1 + ((a7.map (Ty.bulk (.int .i64))).sum + 1 + (a8.length + 1 + ((1 + (1 + (v3.length + 1 + 1))) + (TTab.bulk a10 + ((c1.length + 1 + (1 + (c3.length + 1 + (1 + ((1 + (1 + (d3.length + 1 + 1))) + 1))))) + (TFk.bulk a12 + 1))))))))))) := rfl
  rw [ints_bulk] at hb
  simp only [stepC, stepRow1, stepRow2, encR, List.length_append, List.length_cons, List.length_nil, List.map_cons, List.map_nil, List.flatten_cons, List.flatten_nil] at e1 e2 e3 e4 e5 e6 e7 e8 e9 ⊢
  have q1 : (((0 + 1 + 1 + 1 + 1 + 1 + 1 : Nat)) : Int) = 6 := rfl
  have q2 : (((0 + 1 + 1 + 1 : Nat)) : Int) = 3 := rfl
  rw [q1, q2]
  omega

/-! ## Schemas -/
theorem fkC_part {a b : DFk} {r s : List UInt8} (h : fkC a ++ 59 :: r = fkC b ++ 59 :: s) : a = b ∧ r = s := by
  obtain ⟨a1, a2, a3, ⟨⟩⟩ := a
  obtain ⟨b1, b2, b3, ⟨⟩⟩ := b
  unfold fkC at h
  simp only [List.append_assoc] at h
  obtain ⟨h1, h2⟩ := sizedC_part h
  obtain ⟨h3, h4⟩ := sizedC_part h2
  obtain ⟨h5, h6⟩ := colsC_part a2 b2 (stops_cons (by decide)) (stops_cons (by decide)) (stops_cons (by decide)) (stops_cons (by decide)) h4
  exact ⟨by rw [h1, h3, h5], (List.cons.inj h6).2⟩
def conC (c : DCon) : List UInt8 := sizedC c.1 ++ (sizedC c.2.2.1 ++ (Lib.itoa c.2.1 ++ 32 :: (Lib.itoa c.2.2.2.1 ++ encR [c.2.2.2.2.1])))
theorem encR_one (v : DVal) : encR [v] = 49 :: encV v := by
  have : Lib.itoa ((([v] : List DVal).length : Nat) : Int) = [49] := by show Lib.itoa 1 = [49]; decide +kernel
  unfold encR
  rw [this]
  simp
theorem conC_part {a b : DCon} {r s : List UInt8} (h : conC a ++ r = conC b ++ s) : a = b ∧ r = s := by
  obtain ⟨a1, a2, a3, a4, a5, ⟨⟩⟩ := a
  obtain ⟨b1, b2, b3, b4, b5, ⟨⟩⟩ := b
  unfold conC at h
  simp only [List.append_assoc, encR_one, List.cons_append] at h
  obtain ⟨h1, h2⟩ := sizedC_part h
  obtain ⟨h3, h4⟩ := sizedC_part h2
  obtain ⟨h5, h6⟩ := itoa_part (stops_cons (by decide)) (stops_cons (by decide)) h4
  have h7 := (List.cons.inj h6).2
  have st : ∀ (v : DVal) (x : List UInt8), stops dig (encV v ++ x) := fun v x => by unfold encV; exact stops_cons (by decide)
  have e1 : ∀ (n : Int) (x : List UInt8), Lib.itoa n ++ 49 :: x = (Lib.itoa n ++ [49]) ++ x := fun n x => by simp
  rw [e1 a4 (encV a5 ++ r), e1 b4 (encV b5 ++ s)] at h7
  obtain ⟨h8, h9⟩ := part (P := dig) (Lib.itoa a4 ++ [49]) (Lib.itoa b4 ++ [49]) (fun x hx => by
    rcases List.mem_append.1 hx with hx | hx
    · exact itoa_dig _ _ hx
    · simp at hx; subst hx; exact .inr (by decide)) (fun x hx => by
    rcases List.mem_append.1 hx with hx | hx
    · exact itoa_dig _ _ hx
    · simp at hx; subst hx; exact .inr (by decide)) (st _ _) (st _ _) h7
  have h10 := itoa_inj (List.append_cancel_right h8)
  obtain ⟨h11, h12⟩ := encV_part h9
  exact ⟨by rw [h1, h3, h5, h10, h11], h12⟩
/-- Codes of a known number of things, each of which can be told from what follows. -/
theorem flat_part {α : Type} (f : α → List UInt8) (hf : ∀ {a b : α} {r s : List UInt8}, f a ++ r = f b ++ s → a = b ∧ r = s) : (xs ys : List α) → {r s : List UInt8} → xs.length = ys.length → (xs.map f).flatten ++ r = (ys.map f).flatten ++ s → xs = ys ∧ r = s
  | [], [], _, _, _, h => ⟨rfl, h⟩
  | x :: xs, y :: ys, r, s, hl, h => by
    simp only [List.map_cons, List.flatten_cons, List.append_assoc] at h
    obtain ⟨h1, h2⟩ := hf h
    obtain ⟨h3, h4⟩ := flat_part f hf xs ys (by simpa using hl) h2
    exact ⟨by rw [h1, h3], h4⟩
abbrev DSch : Type := List DTab × (List DFk × (List DCon × Unit))
def fkS (f : DFk) : List UInt8 := fkC f ++ [59]
def schC (s : DSch) : List UInt8 := Lib.itoa (s.1.length : Int) ++ 59 :: (Lib.itoa (s.2.1.length : Int) ++ 59 :: (Lib.itoa (s.2.2.1.length : Int) ++ 59 :: ((s.1.map tabC).flatten ++ ((s.2.1.map fkS).flatten ++ (s.2.2.1.map conC).flatten))))
theorem schC_inj {a b : DSch} (h : schC a = schC b) : a = b := by
  obtain ⟨a1, a2, a3, ⟨⟩⟩ := a
  obtain ⟨b1, b2, b3, ⟨⟩⟩ := b
  unfold schC at h
  obtain ⟨h1, h2⟩ := itoa_part (stops_cons (by decide)) (stops_cons (by decide)) h
  obtain ⟨h3, h4⟩ := itoa_part (stops_cons (by decide)) (stops_cons (by decide)) (List.cons.inj h2).2
  obtain ⟨h5, h6⟩ := itoa_part (stops_cons (by decide)) (stops_cons (by decide)) (List.cons.inj h4).2
  simp only at h1 h3 h5
  obtain ⟨h7, h8⟩ := flat_part tabC (fun h => tabC_part h) a1 b1 (by omega) (List.cons.inj h6).2
  obtain ⟨h9, h10⟩ := flat_part fkS (fun {x y r s} h => by
    unfold fkS at h
    simp only [List.append_assoc, List.cons_append, List.nil_append] at h
    exact fkC_part h) a2 b2 (by omega) h8
  obtain ⟨h11, _⟩ := flat_part conC (fun h => conC_part h) a3 b3 (r := []) (s := []) (by omega) (by simpa using h10)
  rw [h7, h9, h11]
theorem conC_len {c : DCon} (h : TCon.good c) : (conC c).length ≤ 150 * TCon.bulk c := by
  obtain ⟨c1, c2, c3, c4, ⟨d1, d2, d3, ⟨⟩⟩, ⟨⟩⟩ := c
  obtain ⟨h1, h2, h3, h4, ⟨k1, k2, k3, _⟩, _⟩ := h
  have e1 := sizedC_len (s := c1) h1
  have e2 := sizedC_len (s := c3) h3
  have e3 : (Lib.itoa c2).length ≤ 21 := itoa_len h2
  have e4 : (Lib.itoa c4).length ≤ 21 := itoa_len h4
  have e5 : (encV (d1, d2, d3, PUnit.unit)).length ≤ d3.length + 67 := encV_len (v := (d1, d2, d3, PUnit.unit)) ⟨k1, k2, k3⟩
  have hb : TCon.bulk (c1, c2, c3, c4, (d1, d2, d3, PUnit.unit), PUnit.unit) = c1.length + 1 + (1 + (c3.length + 1 + (1 + ((1 + (1 + (d3.length + 1 + 1))) + 1)))) := rfl
  simp only [conC, encR_one, List.length_append, List.length_cons]
  omega
theorem flat_len {α : Type} (f : α → List UInt8) (m : α → Nat) (c : Nat) : (l : List α) → (∀ x ∈ l, (f x).length ≤ c * m x) → ((l.map f).flatten).length ≤ c * (l.map m).sum
  | [], _ => Nat.zero_le _
  | x :: l, h => by
    have h1 := h x List.mem_cons_self
    have h2 := flat_len f m c l fun y hy => h y (List.mem_cons_of_mem _ hy)
    simp only [List.map_cons, List.flatten_cons, List.length_append, List.sum_cons, Nat.mul_add] at h2 ⊢
    omega
abbrev TSch : Ty := .pair (.slice TTab) (.pair (.slice TFk) (.pair (.slice TCon) .unit))
theorem tab_bulk_pos (t : DTab) : 1 ≤ TTab.bulk t := bulk_pos TTab t
theorem fkS_len {f : DFk} (h : TFk.good f) : (fkS f).length ≤ 150 * TFk.bulk f := by
  have h1 := fkC_len h
  have h2 := bulk_pos TFk f
  unfold fkS
  simp only [List.length_append, List.length_cons, List.length_nil]
  omega
theorem sch_bulk (a : List DTab) (b : List DFk) (c : List DCon) : TSch.bulk (a, b, c, PUnit.unit) = (a.map TTab.bulk).sum + 1 + ((b.map TFk.bulk).sum + 1 + ((c.map TCon.bulk).sum + 1 + 1)) := rfl
theorem schC_len {s : DSch} (h : TSch.good s) : (schC s).length ≤ 150 * TSch.bulk s + 100 := by
  obtain ⟨a, b, c, ⟨⟩⟩ := s
  obtain ⟨⟨h1, h2⟩, ⟨h3, h4⟩, ⟨h5, h6⟩, _⟩ := h
  have e1 := itoa_len_nat (n := a.length) h1
  have e2 := itoa_len_nat (n := b.length) h3
  have e3 := itoa_len_nat (n := c.length) h5
  have e4 := flat_len tabC TTab.bulk 150 a fun t ht => Nat.le_trans (tabC_len (h2 t ht)) (Nat.mul_le_mul_right _ (by omega))
  have e5 := flat_len fkS TFk.bulk 150 b fun t ht => fkS_len (h4 t ht)
  have e6 := flat_len conC TCon.bulk 150 c fun t ht => conC_len (h6 t ht)
  rw [sch_bulk]
  simp only [schC, List.length_append, List.length_cons]
  omega


/-! ## Texts in order -/
theorem cb_cases (a b : List UInt8) : Lib.compareBytes a b = -1 ∨ Lib.compareBytes a b = 0 ∨ Lib.compareBytes a b = 1 := by
  induction a generalizing b with
  | nil => cases b <;> simp [Lib.compareBytes]
  | cons x a ih => cases b with
    | nil => simp [Lib.compareBytes]
    | cons y b =>
      simp only [Lib.compareBytes]
      split
      · simp
      · split
        · simp
        · exact ih b
theorem cb_swap (a b : List UInt8) : Lib.compareBytes b a = - Lib.compareBytes a b := by
  induction a generalizing b with
  | nil => cases b <;> simp [Lib.compareBytes]
  | cons x a ih => cases b with
    | nil => simp [Lib.compareBytes]
    | cons y b =>
      simp only [Lib.compareBytes]
      by_cases h1 : x < y
      · have h2 : ¬ y < x := fun h => by have := UInt8.lt_iff_toNat_lt.1 h; have := UInt8.lt_iff_toNat_lt.1 h1; omega
        simp [h1, h2]
      · by_cases h2 : y < x
        · simp [h1, h2]
        · simp [h1, h2, ih b]
theorem cb_zero (a b : List UInt8) : Lib.compareBytes a b = 0 ↔ a = b := by
  induction a generalizing b with
  | nil => cases b <;> simp [Lib.compareBytes]
  | cons x a ih => cases b with
    | nil => simp [Lib.compareBytes]
    | cons y b =>
      simp only [Lib.compareBytes]
      by_cases h1 : x < y
      · have : x ≠ y := fun e => by subst e; have := UInt8.lt_iff_toNat_lt.1 h1; omega
        simp [h1, this]
      · by_cases h2 : y < x
        · have : x ≠ y := fun e => by subst e; have := UInt8.lt_iff_toNat_lt.1 h2; omega
          simp [h1, h2, this]
        · have : x = y := UInt8.toNat_inj.1 (by
            have h1 : ¬ x.toNat < y.toNat := fun h => h1 (UInt8.lt_iff_toNat_lt.2 h)
            have h2 : ¬ y.toNat < x.toNat := fun h => h2 (UInt8.lt_iff_toNat_lt.2 h)
            omega)
          simp [h1, h2, ih b, this]
theorem bless_cb (a b : List UInt8) : bless a b = decide (Lib.compareBytes a b < 0) := by
  rw [bless_def]
  induction a generalizing b with
  | nil => cases b <;> simp [Lib.compareBytes, Op.bytesLess]
  | cons x a ih => cases b with
    | nil => simp [Lib.compareBytes, Op.bytesLess]
    | cons y b =>
      simp only [Lib.compareBytes, Op.bytesLess]
      by_cases h1 : x < y
      · simp [h1]
      · by_cases h2 : y < x
        · have : x ≠ y := fun e => by subst e; have := UInt8.lt_iff_toNat_lt.1 h2; omega
          simp [h1, h2, this]
        · have : x = y := UInt8.toNat_inj.1 (by
            have h1 : ¬ x.toNat < y.toNat := fun h => h1 (UInt8.lt_iff_toNat_lt.2 h)
            have h2 : ¬ y.toNat < x.toNat := fun h => h2 (UInt8.lt_iff_toNat_lt.2 h)
            omega)
          simp [h1, h2, ih b, this]

theorem bless_total (a b : List UInt8) : (bless a b || eqS a b) = !bless b a := by
  rw [bless_cb, bless_cb, cb_swap a b, eqS_dec]
  rcases cb_cases a b with h | h | h
  · simp [h]
  · rw [h]; simp [(cb_zero a b).1 h]
  · have : a ≠ b := fun e => by rw [(cb_zero a b).2 e] at h; omega
    simp [h, this]

end Go.Vi
