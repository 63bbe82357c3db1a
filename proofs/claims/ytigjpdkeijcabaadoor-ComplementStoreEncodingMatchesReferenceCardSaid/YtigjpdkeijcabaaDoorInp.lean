/- Names, instances: what is valid, how it is encoded, that the parsers read it back. -/
import Derived.Test.YtigjpdkeijcabaaDoorDec
set_option linter.unusedVariables false
set_option linter.unusedSimpArgs false
set_option linter.unnecessarySimpa false
set_option linter.unusedSectionVars false
set_option linter.unusedSimpArgs false
namespace Go.Proofs.YtigjpdkeijcabaaDoor
open Go.Vi
noncomputable section

abbrev Row' : Type := List D_api_Value
abbrev Rel' : Type := (List UInt8) × ((List Row') × Unit)
abbrev Dec' : Type := D_encoding_decoder

/-! ## Names -/
def lower (c : UInt8) : Bool := decide (97 ≤ c.toNat) && decide (c.toNat ≤ 122)
def digit (c : UInt8) : Bool := decide (48 ≤ c.toNat) && decide (c.toNat ≤ 57)
def nameOk (s : List UInt8) : Bool := match s with
  | [] => false
  | c :: r => decide ((c :: r).length ≤ 12) && (lower c && r.all fun c => lower c || digit c)

theorem nameOk_len {s : List UInt8} (h : nameOk s = true) : s.length ≤ 12 ∧ s ≠ [] := by
  cases s with
  | nil => cases h
  | cons c r =>
    simp only [nameOk, Bool.and_eq_true, decide_eq_true_eq] at h
    exact ⟨h.1, by simp⟩

/-! ## Instances -/
def rowsErr : List Row' → Int
  | [] => 0
  | r :: t => if rowErr r ≠ 0 then rowErr r else rowsErr t
def relErr (t : Rel') : Int := if nameOk t.1 = true then (if 24 < t.2.1.length then 2 else rowsErr t.2.1) else 3
def relsErr : List Rel' → Int
  | [] => 0
  | t :: r => if relErr t ≠ 0 then relErr t else relsErr r
def instErr (s : List Rel') : Int := if 6 < s.length then 2 else relsErr s

theorem rowsErr_zero : {rs : List Row'} → rowsErr rs = 0 → ∀ r ∈ rs, rowErr r = 0
  | [], _, _, h => by cases h
  | r :: t, h, u, hu => by
    simp only [rowsErr] at h
    split at h
    · rename_i h0; exact absurd h h0
    · rename_i h0
      rcases List.mem_cons.1 hu with rfl | hu
      · exact Classical.byContradiction h0
      · exact rowsErr_zero h u hu
theorem relErr_zero {t : Rel'} (h : relErr t = 0) : nameOk t.1 = true ∧ t.2.1.length ≤ 24 ∧ ∀ r ∈ t.2.1, rowErr r = 0 := by
  unfold relErr at h
  split at h
  · split at h
    · cases h
    · exact ⟨by assumption, by omega, rowsErr_zero h⟩
  · cases h
theorem relsErr_zero : {rs : List Rel'} → relsErr rs = 0 → ∀ r ∈ rs, relErr r = 0
  | [], _, _, h => by cases h
  | r :: t, h, u, hu => by
    simp only [relsErr] at h
    split at h
    · rename_i h0; exact absurd h h0
    · rename_i h0
      rcases List.mem_cons.1 hu with rfl | hu
      · exact Classical.byContradiction h0
      · exact relsErr_zero h u hu
theorem instErr_zero {s : List Rel'} (h : instErr s = 0) : s.length ≤ 6 ∧ ∀ r ∈ s, relErr r = 0 := by
  unfold instErr at h
  split at h
  · cases h
  · exact ⟨by omega, relsErr_zero h⟩

/-! ## The encoding -/
def encS (s : List UInt8) : List Int := (s.length : Int) :: bytesOf s
def encT (t : Rel') : List Int := encS t.1 ++ ((t.2.1.length : Int) :: t.2.1.flatMap encR)
def encI (s : List Rel') : List Int := (s.length : Int) :: s.flatMap encT

theorem bytesOf_len (s : List UInt8) : (bytesOf s).length = s.length := by simp [bytesOf]
theorem encS_byt {s : List UInt8} (h : s.length < 256) : Byt (encS s) := Byt.cons (by omega) (bytesOf_byt s)
theorem rows_byt {rs : List Row'} (h : ∀ r ∈ rs, rowErr r = 0) : Byt (rs.flatMap encR) := fun c hc => by
  obtain ⟨r, hr, hc⟩ := List.mem_flatMap.1 hc
  obtain ⟨h1, h2⟩ := rowErr_zero (h r hr)
  exact encR_byt (by omega) h2 c hc
theorem encT_byt {t : Rel'} (h : relErr t = 0) : Byt (encT t) := by
  obtain ⟨h1, h2, h3⟩ := relErr_zero h
  have := (nameOk_len h1).1
  exact (encS_byt (by omega)).append (Byt.cons (by omega) (rows_byt h3))
theorem encI_byt {s : List Rel'} (h : instErr s = 0) : Byt (encI s) := by
  obtain ⟨h1, h2⟩ := instErr_zero h
  refine Byt.cons (by omega) fun c hc => ?_
  obtain ⟨r, hr, hc⟩ := List.mem_flatMap.1 hc
  exact encT_byt (h2 r hr) c hc

theorem encR_len {r : Row'} (h : rowErr r = 0) : (encR r).length ≤ 400 := by
  obtain ⟨h1, h2⟩ := rowErr_zero h
  have := flat_len h2
  simp only [encR, List.length_cons]
  omega
theorem rows_len {rs : List Row'} (h : ∀ r ∈ rs, rowErr r = 0) : (rs.flatMap encR).length ≤ 400 * rs.length := by
  induction rs with
  | nil => simp
  | cons r t ih =>
    have h1 := encR_len (h r List.mem_cons_self)
    have h2 := ih fun u hu => h u (List.mem_cons_of_mem _ hu)
    simp only [List.flatMap_cons, List.length_append, List.length_cons]
    omega
theorem encT_len {t : Rel'} (h : relErr t = 0) : (encT t).length ≤ 10000 := by
  obtain ⟨h1, h2, h3⟩ := relErr_zero h
  have h4 := (nameOk_len h1).1
  have h5 := rows_len h3
  simp only [encT, encS, List.length_append, List.length_cons, bytesOf_len]
  omega
theorem rels_len {rs : List Rel'} (h : ∀ r ∈ rs, relErr r = 0) : (rs.flatMap encT).length ≤ 10000 * rs.length := by
  induction rs with
  | nil => simp
  | cons r t ih =>
    have h1 := encT_len (h r List.mem_cons_self)
    have h2 := ih fun u hu => h u (List.mem_cons_of_mem _ hu)
    simp only [List.flatMap_cons, List.length_append, List.length_cons]
    omega

theorem flatMap_take {α : Type} {xs : List α} {f : α → List Int} {i : Nat} (hi : i < xs.length) : (xs.take (i + 1)).flatMap f = (xs.take i).flatMap f ++ f xs[i] := by
  rw [List.take_add_one, List.getElem?_eq_getElem hi, List.flatMap_append]
  simp only [Option.toList, List.flatMap_cons, List.flatMap_nil, List.append_nil]

/-! ## The program's parser -/
def pRow' (d : Dec') : Row' × Dec' := ((pRow (pByte d).1.1.toNat (pByte d).2.1 []).1.1, (pRow (pByte d).1.1.toNat (pByte d).2.1 []).2.1)
def pRows : Nat → Dec' → List Row' → List Row' × Dec'
  | 0, d, rs => (rs, d)
  | c + 1, d, rs => if d.2.1 = true then (rs, d) else pRows c (pRow' d).2 (rs ++ [(pRow' d).1])
def pName (d : Dec') : (List UInt8) × Dec' := ((pStr (pByte d).2.1 (pByte d).1.1).1.1, (pStr (pByte d).2.1 (pByte d).1.1).2.1)
def pRowsB (d : Dec') : List Row' × Dec' := pRows (pByte d).1.1.toNat (pByte d).2.1 []
def pTab (d : Dec') : Rel' × Dec' := (((pName d).1, ((pRowsB (pName d).2).1, ())), (pRowsB (pName d).2).2)
def pTabs : Nat → Dec' → List Rel' → List Rel' × Dec'
  | 0, d, rs => (rs, d)
  | c + 1, d, rs => if d.2.1 = true then (rs, d) else pTabs c (pTab d).2 (rs ++ [(pTab d).1])
def pInst (d : Dec') : List Rel' × Dec' := pTabs (pByte d).1.1.toNat (pByte d).2.1 []

theorem pRow_byt : (c : Nat) → (d : Dec') → (row : Row') → Byt d.1 → Byt (pRow c d row).2.1.1
  | 0, _, _, h => h
  | c + 1, d, row, h => by
    unfold pRow
    split
    · exact h
    · exact pRow_byt c _ _ (pVal_byt h)
theorem pRow'_byt {d : Dec'} (h : Byt d.1) : Byt (pRow' d).2.1 := pRow_byt _ _ _ (pByte_byt h).2
theorem pStr_byt {d : Dec'} (n : Int) (h : Byt d.1) : Byt (pStr d n).2.1.1 := by
  unfold pStr
  split
  · exact h
  · exact h.drop _
theorem pName_byt {d : Dec'} (h : Byt d.1) : Byt (pName d).2.1 := pStr_byt _ (pByte_byt h).2
theorem pRows_byt : (c : Nat) → (d : Dec') → (rs : List Row') → Byt d.1 → Byt (pRows c d rs).2.1
  | 0, _, _, h => h
  | c + 1, d, row, h => by
    unfold pRows
    split
    · exact h
    · exact pRows_byt c _ _ (pRow'_byt h)
theorem pRowsB_byt {d : Dec'} (h : Byt d.1) : Byt (pRowsB d).2.1 := pRows_byt _ _ _ (pByte_byt h).2
theorem pTab_byt {d : Dec'} (h : Byt d.1) : Byt (pTab d).2.1 := pRowsB_byt (pName_byt h)

theorem pRow'_enc {r : Row'} (h : rowErr r = 0) (rest : List Int) : pRow' (encR r ++ rest, (false, ())) = (r, (rest, (false, ()))) := by
  unfold pRow'
  rw [row_enc (rowErr_zero h).2]
theorem pRows_enc : (rs : List Row') → (∀ r ∈ rs, rowErr r = 0) → (rest : List Int) → (acc : List Row') → pRows rs.length (rs.flatMap encR ++ rest, (false, ())) acc = (acc ++ rs, (rest, (false, ())))
  | [], _, rest, acc => by simp [pRows]
  | r :: rs, h, rest, acc => by
    rw [List.length_cons, pRows, if_neg (by simp), List.flatMap_cons, List.append_assoc, pRow'_enc (h r List.mem_cons_self), pRows_enc rs (fun u hu => h u (List.mem_cons_of_mem _ hu)), List.append_assoc]
    rfl
theorem pName_enc (s : List UInt8) (rest : List Int) : pName (encS s ++ rest, (false, ())) = (s, (rest, (false, ()))) := by
  have e1 : pByte (encS s ++ rest, (false, ())) = (((s.length : Int), ()), ((bytesOf s ++ rest, (false, ())), ())) := rfl
  have hl := bytesOf_len s
  have e2 : pStr (bytesOf s ++ rest, (false, ())) (s.length : Int) = ((s, ()), ((rest, (false, ())), ())) := by
    unfold pStr
    rw [if_neg (by simp only [List.length_append, hl]; omega)]
    simp only [Int.toNat_natCast, ← hl, List.take_left, List.drop_left, intsB_bytesOf]
  unfold pName
  simp only [e1, e2]
theorem pTab_enc {t : Rel'} (h : relErr t = 0) (rest : List Int) : pTab (encT t ++ rest, (false, ())) = (t, (rest, (false, ()))) := by
  obtain ⟨h1, h2, h3⟩ := relErr_zero h
  obtain ⟨s, rs, _⟩ := t
  have e1 : encT (s, (rs, ())) ++ rest = encS s ++ (((rs.length : Int) :: rs.flatMap encR) ++ rest) := by simp [encT]
  have e2 : pByte (((rs.length : Int) :: rs.flatMap encR) ++ rest, (false, ())) = (((rs.length : Int), ()), ((rs.flatMap encR ++ rest, (false, ())), ())) := rfl
  unfold pTab
  rw [e1, pName_enc]
  simp only [pRowsB, e2, Int.toNat_natCast, pRows_enc rs h3, List.nil_append]
theorem pTabs_enc : (ts : List Rel') → (∀ t ∈ ts, relErr t = 0) → (rest : List Int) → (acc : List Rel') → pTabs ts.length (ts.flatMap encT ++ rest, (false, ())) acc = (acc ++ ts, (rest, (false, ())))
  | [], _, rest, acc => by simp [pTabs]
  | t :: ts, h, rest, acc => by
    rw [List.length_cons, pTabs, if_neg (by simp), List.flatMap_cons, List.append_assoc, pTab_enc (h t List.mem_cons_self), pTabs_enc ts (fun u hu => h u (List.mem_cons_of_mem _ hu)), List.append_assoc]
    rfl
theorem pInst_enc {s : List Rel'} (h : instErr s = 0) (rest : List Int) : pInst (encI s ++ rest, (false, ())) = (s, (rest, (false, ()))) := by
  obtain ⟨h1, h2⟩ := instErr_zero h
  have e : pByte (encI s ++ rest, (false, ())) = (((s.length : Int), ()), ((s.flatMap encT ++ rest, (false, ())), ())) := rfl
  simp only [pInst, e, Int.toNat_natCast, pTabs_enc s h2, List.nil_append]

/-! ## The reference's parser -/
def rName (x : List Int) : (List UInt8) × ((List Int) × (Bool × Unit)) :=
  if x.length = 0 ∨ (x.length : Int) - 1 < lget x 0 0 then ([], ([], (false, ()))) else (intsB ((x.drop 1).take (lget x 0 0).toNat), (x.drop (1 + (lget x 0 0).toNat), (true, ())))
def rRows : Nat → List Int → List Row' → Option (List Row' × List Int)
  | 0, x, rs => some (rs, x)
  | c + 1, x, rs => if (rRow0 x).2.2.1 = true then rRows c (rRow0 x).2.1 (rs ++ [(rRow0 x).1]) else none
def rTab (x : List Int) : Option (Rel' × List Int) :=
  if (rName x).2.2.1 = true ∧ (rName x).2.1.length ≠ 0 ∧ lget (rName x).2.1 0 0 ≤ 24 then
    (match rRows (lget (rName x).2.1 0 0).toNat ((rName x).2.1.drop 1) [] with
      | some (rs, y) => some (((rName x).1, (rs, ())), y)
      | none => none)
  else none
def rTabs : Nat → List Int → List Rel' → Option (List Rel' × List Int)
  | 0, x, ts => some (ts, x)
  | c + 1, x, ts => match rTab x with
    | some (t, y) => rTabs c y (ts ++ [t])
    | none => none

theorem rName_byt {x : List Int} (hx : Byt x) : Byt (rName x).2.1 ∧ (rName x).2.1.length ≤ x.length := by
  unfold rName
  split
  · exact ⟨Byt.nil, Nat.zero_le _⟩
  · exact ⟨hx.drop _, by simp only [List.length_drop]; omega⟩
theorem rRow_byt : (c : Nat) → (x : List Int) → (row : Row') → Byt x → Byt (rRow c x row).2.1 ∧ (rRow c x row).2.1.length ≤ x.length
  | 0, x, _, h => ⟨h, Nat.le_refl _⟩
  | c + 1, x, row, h => by
    unfold rRow
    split
    · obtain ⟨h1, h2⟩ := rVal_byt h
      obtain ⟨h3, h4⟩ := rRow_byt c (rVal x).2.1 (row ++ [(rVal x).1]) h1
      exact ⟨h3, Nat.le_trans h4 h2⟩
    · exact ⟨Byt.nil, Nat.zero_le _⟩
theorem rRow0_byt {x : List Int} (hx : Byt x) : Byt (rRow0 x).2.1 ∧ (rRow0 x).2.1.length ≤ x.length := by
  unfold rRow0
  split
  · exact ⟨Byt.nil, Nat.zero_le _⟩
  · obtain ⟨h1, h2⟩ := rRow_byt (lget x 0 0).toNat (x.drop 1) [] (hx.drop 1)
    exact ⟨h1, Nat.le_trans h2 (by simp only [List.length_drop]; omega)⟩
theorem rRows_byt : (c : Nat) → (x : List Int) → (rs : List Row') → Byt x → ∀ p, rRows c x rs = some p → Byt p.2 ∧ p.2.length ≤ x.length
  | 0, x, _, h, p, hp => by
    simp only [rRows, Option.some.injEq] at hp
    subst hp
    exact ⟨h, Nat.le_refl _⟩
  | c + 1, x, rs, h, p, hp => by
    unfold rRows at hp
    split at hp
    · obtain ⟨h1, h2⟩ := rRow0_byt h
      obtain ⟨h3, h4⟩ := rRows_byt c _ _ h1 p hp
      exact ⟨h3, Nat.le_trans h4 h2⟩
    · cases hp
theorem rTab_byt {x : List Int} (h : Byt x) {p : Rel' × List Int} (hp : rTab x = some p) : Byt p.2 ∧ p.2.length ≤ x.length := by
  unfold rTab at hp
  obtain ⟨h1, h2⟩ := rName_byt h
  split at hp
  · split at hp
    · rename_i rs y hr
      injection hp with hp
      subst hp
      obtain ⟨h3, h4⟩ := rRows_byt _ _ _ (h1.drop 1) _ hr
      exact ⟨h3, Nat.le_trans h4 (by simp only [List.length_drop]; omega)⟩
    · cases hp
  · cases hp

theorem rName_enc (s : List UInt8) (rest : List Int) : rName (encS s ++ rest) = (s, (rest, (true, ()))) := by
  have g : lget (encS s ++ rest) 0 0 = (s.length : Int) := lget_nat (i := 0) rfl
  have hl := bytesOf_len s
  have e2 : 1 + (bytesOf s).length = (bytesOf s).length + 1 := by omega
  rw [rName, g, if_neg (by simp only [encS, List.length_append, List.length_cons, hl]; omega)]
  simp only [encS, List.cons_append, Int.toNat_natCast, ← hl, e2, List.drop_succ_cons, List.drop_zero, List.take_left, List.drop_left, intsB_bytesOf]
theorem rRows_enc : (rs : List Row') → (∀ r ∈ rs, rowErr r = 0) → (rest : List Int) → (acc : List Row') → rRows rs.length (rs.flatMap encR ++ rest) acc = some (acc ++ rs, rest)
  | [], _, rest, acc => by simp [rRows]
  | r :: rs, h, rest, acc => by
    rw [List.length_cons, rRows, List.flatMap_cons, List.append_assoc, rRow0_enc (h r List.mem_cons_self), if_pos rfl, rRows_enc rs (fun u hu => h u (List.mem_cons_of_mem _ hu)), List.append_assoc]
    rfl
theorem rTab_enc {t : Rel'} (h : relErr t = 0) (rest : List Int) : rTab (encT t ++ rest) = some (t, rest) := by
  obtain ⟨h1, h2, h3⟩ := relErr_zero h
  obtain ⟨s, rs, _⟩ := t
  have e1 : encT (s, (rs, ())) ++ rest = encS s ++ (((rs.length : Int) :: rs.flatMap encR) ++ rest) := by simp [encT]
  have g : lget (((rs.length : Int) :: rs.flatMap encR) ++ rest) 0 0 = (rs.length : Int) := lget_nat (i := 0) rfl
  simp only at h2
  unfold rTab
  rw [e1, rName_enc]
  simp only [g]
  rw [if_pos ⟨trivial, by simp, by omega⟩, Int.toNat_natCast]
  show (match rRows rs.length (rs.flatMap encR ++ rest) [] with | some (rs, y) => some ((s, (rs, ())), y) | none => none) = _
  rw [rRows_enc rs h3]
  rfl
theorem rTabs_enc : (ts : List Rel') → (∀ t ∈ ts, relErr t = 0) → (rest : List Int) → (acc : List Rel') → rTabs ts.length (ts.flatMap encT ++ rest) acc = some (acc ++ ts, rest)
  | [], _, rest, acc => by simp [rTabs]
  | t :: ts, h, rest, acc => by
    rw [List.length_cons, rTabs, List.flatMap_cons, List.append_assoc, rTab_enc (h t List.mem_cons_self)]
    simp only
    rw [rTabs_enc ts (fun u hu => h u (List.mem_cons_of_mem _ hu)), List.append_assoc]
    rfl

/-- What decoding an instance means. -/
def InstOut (xs : List Int) (o : List Rel' × (Int × Unit)) : Prop := (∃ s, instErr s = 0 ∧ encI s = xs ∧ o = (s, (0, ()))) ∨ ((¬ ∃ s, instErr s = 0 ∧ encI s = xs) ∧ o = ([], (3, ())))
theorem encI_inj {r s : List Rel'} (hr : instErr r = 0) (hs : instErr s = 0) (h : encI r = encI s) : r = s := by
  have h1 := pInst_enc hr []
  have h2 := pInst_enc hs []
  rw [h, h2] at h1
  exact (congrArg (fun x => x.1) h1).symm
theorem InstOut.det {xs : List Int} {o o' : List Rel' × (Int × Unit)} (h : InstOut xs o) (h' : InstOut xs o') : o = o' := by
  rcases h with ⟨r, h1, h2, h3⟩ | ⟨h1, h2⟩ <;> rcases h' with ⟨r', h1', h2', h3'⟩ | ⟨h1', h2'⟩
  · rw [h3, h3', encI_inj h1 h1' (h2.trans h2'.symm)]
  · exact absurd ⟨r, h1, h2⟩ h1'
  · exact absurd ⟨r', h1', h2'⟩ h1
  · rw [h2, h2']

end
end Go.Proofs.YtigjpdkeijcabaaDoor
