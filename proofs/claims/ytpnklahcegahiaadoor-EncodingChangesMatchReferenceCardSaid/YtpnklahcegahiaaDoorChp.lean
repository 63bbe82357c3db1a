/- Change lists: what is valid, how it is encoded, that the parsers read it back. -/
import Derived.Test.YtpnklahcegahiaaDoorInp
set_option linter.unusedVariables false
set_option linter.unusedSimpArgs false
set_option linter.unnecessarySimpa false
set_option linter.unusedSectionVars false
set_option linter.unusedSimpArgs false
namespace Go.Proofs.YtpnklahcegahiaaDoor
open Go.Vi
noncomputable section

abbrev Chg' : Type := Int × ((List UInt8) × (Row' × (Row' × Unit)))

def chOk (c : Chg') : Bool := (decide (c.1 = 1) && decide (c.2.2.1 = [])) || (decide (c.1 = 2) && decide (c.2.2.2.1 = []))
def chErr (c : Chg') : Int := if chOk c = true ∧ nameOk c.2.1 = true then (if rowErr c.2.2.1 ≠ 0 then rowErr c.2.2.1 else rowErr c.2.2.2.1) else 3
def chsErr : List Chg' → Int
  | [] => 0
  | t :: r => if chErr t ≠ 0 then chErr t else chsErr r
def chgsErr (s : List Chg') : Int := if 24 < s.length then 2 else chsErr s

theorem chErr_zero {c : Chg'} (h : chErr c = 0) : ((c.1 = 1 ∧ c.2.2.1 = []) ∨ (c.1 = 2 ∧ c.2.2.2.1 = [])) ∧ nameOk c.2.1 = true ∧ rowErr c.2.2.1 = 0 ∧ rowErr c.2.2.2.1 = 0 := by
  unfold chErr at h
  split at h
  · rename_i h0
    have h1 := h0.1
    simp only [chOk, Bool.or_eq_true, Bool.and_eq_true, decide_eq_true_eq] at h1
    split at h
    · rename_i h2; exact absurd h h2
    · rename_i h2
      exact ⟨h1, h0.2, Classical.byContradiction h2, h⟩
  · cases h
theorem chsErr_zero : {rs : List Chg'} → chsErr rs = 0 → ∀ r ∈ rs, chErr r = 0
  | [], _, _, h => by cases h
  | r :: t, h, u, hu => by
    simp only [chsErr] at h
    split at h
    · rename_i h0; exact absurd h h0
    · rename_i h0
      rcases List.mem_cons.1 hu with rfl | hu
      · exact Classical.byContradiction h0
      · exact chsErr_zero h u hu
theorem chgsErr_zero {s : List Chg'} (h : chgsErr s = 0) : s.length ≤ 24 ∧ ∀ r ∈ s, chErr r = 0 := by
  unfold chgsErr at h
  split at h
  · cases h
  · exact ⟨by omega, chsErr_zero h⟩

/-! ## The encoding -/
def chRow (c : Chg') : Row' := if c.1 = 1 then c.2.2.2.1 else c.2.2.1
def encC (c : Chg') : List Int := c.1 :: (encS c.2.1 ++ encR (chRow c))
def encCs (s : List Chg') : List Int := (s.length : Int) :: s.flatMap encC

theorem chRow_ok {c : Chg'} (h : chErr c = 0) : rowErr (chRow c) = 0 := by
  obtain ⟨_, _, h3, h4⟩ := chErr_zero h
  unfold chRow
  split
  · exact h4
  · exact h3
theorem encC_byt {c : Chg'} (h : chErr c = 0) : Byt (encC c) := by
  obtain ⟨h1, h2, h3, h4⟩ := chErr_zero h
  have h5 := (nameOk_len h2).1
  obtain ⟨h6, h7⟩ := rowErr_zero (chRow_ok h)
  exact Byt.cons (by rcases h1 with ⟨h, _⟩ | ⟨h, _⟩ <;> omega) ((encS_byt (by omega)).append (encR_byt (by omega) h7))
theorem encCs_byt {s : List Chg'} (h : chgsErr s = 0) : Byt (encCs s) := by
  obtain ⟨h1, h2⟩ := chgsErr_zero h
  refine Byt.cons (by omega) fun c hc => ?_
  obtain ⟨r, hr, hc⟩ := List.mem_flatMap.1 hc
  exact encC_byt (h2 r hr) c hc
theorem encC_len {c : Chg'} (h : chErr c = 0) : (encC c).length ≤ 1000 := by
  obtain ⟨h1, h2, h3, h4⟩ := chErr_zero h
  have h5 := (nameOk_len h2).1
  have h6 := encR_len (chRow_ok h)
  simp only [encC, encS, List.length_append, List.length_cons, bytesOf_len]
  omega
theorem chgs_len {rs : List Chg'} (h : ∀ r ∈ rs, chErr r = 0) : (rs.flatMap encC).length ≤ 1000 * rs.length := by
  induction rs with
  | nil => simp
  | cons r t ih =>
    have h1 := encC_len (h r List.mem_cons_self)
    have h2 := ih fun u hu => h u (List.mem_cons_of_mem _ hu)
    simp only [List.flatMap_cons, List.length_append, List.length_cons]
    omega

/-! ## The parsers -/
def chMk (k : Int) (s : List UInt8) (r : Row') : Chg' := if k = 1 then (k, (s, ([], (r, ())))) else (k, (s, (r, ([], ()))))
theorem chMk_row {c : Chg'} (h : chErr c = 0) : chMk c.1 c.2.1 (chRow c) = c := by
  obtain ⟨h1, h2, h3, h4⟩ := chErr_zero h
  obtain ⟨k, s, a, b, _⟩ := c
  rcases h1 with ⟨h, h'⟩ | ⟨h, h'⟩ <;> (simp only at h h'; subst h; subst h'; simp [chMk, chRow])

def pChg (d : Dec') : Chg' × Dec' := (chMk (pByte d).1.1 (pName (pByte d).2.1).1 (pRow' (pName (pByte d).2.1).2).1, (pRow' (pName (pByte d).2.1).2).2)
def pChgs : Nat → Dec' → List Chg' → List Chg' × Dec'
  | 0, d, rs => (rs, d)
  | c + 1, d, rs => if d.2.1 = true then (rs, d) else pChgs c (pChg d).2 (rs ++ [(pChg d).1])
def pChgList (d : Dec') : List Chg' × Dec' := pChgs (pByte d).1.1.toNat (pByte d).2.1 []
theorem pChg_byt {d : Dec'} (h : Byt d.1) : Byt (pChg d).2.1 := pRow'_byt (pName_byt (pByte_byt h).2)

theorem pChg_enc {c : Chg'} (h : chErr c = 0) (rest : List Int) : pChg (encC c ++ rest, (false, ())) = (c, (rest, (false, ()))) := by
  have e1 : pByte (encC c ++ rest, (false, ())) = ((c.1, ()), ((encS c.2.1 ++ encR (chRow c) ++ rest, (false, ())), ())) := rfl
  unfold pChg
  rw [e1]
  simp only
  rw [List.append_assoc, pName_enc]
  simp only
  rw [pRow'_enc (chRow_ok h), chMk_row h]
theorem pChgs_enc : (ts : List Chg') → (∀ t ∈ ts, chErr t = 0) → (rest : List Int) → (acc : List Chg') → pChgs ts.length (ts.flatMap encC ++ rest, (false, ())) acc = (acc ++ ts, (rest, (false, ())))
  | [], _, rest, acc => by simp [pChgs]
  | t :: ts, h, rest, acc => by
    rw [List.length_cons, pChgs, if_neg (by simp), List.flatMap_cons, List.append_assoc, pChg_enc (h t List.mem_cons_self), pChgs_enc ts (fun u hu => h u (List.mem_cons_of_mem _ hu)), List.append_assoc]
    rfl
theorem pChgList_enc {s : List Chg'} (h : chgsErr s = 0) (rest : List Int) : pChgList (encCs s ++ rest, (false, ())) = (s, (rest, (false, ()))) := by
  obtain ⟨h1, h2⟩ := chgsErr_zero h
  have e : pByte (encCs s ++ rest, (false, ())) = (((s.length : Int), ()), ((s.flatMap encC ++ rest, (false, ())), ())) := rfl
  simp only [pChgList, e, Int.toNat_natCast, pChgs_enc s h2, List.nil_append]

def rChg (x : List Int) : Option (Chg' × List Int) :=
  if x.length = 0 then none else if (rName (x.drop 1)).2.2.1 = true then
    (if (rRow0 (rName (x.drop 1)).2.1).2.2.1 = true then some (chMk (lget x 0 0) (rName (x.drop 1)).1 (rRow0 (rName (x.drop 1)).2.1).1, (rRow0 (rName (x.drop 1)).2.1).2.1) else none)
  else none
def rChgs : Nat → List Int → List Chg' → Option (List Chg' × List Int)
  | 0, x, ts => some (ts, x)
  | c + 1, x, ts => match rChg x with
    | some (t, y) => rChgs c y (ts ++ [t])
    | none => none
theorem rChg_byt {x : List Int} (h : Byt x) {p : Chg' × List Int} (hp : rChg x = some p) : Byt p.2 ∧ p.2.length ≤ x.length := by
  unfold rChg at hp
  split at hp
  · cases hp
  obtain ⟨h1, h2⟩ := rName_byt (h.drop 1)
  obtain ⟨h3, h4⟩ := rRow0_byt h1
  simp only [List.length_drop] at h2
  split at hp
  · split at hp
    · injection hp with hp
      subst hp
      exact ⟨h3, by simp only; omega⟩
    · cases hp
  · cases hp
theorem rChg_enc {c : Chg'} (h : chErr c = 0) (rest : List Int) : rChg (encC c ++ rest) = some (c, rest) := by
  have g : lget (encC c ++ rest) 0 0 = c.1 := lget_nat (i := 0) rfl
  have e1 : (encC c ++ rest).drop 1 = encS c.2.1 ++ (encR (chRow c) ++ rest) := by simp [encC]
  unfold rChg
  rw [if_neg (by simp [encC]), g, e1, rName_enc]
  simp only
  rw [rRow0_enc (chRow_ok h), chMk_row h]
  simp
theorem rChgs_enc : (ts : List Chg') → (∀ t ∈ ts, chErr t = 0) → (rest : List Int) → (acc : List Chg') → rChgs ts.length (ts.flatMap encC ++ rest) acc = some (acc ++ ts, rest)
  | [], _, rest, acc => by simp [rChgs]
  | t :: ts, h, rest, acc => by
    rw [List.length_cons, rChgs, List.flatMap_cons, List.append_assoc, rChg_enc (h t List.mem_cons_self)]
    simp only
    rw [rChgs_enc ts (fun u hu => h u (List.mem_cons_of_mem _ hu)), List.append_assoc]
    rfl

/-- What decoding a change list means. -/
def ChgOut (xs : List Int) (o : List Chg' × (Int × Unit)) : Prop := (∃ s, chgsErr s = 0 ∧ encCs s = xs ∧ o = (s, (0, ()))) ∨ ((¬ ∃ s, chgsErr s = 0 ∧ encCs s = xs) ∧ o = ([], (3, ())))
theorem encCs_inj {r s : List Chg'} (hr : chgsErr r = 0) (hs : chgsErr s = 0) (h : encCs r = encCs s) : r = s := by
  have h1 := pChgList_enc hr []
  have h2 := pChgList_enc hs []
  rw [h, h2] at h1
  exact (congrArg (fun x => x.1) h1).symm
theorem ChgOut.det {xs : List Int} {o o' : List Chg' × (Int × Unit)} (h : ChgOut xs o) (h' : ChgOut xs o') : o = o' := by
  rcases h with ⟨r, h1, h2, h3⟩ | ⟨h1, h2⟩ <;> rcases h' with ⟨r', h1', h2', h3'⟩ | ⟨h1', h2'⟩
  · rw [h3, h3', encCs_inj h1 h1' (h2.trans h2'.symm)]
  · exact absurd ⟨r, h1, h2⟩ h1'
  · exact absurd ⟨r', h1', h2'⟩ h1
  · rw [h2, h2']

end
end Go.Proofs.YtpnklahcegahiaaDoor
