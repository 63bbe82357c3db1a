/- The law on the bitmaps' operations. -/
import Derived.Test.YtpnklahcegahiaaBmr
set_option linter.unusedVariables false
set_option linter.unusedSimpArgs false
set_option linter.unnecessarySimpa false
set_option linter.unusedSimpArgs false
namespace Go.Proofs.Ytpnklahcegahiaa
open Go.Vi
noncomputable section
open Classical

/-- What an operation hands back. -/
def OpOut (na nb : Int) (wa wb : List Int) (p : Bool → Bool → Bool) (o : D_bitmap_Bitmap × (Int × Unit)) : Prop :=
  if chk na wa ≠ 0 then o = ((0, ([], ())), (chk na wa, ())) else if chk nb wb ≠ 0 then o = ((0, ([], ())), (chk nb wb, ())) else if na ≠ nb then o = ((0, ([], ())), (7, ())) else
    ∃ G, Says G ((na.toNat + 30) / 31) (fun k => p (bitAt wa k) (bitAt wb k)) ∧ o = ((na, (G.foldl pushG [], ())), (0, ()))

section
variable {na nb : Int} {wa wb : List Int} (ha : ∀ w ∈ wa, I64 w) (hb : ∀ w ∈ wb, I64 w) (la : wa.length ≤ 1048576) (lb : wb.length ≤ 1048576) {N : Nat} (hN : 100000000 < N)
include ha hb la lb hN
theorem and_eq : ∃ o, F_bitmap_And N ((na, (wa, ())), ((nb, (wb, ())), ())) = some (o, ()) ∧ OpOut na nb wa wb (fun a b => a && b) o := by
  obtain ⟨o, h1, h2⟩ := combine_eq N (na := na) (nb := nb) (opAnd N) ha hb la lb hN
  exact ⟨o, by simp only [F_bitmap_And, h1, oSome_some, oGet_some, cond_true], h2⟩
theorem or_eq : ∃ o, F_bitmap_Or N ((na, (wa, ())), ((nb, (wb, ())), ())) = some (o, ()) ∧ OpOut na nb wa wb (fun a b => a || b) o := by
  obtain ⟨o, h1, h2⟩ := combine_eq N (na := na) (nb := nb) (opOr N) ha hb la lb hN
  exact ⟨o, by simp only [F_bitmap_Or, h1, oSome_some, oGet_some, cond_true], h2⟩
theorem andNot_eq : ∃ o, F_bitmap_AndNot N ((na, (wa, ())), ((nb, (wb, ())), ())) = some (o, ()) ∧ OpOut na nb wa wb (fun a b => a && !b) o := by
  obtain ⟨o, h1, h2⟩ := combine_eq N (na := na) (nb := nb) (opAndNot N) ha hb la lb hN
  exact ⟨o, by simp only [F_bitmap_AndNot, h1, oSome_some, oGet_some, cond_true], h2⟩
end

def wantE (na nb : Int) (wa wb : List Int) : Int := if chk na wa ≠ 0 then chk na wa else if chk nb wb ≠ 0 then chk nb wb else if na ≠ nb then 7 else 0
theorem OpOut.err {na nb : Int} {wa wb : List Int} {p : Bool → Bool → Bool} {o : D_bitmap_Bitmap × (Int × Unit)} (h : OpOut na nb wa wb p o) : o.2.1 = wantE na nb wa wb ∧ (wantE na nb wa wb ≠ 0 → o.1 = (0, ([], ()))) := by
  unfold OpOut at h
  unfold wantE
  split at h
  · rename_i h0; rw [h, if_pos h0]; exact ⟨rfl, fun _ => rfl⟩
  · rename_i h0
    rw [if_neg h0]
    split at h
    · rename_i h1; rw [h, if_pos h1]; exact ⟨rfl, fun _ => rfl⟩
    · rename_i h1
      rw [if_neg h1]
      split at h
      · rename_i h2; rw [h, if_pos h2]; exact ⟨rfl, fun _ => rfl⟩
      · rename_i h2
        obtain ⟨G, _, rfl⟩ := h
        rw [if_neg h2]
        exact ⟨rfl, fun h => absurd rfl h⟩
theorem OpOut.ok {na nb : Int} {wa wb : List Int} {p : Bool → Bool → Bool} {o : D_bitmap_Bitmap × (Int × Unit)} (h : OpOut na nb wa wb p o) (h0 : wantE na nb wa wb = 0) : na = nb ∧ chk na wa = 0 ∧ chk nb wb = 0 ∧ ∃ G, Says G ((na.toNat + 30) / 31) (fun k => p (bitAt wa k) (bitAt wb k)) ∧ o = ((na, (G.foldl pushG [], ())), (0, ())) := by
  unfold OpOut at h
  unfold wantE at h0
  by_cases h1 : chk na wa = 0
  · rw [if_neg (by simpa using h1)] at h h0
    by_cases h2 : chk nb wb = 0
    · rw [if_neg (by simpa using h2)] at h h0
      by_cases h3 : na = nb
      · rw [if_neg (by simpa using h3)] at h
        exact ⟨h3, h1, h2, h⟩
      · rw [if_pos h3] at h0; cases h0
    · rw [if_pos h2] at h0; exact absurd h0 h2
  · rw [if_pos h1] at h0; exact absurd h0 h1

theorem bitAt_tail {n : Nat} {ws : List Int} (h : OkB n ws) {k : Nat} (hk : n ≤ k) : bitAt ws k = false := by
  unfold bitAt
  rw [List.getD_eq_getElem?_getD]
  cases hb : (dec ws)[k]? with
  | none => rfl
  | some b => exact h.2.2 k hk b hb
theorem take_bits {n : Nat} {ws : List Int} (h : OkB n ws) : (dec ws).take n = (List.range n).map (bitAt ws) := by
  have hl := h.2.1
  apply List.ext_getElem?
  intro k
  rw [List.getElem?_take, List.getElem?_map]
  by_cases hk : k < n
  · rw [if_pos hk, List.getElem?_range hk, List.getElem?_eq_getElem (by omega)]
    simp only [Option.map_some, bitAt, List.getD_eq_getElem?_getD, List.getElem?_eq_getElem (show k < (dec ws).length by omega), Option.getD_some]
  · rw [if_neg hk, List.getElem?_eq_none (by simp; omega)]; rfl

theorem law (na nb : Int) (wa wb : List Int) (ha : ∀ w ∈ wa, I64 w) (hb : ∀ w ∈ wb, I64 w) (la : wa.length ≤ 1048576) (lb : wb.length ≤ 1048576) (N : Nat) (hN : 100000000 < N) :
    F_stemlaw4_BitmapOperationsMatchReference N ((na, (wa, ())), ((nb, (wb, ())), ())) = some ((true, ()), ()) := by
  obtain ⟨o0, a0, b0⟩ := and_eq (na := na) (nb := nb) ha hb la lb hN
  obtain ⟨o1, a1, b1⟩ := or_eq (na := na) (nb := nb) ha hb la lb hN
  obtain ⟨o2, a2, b2⟩ := andNot_eq (na := na) (nb := nb) ha hb la lb hN
  obtain ⟨e0, z0⟩ := b0.err
  obtain ⟨e1, z1⟩ := b1.err
  obtain ⟨e2, z2⟩ := b2.err
  have hE : lset (lset (lset ([0, 0, 0] : List Int) 0 o0.2.1) 1 o1.2.1) 2 o2.2.1 = [wantE na nb wa wb, wantE na nb wa wb, wantE na nb wa wb] := by rw [lset_def, lset_def, lset_def, e0, e1, e2]; rfl
  have hR : lset (lset (lset ([(0, (([] : List Int), ())), (0, (([] : List Int), ())), (0, (([] : List Int), ()))] : List D_bitmap_Bitmap) 0 o0.1) 1 o1.1) 2 o2.1 = [o0.1, o1.1, o2.1] := by rw [lset_def, lset_def, lset_def]; rfl
  have hin : ∀ k : Nat, k < 3 → inB (k : Int) 3 = true := fun k hk => by rw [inB_dec]; simp; omega
  simp only [F_stemlaw4_BitmapOperationsMatchReference, letJ_def, a0, a1, a2, oSome_some, oGet_some, cond_true, checkB_eq N na wa ha la hN, checkB_eq N nb wb hb lb hN, hE, hR, works_eq N (by omega), show inB 0 3 = true from hin 0 (by omega), show inB 1 3 = true from hin 1 (by omega), show inB 2 3 = true from hin 2 (by omega), Bool.and_self, Bool.and_true]
  rw [cond_pos (by cases eqI (chk na wa) 0 <;> rfl)]
  -- the wanted error
  generalize hy1 : (bif eqI (chk na wa) 0 then chk nb wb else chk na wa) = y1
  have hy3 : (bif (eqI y1 0 && neI na nb) then 7 else y1) = wantE na nb wa wb := by
    subst hy1
    unfold wantE
    rw [eqI_dec, eqI_dec, neI_dec]
    by_cases h1 : chk na wa = 0
    · rw [if_neg (by simpa using h1), h1]
      simp only [decide_true, cond_true]
      by_cases h2 : chk nb wb = 0
      · rw [if_neg (by simpa using h2), h2]
        by_cases h3 : na = nb <;> simp [h3]
      · rw [if_pos h2]; simp [h2]
    · rw [if_pos h1]; simp [h1]
  simp only [hy3]
  generalize hw : wantE na nb wa wb = y at *
  have hEk : ∀ k : Nat, k < 3 → lget [y, y, y] (k : Int) 0 = y := fun k hk => lget_nat (by
    match k, hk with
    | 0, _ => rfl
    | 1, _ => rfl
    | 2, _ => rfl)
  refine iterF_run (fun k => ((k : Int), ())) 3 _ rfl ?_ ?_ (by omega)
  · intro k hk ih
    have hRk : ∀ k : Nat, k < 3 → y ≠ 0 → lget [o0.1, o1.1, o2.1] (k : Int) (0, (([] : List Int), ())) = (0, ([], ())) := fun k hk hy => lget_nat (by
      match k, hk with
      | 0, _ => rw [← z0 hy]; rfl
      | 1, _ => rw [← z1 hy]; rfl
      | 2, _ => rw [← z2 hy]; rfl)
    dsimp only
    simp only [hin k hk, hEk k hk, Bool.or_true, Bool.and_self, cond_true, neI_dec, decide_true, Bool.not_true, Bool.false_or]
    rw [cond_pos (by rw [ltI_dec]; simp; omega), iadd_nat (by omega)]
    rw [cond_neg]
    by_cases hy : y = 0
    · simp [hy]
    · rw [hRk k hk hy]
      simp only [lenI_def, List.length_nil]
      rw [iadd64 (by omega) (by omega), ltI_dec]
      simp
  · intro ih
    dsimp only
    rw [cond_neg (by rw [ltI_dec]; rfl), neI_dec]
    by_cases hy : y = 0
    case neg => rw [cond_pos (by simp [hy])]
    rw [cond_neg (by simp [hy])]
    rw [hy] at hw
    obtain ⟨hnn, ca, cb, G0, s0, rfl⟩ := b0.ok hw
    obtain ⟨_, _, _, G1, s1, rfl⟩ := b1.ok hw
    obtain ⟨_, _, _, G2, s2, rfl⟩ := b2.ok hw
    subst hnn
    obtain ⟨n, rfl, hn, oka⟩ := chk_zero ca
    obtain ⟨n', hn', _, okb⟩ := chk_zero cb
    have hnn : n' = n := by omega
    subst hnn
    rw [Int.toNat_natCast] at s0 s1 s2
    have ba := bits_any N wa hn ha la hN
    have bb := bits_any N wb hn hb lb hN
    rw [if_pos oka, take_bits oka] at ba
    rw [if_pos okb, take_bits okb] at bb
    have r0 := says_bits N hn s0 (fun k hk => by rw [bitAt_tail oka hk]; rfl) (by omega)
    have r1 := says_bits N hn s1 (fun k hk => by rw [bitAt_tail oka hk, bitAt_tail okb hk]; rfl) (by omega)
    have r2 := says_bits N hn s2 (fun k hk => by rw [bitAt_tail oka hk]; rfl) (by omega)
    simp only [ba, bb, oSome_some, oGet_some, cond_true]
    -- the three results
    have hres : ∀ k : Nat, k < 3 → ∃ (ws' : List Int) (p : Bool → Bool → Bool), lget [(((n' : Nat) : Int), (G0.foldl pushG [], ())), (((n' : Nat) : Int), (G1.foldl pushG [], ())), (((n' : Nat) : Int), (G2.foldl pushG [], ()))] (k : Int) (0, (([] : List Int), ())) = (((n' : Nat) : Int), (ws', ())) ∧ F_stemref4_Bits N ((((n' : Nat) : Int), (ws', ())), ()) = some (((List.range n').map (fun k => p (bitAt wa k) (bitAt wb k)), (true, ())), ()) ∧
        ∀ x y : Bool, lget [x && y, x || y, x && !y] (k : Int) false = p x y := fun k hk => by
      match k, hk with
      | 0, _ => exact ⟨_, _, lget_nat rfl, r0, fun x y => lget_nat rfl⟩
      | 1, _ => exact ⟨_, _, lget_nat rfl, r1, fun x y => lget_nat rfl⟩
      | 2, _ => exact ⟨_, _, lget_nat rfl, r2, fun x y => lget_nat rfl⟩
    refine iterF_run (fun k => ((k : Int), ())) 3 _ rfl ?_ ?_ (by omega)
    · intro k hk ih2
      obtain ⟨ws', p, q1, q2, q3⟩ := hres k hk
      dsimp only
      rw [cond_pos (by rw [ltI_dec]; simp; omega), cond_pos (hin k hk)]
      simp only [q1, q2, q3, oSome_some, oGet_some, cond_true, neI_dec, decide_true, Bool.not_true, Bool.or_false, Bool.or_self, cond_false, hin k hk]
      refine iterF_run (fun j => ((j : Int), ())) n' _ rfl ?_ ?_ (by omega)
      · intro j hj ih3
        have hL : ∀ f : Nat → Bool, lget ((List.range n').map f) (j : Int) false = f j := fun f => lget_nat (by rw [List.getElem?_map, List.getElem?_range hj]; rfl)
        have hI : ∀ f : Nat → Bool, inB (j : Int) (lenI ((List.range n').map f)) = true := fun f => inB_len (by simpa using hj)
        dsimp only
        simp only [hL, hI, Bool.or_true, Bool.and_self, cond_true]
        rw [cond_pos (lt_len (by simpa using hj)), cond_neg (by rw [eqB_dec]; simp), iadd_nat (by omega)]
      · intro ih3
        dsimp only
        rw [cond_neg (nlt_len (by simp)), iadd_nat (by omega)]
    · intro ih2
      dsimp only
      rw [cond_neg (by rw [ltI_dec]; rfl)]

theorem lawUpto (x : D_bitmap_Bitmap × (D_bitmap_Bitmap × Unit)) (hg : goodAll [T_bitmap_Bitmap, T_bitmap_Bitmap] x) (h : bulkAll [T_bitmap_Bitmap, T_bitmap_Bitmap] x ≤ 1048576) : ∃ N z, F_stemlaw4_BitmapOperationsMatchReference N x = some ((true, ()), z) := by
  obtain ⟨⟨na, wa, _⟩, ⟨nb, wb, _⟩, _⟩ := x
  have good : ∀ {ws : List Int}, (Ty.slice (.int .i64)).good ws → ∀ w ∈ ws, I64 w := fun hg w hw => by
    have := hg w hw
    simp [Ty.good, IntKind.has, IntKind.min, IntKind.max, IntKind.signed, IntKind.bits] at this
    exact ⟨by omega, by omega⟩
  have e : bulkAll [T_bitmap_Bitmap, T_bitmap_Bitmap] ((na, (wa, ())), ((nb, (wb, ())), ())) = ((Ty.int .i64).bulk na + ((Ty.slice (.int .i64)).bulk wa + Ty.unit.bulk ())) + (((Ty.int .i64).bulk nb + ((Ty.slice (.int .i64)).bulk wb + Ty.unit.bulk ())) + 0) := rfl
  rw [e] at h
  have h1 := bulk_slice (.int .i64) wa
  have h2 := bulk_slice (.int .i64) wb
  exact ⟨100000001, (), law na nb wa wb (good hg.1.2.1) (good hg.2.1.2.1) (by omega) (by omega) _ (by omega)⟩
end
end Go.Proofs.Ytpnklahcegahiaa
