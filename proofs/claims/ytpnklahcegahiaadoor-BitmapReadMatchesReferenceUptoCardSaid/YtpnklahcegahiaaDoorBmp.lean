/- Bitmaps: what the encoder makes, what the reference reads. -/
import Derived.Test.YtpnklahcegahiaaDoorFnsA
import Derived.Test.YtpnklahcegahiaaDoorViLib
set_option linter.unusedVariables false
set_option linter.unusedSimpArgs false
set_option linter.unnecessarySimpa false
set_option linter.unusedSectionVars false
set_option linter.unusedSimpArgs false
namespace Go.Proofs.YtpnklahcegahiaaDoor
open Go.Vi
noncomputable section

/-! ## Words -/
def gbits (g : Int) : List Bool := (List.range 31).map fun i => g.toNat.testBit i
def bitOf (w : Int) : Int := w % 2
def fillN (w : Int) : Nat := ((-w) / 2).toNat
def wdec (w : Int) : List Bool := if 0 ≤ w then gbits w else List.replicate (31 * fillN w) (decide (bitOf w = 1))
def okW (l w : Int) : Prop := (0 < w ∧ w < 2147483647) ∨ (w ≤ -2 ∧ bitOf w ≠ l)
def nextW (_l w : Int) : Int := if 0 ≤ w then 2 else bitOf w
def Canon : Int → List Int → Prop
  | _, [] => True
  | l, w :: r => okW l w ∧ Canon (nextW l w) r
def lastF (l : Int) (ws : List Int) : Int := ws.foldl nextW l
def dec (ws : List Int) : List Bool := ws.flatMap wdec

theorem lastF_snoc (l : Int) (ws : List Int) (w : Int) : lastF l (ws ++ [w]) = nextW (lastF l ws) w := by simp [lastF]
theorem dec_snoc (ws : List Int) (w : Int) : dec (ws ++ [w]) = dec ws ++ wdec w := by simp [dec]
theorem canon_snoc : (ws : List Int) → (l w : Int) → (Canon l (ws ++ [w]) ↔ Canon l ws ∧ okW (lastF l ws) w)
  | [], l, w => by simp [Canon, lastF]
  | u :: r, l, w => by
    simp only [List.cons_append, Canon, canon_snoc r, lastF, List.foldl_cons, and_assoc]
theorem canon_at : (ws : List Int) → (l : Int) → Canon l ws → (i : Nat) → (h : i < ws.length) → okW (lastF l (ws.take i)) ws[i]
  | u :: r, l, hc, 0, h => by simpa [lastF] using hc.1
  | u :: r, l, hc, i + 1, h => by
    have := canon_at r (nextW l u) hc.2 i (by simpa using h)
    simpa [lastF] using this
theorem gbits_length (g : Int) : (gbits g).length = 31 := by simp [gbits]
theorem gbits_zero : gbits 0 = List.replicate 31 false := by decide
theorem gbits_ones : gbits 2147483647 = List.replicate 31 true := by decide
theorem wdec_length {w : Int} (h : w < 0) : (wdec w).length = 31 * fillN w := by simp [wdec, show ¬ 0 ≤ w by omega]
theorem wdec_pos {w : Int} (h : 0 ≤ w) : wdec w = gbits w := by simp [wdec, h]
theorem wdec_new {g : Int} (h : g = 0 ∨ g = 2147483647) : wdec (-2 - g % 2) = gbits g := by
  rcases h with rfl | rfl
  · rw [gbits_zero]; decide
  · rw [gbits_ones]; decide
theorem wdec_more {w g : Int} (hw : w ≤ -2) (h : g = 0 ∧ bitOf w = 0 ∨ g = 2147483647 ∧ bitOf w = 1) : wdec (w - 2) = wdec w ++ gbits g := by
  have e1 : bitOf (w - 2) = bitOf w := by unfold bitOf; omega
  have e2 : fillN (w - 2) = fillN w + 1 := by unfold fillN; omega
  have e3 : gbits g = List.replicate 31 (decide (bitOf w = 1)) := by
    rcases h with ⟨rfl, h⟩ | ⟨rfl, h⟩
    · rw [gbits_zero, h]; rfl
    · rw [gbits_ones, h]; rfl
  rw [wdec, wdec, if_neg (by omega), if_neg (by omega), e1, e2, e3, List.replicate_append_replicate, Nat.mul_add]

/-! ## The functions -/
theorem groupCount_eq (N : Nat) {n : Nat} (h : n ≤ 100000) : F_bitmap_groupCount N ((n : Int), ()) = some (((((n + 30) / 31 : Nat) : Int), ()), ()) := by
  simp only [F_bitmap_groupCount]
  rw [cond_pos (by rw [neI_dec]; rfl), iadd64 (by omega) (by omega), isub64 (by omega) (by omega), iquo64 (by omega) (by omega) (by omega)]
  congr 3
  omega

theorem decodeFill_eq (N : Nat) {w : Int} (h : w ≤ -2) (h2 : -1000000000 ≤ w) : F_bitmap_decodeFill N (w, ()) = some (((fillN w : Int), ((if bitOf w = 0 then 0 else 2147483647), ())), ()) := by
  have hr : irem w 2 = w.tmod 2 := irem_def _ _
  have h0 : (w.tmod 2 = 0) ↔ bitOf w = 0 := by
    unfold bitOf; rw [← Int.dvd_iff_tmod_eq_zero, Int.dvd_iff_emod_eq_zero]
  simp only [F_bitmap_decodeFill]
  rw [cond_pos (by rw [neI_dec]; rfl), hr, eqI_dec]
  by_cases hb : bitOf w = 0
  · rw [cond_pos (by simp [h0, hb]), cond_pos (by rw [neI_dec]; rfl), ineg64 (by omega) (by omega), iquo64 (by omega) (by omega) (by omega), if_pos hb]
    congr 3
    unfold fillN; omega
  · have hb2 := hb
    unfold bitOf at hb2
    rw [cond_neg (by simp [h0, hb]), cond_pos (by rw [neI_dec]; rfl), ineg64 (by omega) (by omega), isub64 (by omega) (by omega), iquo64 (by omega) (by omega) (by omega), if_neg hb]
    congr 3
    unfold fillN; omega

/-- One group more. -/
def pushG (ws : List Int) (g : Int) : List Int :=
  if 0 < g ∧ g < 2147483647 then ws ++ [g]
  else match ws.getLast? with
    | some l => if l < 0 ∧ (if bitOf l = 0 then 0 else 2147483647) = g then ws.dropLast ++ [l - 2] else ws ++ [-2 - g % 2]
    | none => ws ++ [-2 - g % 2]

def GOk (g : Int) : Prop := 0 ≤ g ∧ g ≤ 2147483647
structure WOk (ws : List Int) (n : Nat) : Prop where
  canon : Canon 2 ws
  len : (dec ws).length = 31 * n

theorem lastF_last (l : Int) (ws : List Int) (w : Int) : lastF l (ws ++ [w]) = if 0 ≤ w then 2 else bitOf w := lastF_snoc l ws w

theorem pushG_ok {ws : List Int} {n : Nat} {g : Int} (h : WOk ws n) (hg : GOk g) : WOk (pushG ws g) (n + 1) ∧ dec (pushG ws g) = dec ws ++ gbits g := by
  have key : Canon 2 (pushG ws g) ∧ dec (pushG ws g) = dec ws ++ gbits g := by
    unfold pushG
    by_cases h1 : 0 < g ∧ g < 2147483647
    · rw [if_pos h1]
      exact ⟨(canon_snoc ws 2 g).2 ⟨h.canon, .inl h1⟩, by rw [dec_snoc, wdec_pos (by omega)]⟩
    · rw [if_neg h1]
      have hg2 : g = 0 ∨ g = 2147483647 := by unfold GOk at hg; omega
      have hnew : ∀ l, lastF 2 ws = l → l ≠ bitOf (-2 - g % 2) → Canon 2 (ws ++ [-2 - g % 2]) ∧ dec (ws ++ [-2 - g % 2]) = dec ws ++ gbits g := fun l hl hne =>
        ⟨(canon_snoc ws 2 _).2 ⟨h.canon, .inr ⟨by omega, by rw [hl]; exact hne.symm⟩⟩, by rw [dec_snoc, wdec_new hg2]⟩
      rcases List.eq_nil_or_concat ws with rfl | ⟨init, l, rfl⟩
      · exact hnew 2 rfl (by unfold bitOf; omega)
      · rw [List.concat_eq_append] at h hnew ⊢
        simp only [List.getLast?_append, List.getLast?_singleton, Option.some_or, List.dropLast_concat]
        obtain ⟨hc, hok⟩ := (canon_snoc init 2 l).1 h.canon
        by_cases h2 : l < 0 ∧ (if bitOf l = 0 then 0 else 2147483647) = g
        · rw [if_pos h2]
          obtain ⟨h3, h4⟩ := h2
          have hl : l ≤ -2 ∧ bitOf l ≠ lastF 2 init := hok.resolve_left (fun h => by omega)
          have hb : bitOf l = 0 ∨ bitOf l = 1 := by unfold bitOf; omega
          refine ⟨(canon_snoc init 2 _).2 ⟨hc, .inr ⟨by omega, ?_⟩⟩, ?_⟩
          · have : bitOf (l - 2) = bitOf l := by unfold bitOf; omega
            rw [this]; exact hl.2
          · rw [dec_snoc, dec_snoc, wdec_more (g := g) hl.1 ?_, List.append_assoc]
            rcases hb with hb | hb
            · rw [if_pos hb] at h4; exact .inl ⟨h4.symm, hb⟩
            · rw [if_neg (by omega)] at h4; exact .inr ⟨h4.symm, hb⟩
        · rw [if_neg h2]
          refine hnew _ (lastF_last 2 init l) ?_
          by_cases h3 : 0 ≤ l
          · rw [if_pos h3]; unfold bitOf; omega
          · rw [if_neg h3]
            intro he
            refine h2 ⟨by omega, ?_⟩
            unfold bitOf at he ⊢
            rcases hg2 with rfl | rfl
            · rw [if_pos (by omega)]
            · rw [if_neg (by omega)]
  refine ⟨⟨key.1, ?_⟩, key.2⟩
  rw [key.2, List.length_append, gbits_length, h.len]
  omega

theorem wdec_len_le : (ws : List Int) → (w : Int) → w ∈ ws → (wdec w).length ≤ (dec ws).length
  | u :: r, w, hm => by
    simp only [dec, List.flatMap_cons, List.length_append]
    rcases List.mem_cons.1 hm with rfl | hm
    · omega
    · have := wdec_len_le r w hm
      simp only [dec] at this
      omega
theorem canon_len : (ws : List Int) → (l : Int) → Canon l ws → 31 * ws.length ≤ (dec ws).length
  | [], _, _ => Nat.zero_le _
  | w :: r, l, h => by
    have := canon_len r _ h.2
    have hw : 31 ≤ (wdec w).length := by
      rcases h.1 with h1 | ⟨h1, _⟩
      · rw [wdec_pos (by omega), gbits_length]; omega
      · rw [wdec_length (by omega)]; unfold fillN; omega
    simp only [dec, List.flatMap_cons, List.length_append, List.length_cons] at this ⊢
    omega

theorem foldG_ok (gs : List Int) (hg : ∀ g ∈ gs, GOk g) : (i : Nat) → i ≤ gs.length → WOk ((gs.take i).foldl pushG []) i ∧ dec ((gs.take i).foldl pushG []) = (gs.take i).flatMap gbits
  | 0, _ => ⟨⟨trivial, rfl⟩, rfl⟩
  | i + 1, h => by
    obtain ⟨h1, h2⟩ := foldG_ok gs hg i (by omega)
    rw [take_snoc h, List.foldl_append, List.flatMap_append]
    obtain ⟨h3, h4⟩ := pushG_ok h1 (hg gs[i] (List.getElem_mem _))
    refine ⟨h3, ?_⟩
    simp only [List.foldl_cons, List.foldl_nil, List.flatMap_cons, List.flatMap_nil, List.append_nil]
    rw [h4, h2]

theorem compress_eq (N : Nat) {n : Int} (gs : List Int) (hg : ∀ g ∈ gs, GOk g) (hl : gs.length ≤ 10000) (hN : gs.length < N) : F_bitmap_compress N (n, (gs, ())) = some (((n, (gs.foldl pushG [], ())), ()), ()) := by
  simp only [F_bitmap_compress, letJ_def]
  refine iterF_seq (fun i => ((n, ((gs.take i).foldl pushG [], ())), ((i : Int), ()))) gs.length _ rfl ?_ ?_ hN
  · intro i hi ih
    obtain ⟨h1, h2⟩ := foldG_ok gs hg i (by omega)
    have hlen := canon_len _ _ h1.canon
    rw [h1.len] at hlen
    have hsn : (gs.take (i + 1)).foldl pushG [] = pushG ((gs.take i).foldl pushG []) gs[i] := by rw [take_snoc hi, List.foldl_append]; rfl
    rw [hsn]
    have hgi := hg gs[i] (List.getElem_mem _)
    have hfill : ∀ w ∈ (gs.take i).foldl pushG [], -1000000 ≤ w := fun w hw => by
      rcases Int.lt_or_le w 0 with h | h
      · have := wdec_len_le _ w hw
        rw [wdec_length h, h1.len] at this
        unfold fillN at this
        omega
      · omega
    have hlow : ∀ w ∈ (gs.take i).foldl pushG [], w < 0 → w ≤ -2 := fun w hw hneg => by
      obtain ⟨j, hj, rfl⟩ := List.getElem_of_mem hw
      rcases canon_at _ _ h1.canon j hj with h | h
      · omega
      · exact h.1
    generalize hws : (gs.take i).foldl pushG [] = ws at *
    have hgl : gs[i] = lget gs (i : Int) 0 := (lget_at 0 hi).symm
    rw [cond_pos (lt_len hi), cond_pos (inB_len hi), lget_at 0 hi, iadd_nat (by omega)]
    have hrm : ∀ x : Int, room2 (lenI ws) (lenI ([x] : List Int)) 8 = true := fun x => room2_ok (by simp only [List.length_cons, List.length_nil]; omega)
    unfold pushG
    by_cases hlit : 0 < gs[i] ∧ gs[i] < 2147483647
    · rw [cond_pos (by simp only [ltI_dec]; simp; omega), cond_pos (hrm _), if_pos hlit, lapp_def]
    · rw [cond_neg (by simp only [ltI_dec]; simp; omega), if_neg hlit]
      have hg2 : gs[i] = 0 ∨ gs[i] = 2147483647 := by unfold GOk at hgi; omega
      have hnew : (bif neI 2 0 && room2 (lenI ws) (lenI ([isub .i64 (-2) (irem gs[i] 2)] : List Int)) 8 then ih ((n, lapp ws [isub .i64 (-2) (irem gs[i] 2)], ()), ((i + 1 : Nat) : Int), ()) else none) = ih ((n, ws ++ [-2 - gs[i] % 2], ()), ((i + 1 : Nat) : Int), ()) := by
        rw [cond_pos (by rw [hrm, neI_dec]; rfl), irem64 (by omega), isub64 (by omega) (by omega), lapp_def]
      rcases List.eq_nil_or_concat ws with rfl | ⟨init, l, rfl⟩
      · have e0 : lenI ([] : List Int) = 0 := lenI_def _
        rw [cond_pos (by rw [e0, ltI_dec]; rfl), cond_neg (by rw [e0, ltI_dec]; rfl)]
        exact hnew
      · simp only [List.concat_eq_append] at *
        have hlenI : lenI (init ++ [l]) = ((init.length + 1 : Nat) : Int) := by rw [lenI_def, List.length_append]; rfl
        have hk : isub .i64 (lenI (init ++ [l])) 1 = (init.length : Int) := by
          simp only [List.length_append, List.length_cons, List.length_nil] at hlen
          rw [hlenI, isub64 (by omega) (by omega)]; omega
        have hgl : lget (init ++ [l]) (init.length : Int) 0 = l := lget_nat (by simp)
        have hin : inB (init.length : Int) (lenI (init ++ [l])) = true := inB_len (by simp)
        have hlt0 : ltI 0 (lenI (init ++ [l])) = true := by rw [hlenI, ltI_dec]; simp
        simp only [hk, hgl, hin, hlt0, Bool.not_true, Bool.or_true, Bool.true_and, cond_true, Bool.and_self]
        simp only [List.getLast?_append, List.getLast?_singleton, Option.some_or, List.dropLast_concat]
        by_cases hneg : l < 0
        · rw [cond_pos (by rw [ltI_dec]; simpa using hneg)]
          simp only [decodeFill_eq N (hlow l (by simp) hneg) (by have := hfill l (by simp); omega), oSome_some, oGet_some, cond_true, eqI_dec]
          by_cases he : (if bitOf l = 0 then (0 : Int) else 2147483647) = gs[i]
          · rw [cond_pos (by simpa using he), if_pos ⟨hneg, he⟩, lset_def, isub64 (by have := hfill l (by simp); omega) (by omega)]
            simp
          · rw [cond_neg (by simpa using he), if_neg (fun h => he h.2)]
            exact hnew
        · rw [cond_neg (by rw [ltI_dec]; simp; omega), if_neg (fun h => hneg h.1)]
          exact hnew
  · intro ih
    rw [cond_neg (nlt_len (Nat.lt_irrefl _)), List.take_length]

/-! ## The reference's reader -/
theorem testBit_mod (w i : Nat) : decide (w / 2 ^ i % 2 = 1) = w.testBit i := by
  rw [Nat.testBit_eq_decide_div_mod_eq]

theorem rep_snoc {α : Type} (n : Nat) (x : α) : List.replicate n x ++ [x] = List.replicate (n + 1) x := by
  rw [List.replicate_succ', ]

/-- The reader on a canonical bitmap. -/
theorem bits_eq (N : Nat) {n : Nat} (ws : List Int) (hn : n ≤ 100000) (h : WOk ws ((n + 30) / 31)) (hz : ∀ k, n ≤ k → ∀ b, (dec ws)[k]? = some b → b = false) (hN : 200000 < N) :
    F_stemref4_Bits N (((n : Int), (ws, ())), ()) = some (((dec ws).take n, (true, ())), ()) := by
  have hlen := canon_len _ _ h.canon
  have hdl := h.len
  have htake : ∀ i, (dec (ws.take i)).length ≤ (dec ws).length := fun i => by
    conv => rhs; rw [← List.take_append_drop i ws]
    simp only [dec, List.flatMap_append, List.length_append]; omega
  have hfill : ∀ i (hi : i < ws.length), ws[i] < 0 → (dec (ws.take i)).length + 31 * fillN ws[i] ≤ n + 30 := fun i hi hneg => by
    have := htake (i + 1)
    rw [take_snoc hi, dec_snoc, List.length_append, wdec_length hneg] at this
    omega
  simp only [F_stemref4_Bits, letJ_def]
  refine iterF_seq (fun i => (dec (ws.take i), (lastF 2 (ws.take i), ((i : Int), ())))) ws.length _ rfl ?_ ?_ (by omega)
  · intro i hi ih
    have hok := canon_at _ _ h.canon i hi
    have ht := htake i
    rw [take_snoc hi, dec_snoc, lastF_snoc]
    rw [cond_pos (lt_len hi), cond_pos (inB_len hi), lget_at 0 hi, iadd_nat (by omega)]
    generalize hw : ws[i] = w at *
    generalize hout : dec (ws.take i) = out at *
    by_cases hpos : 0 ≤ w
    · have hw2 : 0 < w ∧ w < 2147483647 := hok.resolve_right (fun h => by omega)
      obtain ⟨m, rfl⟩ : ∃ m : Nat, w = (m : Int) := ⟨w.toNat, by omega⟩
      rw [cond_pos (by rw [leI_dec]; simp), cond_neg (by rw [eqI_dec, leI_dec]; simp; omega)]
      simp only [nextW, hpos, if_true, wdec_pos hpos]
      refine iterF_run (fun k => (out ++ (gbits (m : Int)).take k, ((k : Int), ()))) 31 _ (by simp) ?_ ?_ (by omega)
      · intro k hk ih2
        have hb : eqI (irem (shrI .i64 (m : Int) (k : Int)) 2) 1 = m.testBit k := by
          rw [shr64 (by omega), irem64 (Int.natCast_nonneg _), eqI_dec, ← testBit_mod]
          generalize m / 2 ^ k = q
          congr 1
          apply propext
          omega
        have hr : room2 (lenI (out ++ (gbits (m : Int)).take k)) (lenI ([m.testBit k] : List Bool)) 1 = true := room2_ok (by
          simp only [List.length_append, List.length_take, gbits_length, List.length_cons, List.length_nil]; omega)
        simp only [hb, hr]
        have hkb : k < (gbits (m : Int)).length := by rw [gbits_length]; exact hk
        rw [cond_pos (by rw [ltI_dec]; simp; omega), cond_pos (by rw [leI_dec, neI_dec]; simp), lapp_def, iadd_nat (i := k) (by omega), take_snoc hkb, List.append_assoc]
        simp [gbits]
      · intro ih2
        rw [cond_neg (by rw [ltI_dec]; rfl), List.take_of_length_le (by rw [gbits_length]; omega)]
    · have hneg : w < 0 := by omega
      have hw2 : w ≤ -2 ∧ bitOf w ≠ lastF 2 (ws.take i) := hok.resolve_left (fun h => by omega)
      have hf := hfill i hi (by rw [hw]; exact hneg)
      rw [hw, hout] at hf
      have hb01 : bitOf w = 0 ∨ bitOf w = 1 := by unfold bitOf; omega
      have hbit : ineg .i64 (irem w 2) = bitOf w := by
        have hd := Int.tmod_add_mul_tdiv w 2
        have hr : irem w 2 = w.tmod 2 := irem_def _ _
        have h1 : -2 < w.tmod 2 ∧ w.tmod 2 < 2 := ⟨by have := Int.lt_tmod_of_pos w (b := 2) (by omega); omega, Int.tmod_lt_of_pos _ (by omega)⟩
        have h2 : w.tmod 2 ≤ 0 := by
          have := Int.tmod_nonneg (b := 2) (a := -w) (by omega)
          rw [Int.neg_tmod] at this; omega
        rw [hr, ineg64 (by omega) (by omega)]
        unfold bitOf; omega
      have hwl : -400000 ≤ w := by unfold fillN at hf; omega
      rw [cond_neg (by rw [leI_dec]; simp; omega), cond_pos (by rw [neI_dec]; rfl)]
      simp only [hbit]
      rw [imul64 (by omega) (by omega), isub64 (by omega) (by omega)]
      rw [cond_neg (by
        rw [eqI_dec, eqI_dec, ltI_dec]
        unfold fillN at hf
        simp only [Bool.or_eq_false_iff, decide_eq_false_iff_not]
        refine ⟨⟨by omega, hw2.2⟩, by omega⟩)]
      have hnw : nextW (lastF 2 (ws.take i)) w = bitOf w := by unfold nextW; rw [if_neg hpos]
      have hwd : wdec w = List.replicate (31 * fillN w) (decide (bitOf w = 1)) := by unfold wdec; rw [if_neg hpos]
      have heq1 : eqI (bitOf w) 1 = decide (bitOf w = 1) := eqI_dec _ _
      simp only [hnw, hwd, heq1]
      generalize decide (bitOf w = 1) = bb
      refine iterF_run (fun k => (out ++ List.replicate (31 * k) bb, (w + 2 * (k : Int), ()))) (fillN w) _ (by simp) ?_ ?_ (by omega)
      · intro k hk ih2
        dsimp only
        rw [cond_pos (by rw [ltI_dec]; unfold fillN at hk; simp; omega)]
        refine iterF_run (fun j => (out ++ List.replicate (31 * k + j) bb, ((j : Int), ()))) 31 _ (by simp) ?_ ?_ (by omega)
        · intro j hj ih3
          have hr : room2 (lenI (out ++ List.replicate (31 * k + j) bb)) (lenI ([bb] : List Bool)) 1 = true := room2_ok (by
            simp only [List.length_append, List.length_replicate, List.length_cons, List.length_nil]; omega)
          rw [cond_pos (by rw [ltI_dec]; simp; omega), cond_pos hr, lapp_def, iadd_nat (by omega), List.append_assoc, rep_snoc]
          rfl
        · intro ih3
          dsimp only
          rw [cond_neg (by rw [ltI_dec]; rfl), cond_neg (by
            rw [ltI_dec, lenI_def, iadd64 (by omega) (by omega)]
            simp only [List.length_append, List.length_replicate, decide_eq_false_iff_not]
            omega), iadd64 (by omega) (by omega)]
          rw [show w + 2 * (k : Int) + 2 = w + 2 * ((k + 1 : Nat) : Int) by omega]
          rfl
      · intro ih2
        rw [cond_neg (by rw [ltI_dec]; unfold fillN; simp; omega)]
  · intro ih
    dsimp only
    rw [cond_neg (nlt_len (Nat.lt_irrefl _)), cond_pos (by rw [neI_dec]; rfl), List.take_length]
    have e : imul .i64 (iquo .i64 (iadd .i64 (n : Int) 30) 31) 31 = ((dec ws).length : Int) := by
      rw [iadd64 (by omega) (by omega), iquo64 (by omega) (by omega) (by omega), imul64 (by omega) (by omega), hdl]
      omega
    rw [e, cond_neg (by rw [neI_dec, lenI_def]; simp)]
    refine iterF_run (fun k => (((n + k : Nat) : Int), ())) ((dec ws).length - n) _ rfl ?_ ?_ (by omega)
    · intro k hk ih2
      have hk' : n + k < (dec ws).length := by omega
      have : lget (dec ws) ((n + k : Nat) : Int) false = false := by
        rw [lget_at false hk']
        exact hz (n + k) (by omega) _ (List.getElem?_eq_getElem hk')
      rw [cond_pos (lt_len hk'), cond_pos (inB_len hk'), this, cond_neg rfl, iadd_nat (by omega)]
      rfl
    · intro ih2
      rw [cond_neg (nlt_len (by omega)), cond_pos (by rw [inS_dec, lenI_def]; simp; omega), slice_to]

end
end Go.Proofs.YtpnklahcegahiaaDoor
