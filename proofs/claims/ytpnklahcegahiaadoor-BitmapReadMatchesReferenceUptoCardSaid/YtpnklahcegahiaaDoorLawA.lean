/- BitmapReadMatchesReference: for every input whose reading is of bulk at most 1048576 the law returns true, and each argument reads behind the call as it read before. -/
import Derived.Test.YtpnklahcegahiaaDoorCards
import Derived.Test.YtpnklahcegahiaaDoorTie
import Derived.Deep.DeepHandedRow
import Derived.Lib.LaidTab
import Derived.Test.YtpnklahcegahiaaDoorBmn
import Derived.WalkKit
import Derived.ProofKit
import Derived.OpenShut
import Derived.JoinedCond
set_option linter.unusedVariables false
set_option linter.unusedSimpArgs false
set_option linter.unnecessarySimpa false
set_option linter.unusedSectionVars false
namespace Go.Proofs.YtpnklahcegahiaaDoor.bitmapReadMatchesReference
open Go.ChangeShapes Go.WideShapes Go.ChangeAt Go.RowKit Go.Vi

theorem own : ownKnob Tryd.prog.godebug = none := by kernel_rfl
theorem bulky (H : Type) : Bulky (H := H) Rows.uptoBulk Rows.uptoBulkAll where
  int k n := by simp [Rows.uptoBulk]
  bool b := by simp [Rows.uptoBulk]
  str s := by simp [Rows.uptoBulk]
  nil := by simp [Rows.uptoBulk]
  slice es sp := by simp only [Rows.uptoBulk]; omega
  agg ps := by simp only [Rows.uptoBulk]; omega
  cons d r := by simp only [Rows.uptoBulkAll]; omega

theorem specAt (H : Type) : ∀ ds : List (DataW H), ds.length = 2 → Rows.bitmapReadMatchesReferenceSpec.fn H ds = { results := [.lit (.bool true)], args := ds }
  | [d0, d1], _ => rfl

theorem gTab : Tryd.prog.globalNamed "math/bits.deBruijn64tab" = some 0 := by kernel_rfl
theorem gTabType : (Tryd.prog.globals[0]?).map (·.type) = some 143 := by kernel_rfl
theorem cells143 : Tryd.prog.cellsOf 143 = 64 := by kernel_rfl
theorem cells5 : Tryd.prog.cellsOf 5 = 1 := by kernel_rfl
theorem under143 : Tryd.prog.underlying 143 = some (.array 64 5) := by kernel_rfl
theorem under5 : Tryd.prog.underlying 5 = some (.int .u8) := by kernel_rfl

/-- What the row's list gives: the table's cells hold its numbers. -/
theorem table {W : World} (h : laidMetH Tryd.prog Rows.bitmapReadMatchesReferenceUptoRow.laid W) : Lib.TabIs Tryd.prog W "math/bits.deBruijn64tab" .u8 tab_0_is :=
  Lib.tabIs_of_head (rest := []) gTab gTabType under143 under5 cells5 cells143 h

theorem flat_one {α β : Type} (f : α → β) : (l : List α) → l.map f = (l.map fun z => [f z]).flatten
  | [] => rfl
  | x :: l => by simp only [List.map_cons, List.flatten_cons, ← flat_one f l]; rfl
theorem tab_has : ∀ z ∈ tab_0_is, 0 ≤ z ∧ z ≤ 255 := by decide +kernel
theorem tab_len : tab_0_is.length = 64 := by kernel_rfl
theorem tabs {W : World} (h : laidMetH Tryd.prog Rows.bitmapReadMatchesReferenceUptoRow.laid W) : TabsOk gT W fun b => b < W.heap.size := by
  intro g r hr
  unfold gT at hr
  split at hr
  · rename_i e _
    subst e
    injection hr with hr
    subst hr
    have hc : ∀ i, i < tab_0_is.length → W.cell? ⟨0, i, none⟩ = some (.int .u8 (tab_0_is.getD i 0)) := fun i hi => (table h).cell gTab i hi
    have hs : 0 < W.heap.size := by
      apply Nat.pos_of_ne_zero
      intro h0
      have h1 := hc 0 (by rw [tab_len]; decide)
      simp [World.cell?, h0] at h1
    refine ⟨hs, hs, tab_0_is.map (fun z => .int .u8 z), fun j u hj => ?_, ?_⟩
    · rw [List.getElem?_map] at hj
      cases hz : tab_0_is[j]? with
      | none => rw [hz] at hj; cases hj
      | some z =>
        rw [hz] at hj
        injection hj with hj
        subst hj
        obtain ⟨hj, rfl⟩ := List.getElem?_eq_some_iff.1 hz
        have h1 := hc j hj
        rw [List.getD_eq_getElem?_getD, hz] at h1
        have ea : (⟨0, 0, none⟩ : Addr).add j = ⟨0, j, none⟩ := by simp [Addr.add]; exact fun h => h.symm
        rw [ea]
        exact h1
    · refine ⟨by rw [tab_0_def, tab_len], tab_0_is.map (fun z => [.int .u8 z]), by rw [List.length_map, tab_len], flat_one _ _, fun i x c hx hcc => ?_⟩
      rw [tab_0_def] at hx
      rw [List.getElem?_map, hx] at hcc
      injection hcc with hcc
      subst hcc
      have hm := tab_has x (List.mem_of_getElem? hx)
      exact ⟨rfl, by constructor <;> simp [IntKind.min, IntKind.max, IntKind.signed, IntKind.bits] <;> omega⟩
  · cases hr

set_option maxRecDepth 100000 in
theorem contract (H : Type) (enc : TypeId × Value → H) (W : World) (base : Nat) (args : Array Value) (ds gs : List (DataW H)) (before : List MemPlace)
    (hval : ∀ (j : Nat) t v, Tryd.f3.params[j]? = some t → args[j]? = some v → Value.okWide Tryd.prog W .any base t v)
    (hW : DataW.Whole enc Tryd.prog Tryd.f3.params.toList Rows.bitmapReadMatchesReferenceSpec.vars false W args.toList ds gs before) (hL : laidMetH Tryd.prog Rows.bitmapReadMatchesReferenceUptoRow.laid W) (hk : Rows.uptoSmall H (ds ++ gs) = true) :
    Calls Tryd.prog 3 args W fun e W' => ∃ v, e = .returned v ∧ Rows.bitmapReadMatchesReferenceSpec.post enc Tryd.prog Tryd.f3 false true false false W args v W' :=
  law_contractT (T := gT) (bulky H) (B := 1048576) (us := [(.pair (.int .i64) (.pair (.slice (.int .i64)) .unit)), (.int .i64)]) (ts := [24, 3]) (tb := 4) (by kernel_rfl) (by kernel_rfl) (by kernel_rfl) (by kernel_rfl) (by kernel_rfl) (by kernel_rfl) rfl (specAt H) ok_stemlaw4_BitmapReadMatchesReference ((fun x hg h => lawUpto x hg h)) (tabs hL) hval hW (of_decide_eq_true hk)

/-- A world for the witness: the settled one, the table holding what its initialiser lays. -/
noncomputable def laidWorld (os : Os) : World :=
  { World.holding Tryd.prog os ⟨#[], #[], []⟩ with heap := (World.holding Tryd.prog os ⟨#[], #[], []⟩).heap.modify 0 fun
      | .cells _ t frozen => .cells (tab_0_is.map fun z => Value.int .u8 z).toArray t frozen
      | o => o }
def wArgs : Array Value := #[.agg #[.int .i64 0, .slice none 0 0], .int .i64 0]
theorem laid_met (os : Os) : laidMet Tryd.prog Rows.bitmapReadMatchesReferenceUptoRow.laid ((laidWorld os).forCall (fun _ _ => 0) ⟨#[], wArgs, []⟩).memory :=
  laidMet_of_run' 8 (by kernel_rfl) (by kernel_rfl)
theorem reads (os : Os) {H : Type} (enc : TypeId × Value → H) : ∃ places, DataW.whole enc Tryd.prog ((laidWorld os).forCall (fun _ _ => 0) ⟨#[], wArgs, []⟩).memory Tryd.f3.params.toList Rows.bitmapReadMatchesReferenceSpec.vars false wArgs.toList 8 = some ([.agg [.lit (.int .i64 0), .nil], .lit (.int .i64 0)], [], places) :=
  ⟨[], by kernel_rfl⟩

set_option maxRecDepth 100000 in
theorem liftedUpto (os : Os) (started : os.Started) (H : Type) (enc : TypeId × Value → H) (F : Stop.Interp) :
    ReturnsInHanded {} Tryd.checked os 3 .any ((Rows.OpenSpec.upto Rows.bitmapReadMatchesReferenceSpec).preRow enc Tryd.prog Tryd.f3 Rows.bitmapReadMatchesReferenceUptoRow.domain false Rows.bitmapReadMatchesReferenceUptoRow.laid) (((Rows.OpenSpec.upto Rows.bitmapReadMatchesReferenceSpec).at F).post enc Tryd.prog Tryd.f3 false true false false) := by
  obtain ⟨places, hx⟩ := reads os enc
  refine returnsInHanded_of_row (C := Tryd.checked) (s := Rows.OpenSpec.upto Rows.bitmapReadMatchesReferenceSpec) own started (by kernel_rfl) Tryd.func3
    (witness_row_at (enc := enc) (C := Tryd.checked) false (laidWorld os) wArgs rfl (by kernel_rfl) (by kernel_rfl) (by kernel_rfl)
      (OpenSpec.preRow_of_cond 8 hx (by kernel_rfl) (fun k hk => by cases hk; kernel_rfl) (by kernel_rfl) (laid_met os))) ?_
  intro W base args ds gs before hval hW _ hcond _ hL _ _
  exact contract H enc W base args ds gs before hval hW hL (hcond _ rfl)

theorem saidUpto : Rows.BitmapReadMatchesReferenceUptoSaid :=
  OpenClaim.holds_of_cond 3 Tryd.f3 rfl rfl rfl rfl rfl rfl rfl ⟨rfl, rfl, rfl, rfl, rfl⟩ rfl rfl rfl rfl rfl (by kernel_rfl) Tryd.func3 (by kernel_rfl)
    (of_decide_eq_true (by kernel_rfl)) (by unfold Func.isWrapper; first | (rw [if_pos (by decide +kernel)]; kernel_rfl) | (rw [if_neg (by decide +kernel)]; exact ⟨rfl, rfl⟩))
    (fun os started H enc _ F => by rw [OpenClaim.pre_eq_preRow]; exact liftedUpto os started H enc F)

/-- No parameter wants a stand-in; the program's own looks are off. -/
theorem plain (f : FuncId) (fn : Func) (hf : Tryd.pinned.checked.prog.funcNamed "stemma/stemlaw4.BitmapReadMatchesReference" = some f) (hfn : Tryd.pinned.checked.prog.funcs[f]? = some fn) :
    false = Tryd.pinned.checked.prog.looks [] ∧ ∀ (j : Nat) t, fn.params[j]? = some t → Tryd.pinned.checked.prog.wantsStandIn t = false := by
  obtain rfl : f = 3 := Option.some.inj ((show Tryd.prog.funcNamed "stemma/stemlaw4.BitmapReadMatchesReference" = some 3 by kernel_rfl).symm.trans hf) |>.symm
  obtain rfl : fn = Tryd.f3 := (Option.some.inj (Tryd.func3.symm.trans hfn)).symm
  refine ⟨by kernel_rfl, fun j t ht => ?_⟩
  have hp : Tryd.f3.params = #[24, 3] := by kernel_rfl
  rw [hp] at ht
  have ht' : t = 24 ∨ t = 3 := by simpa using Array.mem_of_getElem? ht
  rcases ht' with rfl | rfl
  · exact (show Tryd.prog.wantsStandIn 24 = false by kernel_rfl)
  · exact (show Tryd.prog.wantsStandIn 3 = false by kernel_rfl)

theorem proved : Rows.BitmapReadMatchesReferenceUptoCardSaid :=
  Claim7.holds_tied_plain_at .later [] _ _ _ _ saidUpto (fun _ h => by cases h) (by kernel_rfl) (fun _ h => by cases h) bitmapReadMatchesReferenceUpto_row_tie rfl ⟨rfl, rfl⟩ (by kernel_rfl) rfl plain (by kernel_rfl)
end Go.Proofs.YtpnklahcegahiaaDoor.bitmapReadMatchesReference
