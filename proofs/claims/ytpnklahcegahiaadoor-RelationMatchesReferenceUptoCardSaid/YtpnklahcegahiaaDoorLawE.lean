/- RelationMatchesReference: for every input the law returns true, and each argument reads behind the call as it read before; the package tables that the row lists are as the program's text lays them. -/
import Derived.Test.YtpnklahcegahiaaDoorCards
import Derived.Test.YtpnklahcegahiaaDoorTie
import Derived.Test.YtpnklahcegahiaaDoorRem
import Derived.WalkKit
import Derived.ProofKit
import Derived.OpenShut
import Derived.LaidMore
import Derived.Lay
import Derived.SevenTiedAt
import Derived.Stop.Joined
import Derived.Stop.LaidErr
import Derived.Deep.DeepHandedRow
import Derived.JoinedCond
import Derived.Lib.LaidTab
import Derived.Test.YtpnklahcegahiaaDoorViStd
set_option linter.unusedVariables false
set_option linter.unusedSimpArgs false
set_option linter.unnecessarySimpa false
set_option linter.unusedSectionVars false
namespace Go.Proofs.YtpnklahcegahiaaDoor.relationMatchesReference
open Go.ChangeShapes Go.WideShapes Go.ChangeAt Go.RowKit Go.Vi

theorem own : ownKnob Tryd.prog.godebug = none := by kernel_rfl
theorem bulky (H : Type) : Bulky (H := H) Rows.uptoBulk Rows.uptoBulkAll where
  int k n := by simp [Rows.uptoBulk]
  bool b := by simp [Rows.uptoBulk]
  str s := by simp [Rows.uptoBulk]
  nil := by simp [Rows.uptoBulk]
  slice es sp := by simp only [Rows.uptoBulk]; omega
  agg ps := by simp only [Rows.uptoBulk]; omega
  cons d r := by simp only [Rows.uptoBulkAll]; omega

theorem specAt (H : Type) : ∀ ds : List (DataW H), ds.length = 4 → Rows.relationMatchesReferenceSpec.fn H ds = { results := [.lit (.bool true)], args := ds }
  | [d0, d1, d2, d3], _ => rfl

theorem hg2 : Tryd.prog.globalNamed "internal/strconv.uint64pow10" = some 2 := by kernel_rfl
theorem ht2 : (Tryd.prog.globals[2]?).map (·.type) = some 187 := by kernel_rfl
theorem ua2 : Tryd.prog.underlying 187 = some (.array 20 90) := by kernel_rfl
theorem ue2 : Tryd.prog.underlying 90 = some (.int .u64) := by kernel_rfl
theorem ca2 : Tryd.prog.cellsOf 187 = 20 := by kernel_rfl
theorem ce2 : Tryd.prog.cellsOf 90 = 1 := by kernel_rfl
theorem has2 {W : World} (h : laidMet Tryd.prog Rows.relationMatchesReferenceUptoRow.laid W) : VarHas W 2 ⟨.arr 20 (.int .u64), tab_2⟩ :=
  VarHas.ints hg2 (by kernel_rfl) (by kernel_rfl) tab_2_def (Lib.tabIs_of_head hg2 ht2 ua2 ue2 ce2 ca2 h.tail.tail)
theorem tabs {W : World} (h : laidMetH Tryd.prog Rows.relationMatchesReferenceUptoRow.laid W) : TabsOk gT W fun b => b < W.heap.size := by
  rw [MakeChecks.laidMetH_plain _ _ _ (by kernel_rfl)] at h
  intro g r hr
  suffices hh : VarHas W g r from ⟨hh.1, hh.1, hh.2⟩
  unfold gT at hr
  split at hr
  · rename_i e _; subst e; injection hr with hr; subst hr; exact has2 h
  cases hr


theorem laid_met (os : Os) : laidMet Tryd.prog Rows.relationMatchesReferenceUptoRow.laid ((World.laidAll Tryd.prog os Rows.relationMatchesReferenceUptoRow.laid).forCall (fun _ _ => 0) ⟨#[], #[.agg #[.string .empty, .slice none 0 0, .slice none 0 0], .slice none 0 0, .slice none 0 0, .slice none 0 0], []⟩).memory :=
  laidMet_laidAll _ (by kernel_rfl) (by kernel_rfl)
theorem reads (os : Os) {H : Type} (enc : TypeId × Value → H) : ∃ places, DataW.whole enc Tryd.prog ((World.laidAll Tryd.prog os Rows.relationMatchesReferenceUptoRow.laid).forCall (fun _ _ => 0) ⟨#[], #[.agg #[.string .empty, .slice none 0 0, .slice none 0 0], .slice none 0 0, .slice none 0 0, .slice none 0 0], []⟩).memory Tryd.f7.params.toList Rows.relationMatchesReferenceSpec.vars false [.agg #[.string .empty, .slice none 0 0, .slice none 0 0], .slice none 0 0, .slice none 0 0, .slice none 0 0] 8 = some ([.agg [.lit (.string []), .nil, .nil], .nil, .nil, .nil], [], places) :=
  ⟨[], by kernel_rfl⟩

set_option maxRecDepth 100000 in
theorem contract (H : Type) (enc : TypeId × Value → H) (W : World) (base : Nat) (args : Array Value) (ds gs : List (DataW H)) (before : List MemPlace)
    (hval : ∀ (j : Nat) t v, Tryd.f7.params[j]? = some t → args[j]? = some v → Value.okWide Tryd.prog W .any base t v)
    (hW : DataW.Whole enc Tryd.prog Tryd.f7.params.toList Rows.relationMatchesReferenceSpec.vars false W args.toList ds gs before) (hL : laidMetH Tryd.prog Rows.relationMatchesReferenceUptoRow.laid W) (hk : Rows.uptoSmall H (ds ++ gs) = true) :
    Calls Tryd.prog 7 args W fun e W' => ∃ v, e = .returned v ∧ Rows.relationMatchesReferenceSpec.post enc Tryd.prog Tryd.f7 false true false false W args v W' :=
  law_contractT (T := gT) (bulky H) (B := 1048576) (us := [(.pair .str (.pair (.slice (.pair .str (.pair (.int .i64) (.pair .bool .unit)))) (.pair (.slice (.int .i64)) .unit))), (.slice (.slice (.pair (.int .i64) (.pair (.int .i64) (.pair .str .unit))))), (.slice (.pair (.int .i64) (.pair (.int .i64) (.pair .str .unit)))), (.slice (.pair (.int .i64) (.pair (.int .i64) (.pair .str .unit))))]) (ts := [43, 71, 73, 73]) (tb := 4) (by kernel_rfl) (by kernel_rfl) (by kernel_rfl) (by kernel_rfl) (by kernel_rfl) (by kernel_rfl) rfl (specAt H) ok_stemlaw2_RelationMatchesReference ((fun x hg h => law13 x hg h)) (tabs hL) hval hW (of_decide_eq_true hk)

set_option maxRecDepth 100000 in
theorem lifted (os : Os) (started : os.Started) (H : Type) (enc : TypeId × Value → H) (F : Stop.Interp) :
    ReturnsInHanded {} Tryd.checked os 7 .any ((Rows.OpenSpec.upto Rows.relationMatchesReferenceSpec).preRow enc Tryd.prog Tryd.f7 Rows.relationMatchesReferenceUptoRow.domain false Rows.relationMatchesReferenceUptoRow.laid) (((Rows.OpenSpec.upto Rows.relationMatchesReferenceSpec).at F).post enc Tryd.prog Tryd.f7 false true false false) := by
  obtain ⟨places, hx⟩ := reads os enc
  refine returnsInHanded_of_row (C := Tryd.checked) (s := Rows.OpenSpec.upto Rows.relationMatchesReferenceSpec) own started (by kernel_rfl) Tryd.func7
    (witness_row_at (enc := enc) (C := Tryd.checked) false (World.laidAll Tryd.prog os Rows.relationMatchesReferenceUptoRow.laid) #[.agg #[.string .empty, .slice none 0 0, .slice none 0 0], .slice none 0 0, .slice none 0 0, .slice none 0 0] (World.laidAll_os _ _ _) (by kernel_rfl) (by kernel_rfl) (by kernel_rfl)
      (OpenSpec.preRow_of_cond 8 hx (by kernel_rfl) (fun k hk => by cases hk; kernel_rfl) (by kernel_rfl) (laid_met os))) ?_
  intro W base args ds gs before hval hW _ hcond _ hL _ _
  exact contract H enc W base args ds gs before hval hW hL (hcond _ rfl)

theorem said : Rows.RelationMatchesReferenceUptoSaid :=
  OpenClaim.holds_of_cond 7 Tryd.f7 rfl rfl rfl rfl rfl rfl rfl ⟨rfl, rfl, rfl, rfl, rfl⟩ rfl rfl rfl rfl rfl (by kernel_rfl) Tryd.func7 (by kernel_rfl)
    (of_decide_eq_true (by kernel_rfl)) (by unfold Func.isWrapper; first | (rw [if_pos (by decide +kernel)]; kernel_rfl) | (rw [if_neg (by decide +kernel)]; exact ⟨rfl, rfl⟩))
    (fun os started H enc _ F => by rw [OpenClaim.pre_eq_preRow]; exact lifted os started H enc F)

/-- No parameter wants a stand-in; the program's own looks are off. -/
theorem plain (f : FuncId) (fn : Func) (hf : Tryd.pinned.checked.prog.funcNamed "stemma/stemlaw2.RelationMatchesReference" = some f) (hfn : Tryd.pinned.checked.prog.funcs[f]? = some fn) :
    false = Tryd.pinned.checked.prog.looks [] ∧ ∀ (j : Nat) t, fn.params[j]? = some t → Tryd.pinned.checked.prog.wantsStandIn t = false := by
  obtain rfl : f = 7 := Option.some.inj ((show Tryd.prog.funcNamed "stemma/stemlaw2.RelationMatchesReference" = some 7 by kernel_rfl).symm.trans hf) |>.symm
  obtain rfl : fn = Tryd.f7 := (Option.some.inj (Tryd.func7.symm.trans hfn)).symm
  refine ⟨by kernel_rfl, fun j t ht => ?_⟩
  have hp : Tryd.f7.params = #[43, 71, 73, 73] := by kernel_rfl
  rw [hp] at ht
  have hm : t ∈ [43, 71, 73, 73] := by simpa using Array.mem_of_getElem? ht
  have hall : ([43, 71, 73, 73].all fun u => !Tryd.prog.wantsStandIn u) = true := by kernel_rfl
  have := List.all_eq_true.1 hall t hm
  exact (by simpa using this : Tryd.prog.wantsStandIn t = false)

theorem proved : Rows.RelationMatchesReferenceUptoCardSaid :=
  Claim7.holds_tied_plain_at .later [] _ _ _ _ said (fun _ h => by cases h) (by kernel_rfl) (fun _ h => by cases h) relationMatchesReferenceUpto_row_tie rfl ⟨rfl, rfl⟩ (by kernel_rfl) rfl plain (by kernel_rfl)
end Go.Proofs.YtpnklahcegahiaaDoor.relationMatchesReference

