/- SchemaMatchesReference: for every input the law returns true, and each argument reads behind the call as it read before; the package tables that the row lists are as the program's text lays them. -/
import Derived.Test.YtolaedcogjhfbaaDoorCards
import Derived.Test.YtolaedcogjhfbaaDoorTie
import Derived.Test.YtolaedcogjhfbaaDoorLaw
import Derived.WalkKit
import Derived.ProofKit
import Derived.OpenShut
import Derived.LaidMore
import Derived.Lay
import Derived.SevenTiedAt
import Derived.Stop.Joined
import Derived.Stop.LaidErr
import Derived.Deep.DeepHandedRow
import Derived.JoinedCond
import Derived.Lib.LaidTab
import Derived.Test.YtolaedcogjhfbaaDoorViStd
set_option linter.unusedVariables false
set_option linter.unusedSimpArgs false
set_option linter.unnecessarySimpa false
set_option linter.unusedSectionVars false
namespace Go.Proofs.YtolaedcogjhfbaaDoor.schemaMatchesReference
open Go.ChangeShapes Go.WideShapes Go.ChangeAt Go.RowKit Go.Vi

theorem own : ownKnob Tryd.prog.godebug = none := by kernel_rfl
theorem bulky (H : Type) : Bulky (H := H) Rows.uptoBulk Rows.uptoBulkAll where
  int k n := by simp [Rows.uptoBulk]
  bool b := by simp [Rows.uptoBulk]
  str s := by simp [Rows.uptoBulk]
  nil := by simp [Rows.uptoBulk]
  slice es sp := by simp only [Rows.uptoBulk]; omega
  agg ps := by simp only [Rows.uptoBulk]; omega
  cons d r := by simp only [Rows.uptoBulkAll]; omega

theorem specAt (H : Type) : ∀ ds : List (DataW H), ds.length = 3 → Rows.schemaMatchesReferenceSpec.fn H ds = { results := [.lit (.bool true)], args := ds }
  | [d0, d1, d2], _ => rfl

theorem hg3 : Tryd.prog.globalNamed "internal/strconv.uint64pow10" = some 3 := by kernel_rfl
theorem ht3 : (Tryd.prog.globals[3]?).map (·.type) = some 134 := by kernel_rfl
theorem ua3 : Tryd.prog.underlying 134 = some (.array 20 118) := by kernel_rfl
theorem ue3 : Tryd.prog.underlying 118 = some (.int .u64) := by kernel_rfl
theorem ca3 : Tryd.prog.cellsOf 134 = 20 := by kernel_rfl
theorem ce3 : Tryd.prog.cellsOf 118 = 1 := by kernel_rfl
theorem has3 {W : World} (h : laidMet Tryd.prog Rows.schemaMatchesReferenceUptoRow.laid W) : VarHas W 3 ⟨.arr 20 (.int .u64), tab_3⟩ :=
  VarHas.ints hg3 (by kernel_rfl) (by kernel_rfl) tab_3_def (Lib.tabIs_of_head hg3 ht3 ua3 ue3 ce3 ca3 h.tail.tail)
theorem tabs {W : World} (h : laidMetH Tryd.prog Rows.schemaMatchesReferenceUptoRow.laid W) : TabsOk gT W fun b => b < W.heap.size := by
  rw [MakeChecks.laidMetH_plain _ _ _ (by kernel_rfl)] at h
  intro g r hr
  suffices hh : VarHas W g r from ⟨hh.1, hh.1, hh.2⟩
  unfold gT at hr
  split at hr
  · rename_i e _; subst e; injection hr with hr; subst hr; exact has3 h
  cases hr


theorem laid_met (os : Os) : laidMet Tryd.prog Rows.schemaMatchesReferenceUptoRow.laid ((World.laidAll Tryd.prog os Rows.schemaMatchesReferenceUptoRow.laid).forCall (fun _ _ => 0) ⟨#[], #[.agg #[.slice none 0 0, .slice none 0 0, .slice none 0 0], .agg #[.slice none 0 0, .slice none 0 0, .slice none 0 0], .string .empty], []⟩).memory :=
  laidMet_laidAll _ (by kernel_rfl) (by kernel_rfl)
theorem reads (os : Os) {H : Type} (enc : TypeId × Value → H) : ∃ places, DataW.whole enc Tryd.prog ((World.laidAll Tryd.prog os Rows.schemaMatchesReferenceUptoRow.laid).forCall (fun _ _ => 0) ⟨#[], #[.agg #[.slice none 0 0, .slice none 0 0, .slice none 0 0], .agg #[.slice none 0 0, .slice none 0 0, .slice none 0 0], .string .empty], []⟩).memory Tryd.f3.params.toList Rows.schemaMatchesReferenceSpec.vars false [.agg #[.slice none 0 0, .slice none 0 0, .slice none 0 0], .agg #[.slice none 0 0, .slice none 0 0, .slice none 0 0], .string .empty] 8 = some ([.agg [.nil, .nil, .nil], .agg [.nil, .nil, .nil], .lit (.string [])], [], places) :=
  ⟨[], by kernel_rfl⟩

set_option maxRecDepth 100000 in
theorem contract (H : Type) (enc : TypeId × Value → H) (W : World) (base : Nat) (args : Array Value) (ds gs : List (DataW H)) (before : List MemPlace)
    (hval : ∀ (j : Nat) t v, Tryd.f3.params[j]? = some t → args[j]? = some v → Value.okWide Tryd.prog W .any base t v)
    (hW : DataW.Whole enc Tryd.prog Tryd.f3.params.toList Rows.schemaMatchesReferenceSpec.vars false W args.toList ds gs before) (hL : laidMetH Tryd.prog Rows.schemaMatchesReferenceUptoRow.laid W) (hk : Rows.uptoSmall H (ds ++ gs) = true) :
    Calls Tryd.prog 3 args W fun e W' => ∃ v, e = .returned v ∧ Rows.schemaMatchesReferenceSpec.post enc Tryd.prog Tryd.f3 false true false false W args v W' :=
  law_contractT (T := gT) (bulky H) (B := 1048576) (us := [(.pair (.slice (.pair .str (.pair (.slice (.pair .str (.pair (.int .i64) (.pair .bool .unit)))) (.pair (.slice (.int .i64)) .unit)))) (.pair (.slice (.pair .str (.pair (.slice (.int .i64)) (.pair .str .unit)))) (.pair (.slice (.pair .str (.pair (.int .i64) (.pair .str (.pair (.int .i64) (.pair (.pair (.int .i64) (.pair (.int .i64) (.pair .str .unit))) .unit)))))) .unit))), (.pair (.slice (.pair .str (.pair (.slice (.pair .str (.pair (.int .i64) (.pair .bool .unit)))) (.pair (.slice (.int .i64)) .unit)))) (.pair (.slice (.pair .str (.pair (.slice (.int .i64)) (.pair .str .unit)))) (.pair (.slice (.pair .str (.pair (.int .i64) (.pair .str (.pair (.int .i64) (.pair (.pair (.int .i64) (.pair (.int .i64) (.pair .str .unit))) .unit)))))) .unit))), .str]) (ts := [26, 26, 9]) (tb := 4) (by kernel_rfl) (by kernel_rfl) (by kernel_rfl) (by kernel_rfl) (by kernel_rfl) (by kernel_rfl) rfl (specAt H) ok_stemlaw2_SchemaMatchesReference (fun x hg hb => law21 x hg hb) (tabs hL) hval hW (of_decide_eq_true hk)

set_option maxRecDepth 100000 in
theorem lifted (os : Os) (started : os.Started) (H : Type) (enc : TypeId × Value → H) (F : Stop.Interp) :
    ReturnsInHanded {} Tryd.checked os 3 .any ((Rows.OpenSpec.upto Rows.schemaMatchesReferenceSpec).preRow enc Tryd.prog Tryd.f3 Rows.schemaMatchesReferenceUptoRow.domain false Rows.schemaMatchesReferenceUptoRow.laid) (((Rows.OpenSpec.upto Rows.schemaMatchesReferenceSpec).at F).post enc Tryd.prog Tryd.f3 false true false false) := by
  obtain ⟨places, hx⟩ := reads os enc
  refine returnsInHanded_of_row (C := Tryd.checked) (s := Rows.OpenSpec.upto Rows.schemaMatchesReferenceSpec) own started (by kernel_rfl) Tryd.func3
    (witness_row_at (enc := enc) (C := Tryd.checked) false (World.laidAll Tryd.prog os Rows.schemaMatchesReferenceUptoRow.laid) #[.agg #[.slice none 0 0, .slice none 0 0, .slice none 0 0], .agg #[.slice none 0 0, .slice none 0 0, .slice none 0 0], .string .empty] (World.laidAll_os _ _ _) (by kernel_rfl) (by kernel_rfl) (by kernel_rfl)
      (OpenSpec.preRow_of_cond 8 hx (by kernel_rfl) (fun k hk => by cases hk; kernel_rfl) (by kernel_rfl) (laid_met os))) ?_
  intro W base args ds gs before hval hW _ hcond _ hL _ _
  exact contract H enc W base args ds gs before hval hW hL (hcond _ rfl)

theorem said : Rows.SchemaMatchesReferenceUptoSaid :=
  OpenClaim.holds_of_cond 3 Tryd.f3 rfl rfl rfl rfl rfl rfl rfl ⟨rfl, rfl, rfl, rfl, rfl⟩ rfl rfl rfl rfl rfl (by kernel_rfl) Tryd.func3 (by kernel_rfl)
    (of_decide_eq_true (by kernel_rfl)) (by unfold Func.isWrapper; first | (rw [if_pos (by decide +kernel)]; kernel_rfl) | (rw [if_neg (by decide +kernel)]; exact ⟨rfl, rfl⟩))
    (fun os started H enc _ F => by rw [OpenClaim.pre_eq_preRow]; exact lifted os started H enc F)

/-- No parameter wants a stand-in; the program's own looks are off. -/
theorem plain (f : FuncId) (fn : Func) (hf : Tryd.pinned.checked.prog.funcNamed "stemma/stemlaw2.SchemaMatchesReference" = some f) (hfn : Tryd.pinned.checked.prog.funcs[f]? = some fn) :
    false = Tryd.pinned.checked.prog.looks [] ∧ ∀ (j : Nat) t, fn.params[j]? = some t → Tryd.pinned.checked.prog.wantsStandIn t = false := by
  obtain rfl : f = 3 := Option.some.inj ((show Tryd.prog.funcNamed "stemma/stemlaw2.SchemaMatchesReference" = some 3 by kernel_rfl).symm.trans hf) |>.symm
  obtain rfl : fn = Tryd.f3 := (Option.some.inj (Tryd.func3.symm.trans hfn)).symm
  refine ⟨by kernel_rfl, fun j t ht => ?_⟩
  have hp : Tryd.f3.params = #[26, 26, 9] := by kernel_rfl
  rw [hp] at ht
  have hm : t ∈ [26, 26, 9] := by simpa using Array.mem_of_getElem? ht
  have hall : ([26, 26, 9].all fun u => !Tryd.prog.wantsStandIn u) = true := by kernel_rfl
  have := List.all_eq_true.1 hall t hm
  exact (by simpa using this : Tryd.prog.wantsStandIn t = false)

theorem proved : Rows.SchemaMatchesReferenceUptoCardSaid :=
  Claim7.holds_tied_plain_at .later [] _ _ _ _ said (fun _ h => by cases h) (by kernel_rfl) (fun _ h => by cases h) schemaMatchesReferenceUpto_row_tie rfl ⟨rfl, rfl⟩ (by kernel_rfl) rfl plain (by kernel_rfl)
end Go.Proofs.YtolaedcogjhfbaaDoor.schemaMatchesReference

