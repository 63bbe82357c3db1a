/- ValueConvertMatchesReference: for every input the law returns true, and each argument reads behind the call as it read before; the package tables that the row lists are as the program's text lays them. -/
import Derived.Test.YtigjpdkeijcabaaDoorCards
import Derived.Test.YtigjpdkeijcabaaDoorTie
import Derived.Test.YtigjpdkeijcabaaDoorCon
import Derived.WalkKit
import Derived.ProofKit
import Derived.OpenShut
import Derived.LaidMore
import Derived.Lay
import Derived.SevenTiedAt
import Derived.Stop.Joined
import Derived.Stop.LaidErr
import Derived.Lib.LaidTab
import Derived.Test.YtigjpdkeijcabaaDoorViStd
set_option linter.unusedVariables false
set_option linter.unusedSimpArgs false
set_option linter.unnecessarySimpa false
set_option linter.unusedSectionVars false
namespace Go.Proofs.YtigjpdkeijcabaaDoor.valueConvertMatchesReference
open Go.ChangeShapes Go.WideShapes Go.ChangeAt Go.RowKit Go.Vi

theorem own : ownKnob Tryd.prog.godebug = none := by kernel_rfl
theorem bulky (H : Type) : Bulky (H := H) Rows.uptoBulk Rows.uptoBulkAll where
  int k n := by simp [Rows.uptoBulk]
  bool b := by simp [Rows.uptoBulk]
  str s := by simp [Rows.uptoBulk]
  nil := by simp [Rows.uptoBulk]
  slice es sp := by simp only [Rows.uptoBulk]; omega
  agg ps := by simp only [Rows.uptoBulk]; omega
  cons d r := by simp only [Rows.uptoBulkAll]; omega

theorem specAt (H : Type) : ∀ ds : List (DataW H), ds.length = 2 → Rows.valueConvertMatchesReferenceSpec.fn H ds = { results := [.lit (.bool true)], args := ds }
  | [d0, d1], _ => rfl

theorem uErr : Tryd.prog.underlying 55 = some (.interface #[("Error", 140)]) := by kernel_rfl
theorem uPtr : Tryd.prog.underlying 122 = some (.pointer 124) := by kernel_rfl
theorem uStr : Tryd.prog.underlying 9 = some .string := by kernel_rfl
theorem uES : Tryd.prog.underlying 124 = some (.struct #[{ name := "s", type := 9, offset := 0, embedded := false, tag := "", pkgPath := "errors", byteOffset := 0 }]) := by kernel_rfl
theorem cES : Tryd.prog.cellsOf 124 = 1 := by kernel_rfl
theorem cStr : Tryd.prog.cellsOf 9 = 1 := by kernel_rfl
theorem star : "*" ++ "errors.errorString" = "*errors.errorString" := by decide
theorem rowES (u : TypeId) (h : Tryd.prog.typeName? 3 u = some "*errors.errorString") : u = 122 :=
  typeName_ptr_named (nm := "errors.errorString") (by rw [star]; kernel_rfl) (by kernel_rfl) (by decide) u (by rw [star]; exact h)
theorem hg0 : Tryd.prog.globalNamed "strconv.ErrSyntax" = some 0 := by kernel_rfl
theorem ht0 : (Tryd.prog.globals[0]?).map (·.type) = some 55 := by kernel_rfl
theorem has0 {W : World} (h : laidMet Tryd.prog Rows.valueConvertMatchesReferenceRow.laid W) : VarHas W 0 ⟨.err, false⟩ := by
  obtain ⟨a, s, hv, _⟩ := laid_sentinel h.tail.tail.tail.tail hg0 ht0 uErr rowES uPtr uES rfl rfl uStr cES cStr
  exact VarHas.err hg0 hv
theorem hg1 : Tryd.prog.globalNamed "strconv.ErrRange" = some 1 := by kernel_rfl
theorem ht1 : (Tryd.prog.globals[1]?).map (·.type) = some 55 := by kernel_rfl
theorem has1 {W : World} (h : laidMet Tryd.prog Rows.valueConvertMatchesReferenceRow.laid W) : VarHas W 1 ⟨.err, false⟩ := by
  obtain ⟨a, s, hv, _⟩ := laid_sentinel h.tail.tail.tail hg1 ht1 uErr rowES uPtr uES rfl rfl uStr cES cStr
  exact VarHas.err hg1 hv
theorem hg2 : Tryd.prog.globalNamed "internal/strconv.uint64pow10" = some 2 := by kernel_rfl
theorem ht2 : (Tryd.prog.globals[2]?).map (·.type) = some 116 := by kernel_rfl
theorem ua2 : Tryd.prog.underlying 116 = some (.array 20 77) := by kernel_rfl
theorem ue2 : Tryd.prog.underlying 77 = some (.int .u64) := by kernel_rfl
theorem ca2 : Tryd.prog.cellsOf 116 = 20 := by kernel_rfl
theorem ce2 : Tryd.prog.cellsOf 77 = 1 := by kernel_rfl
theorem has2 {W : World} (h : laidMet Tryd.prog Rows.valueConvertMatchesReferenceRow.laid W) : VarHas W 2 ⟨.arr 20 (.int .u64), tab_2⟩ :=
  VarHas.ints hg2 (by kernel_rfl) (by kernel_rfl) tab_2_def (Lib.tabIs_of_head hg2 ht2 ua2 ue2 ce2 ca2 h.tail.tail)
theorem tabs {W : World} (h : laidMetH Tryd.prog Rows.valueConvertMatchesReferenceRow.laid W) : TabsOk gT W fun b => b < W.heap.size := by
  rw [MakeChecks.laidMetH_plain _ _ _ (by kernel_rfl)] at h
  intro g r hr
  suffices hh : VarHas W g r from ⟨hh.1, hh.1, hh.2⟩
  unfold gT at hr
  split at hr
  · rename_i e _; subst e; injection hr with hr; subst hr; exact has0 h
  split at hr
  · rename_i e _; subst e; injection hr with hr; subst hr; exact has1 h
  split at hr
  · rename_i e _; subst e; injection hr with hr; subst hr; exact has2 h
  cases hr


set_option maxRecDepth 100000 in
theorem lifted (os : Os) (started : os.Started) (H : Type) (enc : TypeId × Value → H) :
    ReturnsInHanded {} Tryd.checked os 4 .any (fun w args => (Rows.valueConvertMatchesReferenceSpec.pre enc Tryd.prog Tryd.f4 Rows.valueConvertMatchesReferenceRow.domain false w args ∧ laidMetH Tryd.prog Rows.valueConvertMatchesReferenceRow.laid w) ∧ sizedMet enc Tryd.prog Tryd.f4 (OpenSpec.ofChange Rows.valueConvertMatchesReferenceSpec) false w args)
      (Rows.valueConvertMatchesReferenceSpec.post enc Tryd.prog Tryd.f4 false true false false) := by
  refine returnsInHanded_of_change_and (C := Tryd.checked) (X := fun w _ => laidMetH Tryd.prog Rows.valueConvertMatchesReferenceRow.laid w) (fun _ _ _ hh h => h.of_heap hh) own started (by kernel_rfl) Tryd.func4
    (ChangeSpec.witness_shaped (enc := enc) (C := Tryd.checked) (os := os) (X := fun w _ => laidMetH Tryd.prog Rows.valueConvertMatchesReferenceRow.laid w) false (World.laidAll Tryd.prog os Rows.valueConvertMatchesReferenceRow.laid) #[.agg #[.int .i64 0, .int .i64 0, .string .empty], .int .i64 0] 8 (World.laidAll_os _ _ _)
      (World.shaped_of_ZipB (by kernel_rfl) (by kernel_rfl)) (by kernel_rfl) (by kernel_rfl) (by kernel_rfl)
      (by rw [MakeChecks.laidMetH_plain _ _ _ (by kernel_rfl)]; exact laidMet_laidAll _ (by kernel_rfl) (by kernel_rfl))) ?_
  intro W base args ds gs before hval hW _ _ hL _
  exact law_contractT (T := gT) (bulky H) (B := Rows.uptoBulkAll (ds ++ gs)) (us := [(.pair (.int .i64) (.pair (.int .i64) (.pair .str .unit))), (.int .i64)]) (ts := [33, 3]) (tb := 4) (by kernel_rfl) (by kernel_rfl) (by kernel_rfl) (by kernel_rfl) (by kernel_rfl) (by kernel_rfl) rfl (specAt H) ok_stemlaw2_ValueConvertMatchesReference ((fun x _ _ => law16 x)) (tabs hL) hval hW (Nat.le_refl _)

theorem said : Rows.ValueConvertMatchesReferenceSaid :=
  OpenClaim.holds_of_wide 4 Tryd.f4 rfl rfl rfl rfl rfl rfl rfl ⟨rfl, rfl, rfl, rfl, rfl⟩ rfl rfl rfl rfl rfl (by kernel_rfl) Tryd.func4 (by kernel_rfl)
    (of_decide_eq_true (by kernel_rfl)) (by unfold Func.isWrapper; first | (rw [if_pos (by decide +kernel)]; kernel_rfl) | (rw [if_neg (by decide +kernel)]; exact ⟨rfl, rfl⟩))
    (fun os started H enc _ => lifted os started H enc)

/-- No parameter wants a stand-in; the program's own looks are off. -/
theorem plain (f : FuncId) (fn : Func) (hf : Tryd.pinned.checked.prog.funcNamed "stemma/stemlaw2.ValueConvertMatchesReference" = some f) (hfn : Tryd.pinned.checked.prog.funcs[f]? = some fn) :
    true = Tryd.pinned.checked.prog.looks [] ∧ ∀ (j : Nat) t, fn.params[j]? = some t → Tryd.pinned.checked.prog.wantsStandIn t = false := by
  obtain rfl : f = 4 := Option.some.inj ((show Tryd.prog.funcNamed "stemma/stemlaw2.ValueConvertMatchesReference" = some 4 by kernel_rfl).symm.trans hf) |>.symm
  obtain rfl : fn = Tryd.f4 := (Option.some.inj (Tryd.func4.symm.trans hfn)).symm
  refine ⟨by kernel_rfl, fun j t ht => ?_⟩
  have hp : Tryd.f4.params = #[33, 3] := by kernel_rfl
  rw [hp] at ht
  have hm : t ∈ [33, 3] := by simpa using Array.mem_of_getElem? ht
  have hall : ([33, 3].all fun u => !Tryd.prog.wantsStandIn u) = true := by kernel_rfl
  have := List.all_eq_true.1 hall t hm
  exact (by simpa using this : Tryd.prog.wantsStandIn t = false)

theorem proved : Rows.ValueConvertMatchesReferenceCardSaid :=
  Claim7.holds_tied_plain_at .later [] _ _ _ _ said (fun _ h => by cases h) (by kernel_rfl) (fun _ h => by cases h) valueConvertMatchesReference_row_tie rfl ⟨rfl, rfl⟩ (by kernel_rfl) rfl plain (by kernel_rfl)
end Go.Proofs.YtigjpdkeijcabaaDoor.valueConvertMatchesReference

