/- ComplementStoreEncodingMatchesReference: for every input the law returns true, and each argument reads behind the call as it read before; the package tables that the row lists are as the program's text lays them. -/
import Derived.Test.YtigjpdkeijcabaaDoorCards
import Derived.Test.YtigjpdkeijcabaaDoorTie
import Derived.Test.YtigjpdkeijcabaaDoorCpm
import Derived.WalkKit
import Derived.ProofKit
import Derived.OpenShut
import Derived.LaidMore
import Derived.Lay
import Derived.SevenTiedAt
import Derived.Stop.Joined
set_option linter.unusedVariables false
set_option linter.unusedSimpArgs false
set_option linter.unnecessarySimpa false
set_option linter.unusedSectionVars false
namespace Go.Proofs.YtigjpdkeijcabaaDoor.complementStoreEncodingMatchesReference
open Go.ChangeShapes Go.WideShapes Go.ChangeAt Go.RowKit Go.Vi

theorem own : ownKnob Tryd.prog.godebug = none := by kernel_rfl
theorem bulky (H : Type) : Bulky (H := H) Rows.uptoBulk Rows.uptoBulkAll where
  int k n := by simp [Rows.uptoBulk]
  bool b := by simp [Rows.uptoBulk]
  str s := by simp [Rows.uptoBulk]
  nil := by simp [Rows.uptoBulk]
  slice es sp := by simp only [Rows.uptoBulk]; omega
  agg ps := by simp only [Rows.uptoBulk]; omega
  cons d r := by simp only [Rows.uptoBulkAll]; omega

theorem specAt (H : Type) : ∀ ds : List (DataW H), ds.length = 2 → Rows.complementStoreEncodingMatchesReferenceSpec.fn H ds = { results := [.lit (.bool true)], args := ds }
  | [d0, d1], _ => rfl

set_option maxRecDepth 100000 in
theorem lifted (os : Os) (started : os.Started) (H : Type) (enc : TypeId × Value → H) :
    ReturnsInHanded {} Tryd.checked os 3 .any (fun w args => (Rows.complementStoreEncodingMatchesReferenceSpec.pre enc Tryd.prog Tryd.f3 Rows.complementStoreEncodingMatchesReferenceRow.domain false w args ∧ laidMetH Tryd.prog Rows.complementStoreEncodingMatchesReferenceRow.laid w) ∧ sizedMet enc Tryd.prog Tryd.f3 (OpenSpec.ofChange Rows.complementStoreEncodingMatchesReferenceSpec) false w args)
      (Rows.complementStoreEncodingMatchesReferenceSpec.post enc Tryd.prog Tryd.f3 false true false false) := by
  refine returnsInHanded_of_change_and (C := Tryd.checked) (X := fun w _ => laidMetH Tryd.prog Rows.complementStoreEncodingMatchesReferenceRow.laid w) (fun _ _ _ hh h => h.of_heap hh) own started (by kernel_rfl) Tryd.func3
    (ChangeSpec.witness_shaped (enc := enc) (C := Tryd.checked) (os := os) (X := fun w _ => laidMetH Tryd.prog Rows.complementStoreEncodingMatchesReferenceRow.laid w) false (World.laidAll Tryd.prog os Rows.complementStoreEncodingMatchesReferenceRow.laid) #[.slice none 0 0, .slice none 0 0] 8 (World.laidAll_os _ _ _)
      (World.shaped_of_ZipB (by kernel_rfl) (by kernel_rfl)) (by kernel_rfl) (by kernel_rfl) (by kernel_rfl)
      (by rw [MakeChecks.laidMetH_plain _ _ _ (by kernel_rfl)]; exact laidMet_laidAll _ (by kernel_rfl) (by kernel_rfl))) ?_
  intro W base args ds gs before hval hW _ _ _ _
  exact law_contract (bulky H) (B := Rows.uptoBulkAll (ds ++ gs)) (us := [(.slice (.slice (.slice (.pair .str (.pair (.slice (.slice (.pair (.int .i64) (.pair (.int .i64) (.pair .str .unit))))) .unit))))), (.slice (.int .u8))]) (ts := [22, 23]) (tb := 4) (by kernel_rfl) (by kernel_rfl) (by kernel_rfl) (by kernel_rfl) (by kernel_rfl) (by kernel_rfl) rfl (specAt H) ok_stemlaw4_ComplementStoreEncodingMatchesReference ((fun x hg _ => law15Said x hg.1 hg.2.1)) hval hW (Nat.le_refl _)

theorem said : Rows.ComplementStoreEncodingMatchesReferenceSaid :=
  OpenClaim.holds_of_wide 3 Tryd.f3 rfl rfl rfl rfl rfl rfl rfl ⟨rfl, rfl, rfl, rfl, rfl⟩ rfl rfl rfl rfl rfl (by kernel_rfl) Tryd.func3 (by kernel_rfl)
    (of_decide_eq_true (by kernel_rfl)) (by unfold Func.isWrapper; first | (rw [if_pos (by decide +kernel)]; kernel_rfl) | (rw [if_neg (by decide +kernel)]; exact ⟨rfl, rfl⟩))
    (fun os started H enc _ => lifted os started H enc)

/-- No parameter wants a stand-in; the program's own looks are off. -/
theorem plain (f : FuncId) (fn : Func) (hf : Tryd.pinned.checked.prog.funcNamed "stemma/stemlaw4.ComplementStoreEncodingMatchesReference" = some f) (hfn : Tryd.pinned.checked.prog.funcs[f]? = some fn) :
    true = Tryd.pinned.checked.prog.looks [] ∧ ∀ (j : Nat) t, fn.params[j]? = some t → Tryd.pinned.checked.prog.wantsStandIn t = false := by
  obtain rfl : f = 3 := Option.some.inj ((show Tryd.prog.funcNamed "stemma/stemlaw4.ComplementStoreEncodingMatchesReference" = some 3 by kernel_rfl).symm.trans hf) |>.symm
  obtain rfl : fn = Tryd.f3 := (Option.some.inj (Tryd.func3.symm.trans hfn)).symm
  refine ⟨by kernel_rfl, fun j t ht => ?_⟩
  have hp : Tryd.f3.params = #[22, 23] := by kernel_rfl
  rw [hp] at ht
  have hm : t ∈ [22, 23] := by simpa using Array.mem_of_getElem? ht
  have hall : ([22, 23].all fun u => !Tryd.prog.wantsStandIn u) = true := by kernel_rfl
  have := List.all_eq_true.1 hall t hm
  exact (by simpa using this : Tryd.prog.wantsStandIn t = false)

theorem proved : Rows.ComplementStoreEncodingMatchesReferenceCardSaid :=
  Claim7.holds_tied_plain_at .later [] _ _ _ _ said (fun _ h => by cases h) (by kernel_rfl) (fun _ h => by cases h) complementStoreEncodingMatchesReference_row_tie rfl ⟨rfl, rfl⟩ (by kernel_rfl) rfl plain (by kernel_rfl)
end Go.Proofs.YtigjpdkeijcabaaDoor.complementStoreEncodingMatchesReference

