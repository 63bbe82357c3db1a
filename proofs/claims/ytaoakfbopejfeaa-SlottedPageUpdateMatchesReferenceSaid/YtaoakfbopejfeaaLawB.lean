/- SlottedPageUpdateMatchesReference: for every input the law returns true, and each argument reads behind the call as it read before. -/
import Derived.Test.YtaoakfbopejfeaaRows
import Derived.Test.YtaoakfbopejfeaaPlain
import Derived.WalkKit
import Derived.ProofKit
import Derived.OpenShut
set_option linter.unusedVariables false
set_option linter.unusedSimpArgs false
set_option linter.unnecessarySimpa false
set_option linter.unusedSectionVars false
namespace Go.Proofs.Ytaoakfbopejfeaa.slottedPageUpdateMatchesReference
open Go.ChangeShapes Go.WideShapes Go.ChangeAt Go.RowKit Go.Vi
theorem own:ownKnob Try.prog.godebug=none:=by kernel_rfl
theorem bulky (H:Type):qlr (H:=H) Rows.uptoBulk Rows.uptoBulkAll where
 int k n:=by simp [Rows.uptoBulk]
 bool b:=by simp [Rows.uptoBulk]
 str s:=by simp [Rows.uptoBulk]
 nil:=by simp [Rows.uptoBulk]
 slice es sp:=by simp only [Rows.uptoBulk]; omega
 agg ps:=by simp only [Rows.uptoBulk]; omega
 cons d r:=by simp only [Rows.uptoBulkAll]; omega
theorem specAt (H:Type):∀ds:List (DataW H),ds.length=3→Rows.slottedPageUpdateMatchesReferenceSpec.fn H ds= { results:=[.lit (.bool true)],args:=ds }
 |[d0,d1,d2],_=>rfl
set_option maxRecDepth 100000 in
theorem lifted (os:Os) (started:os.Started) (H:Type) (enc:TypeId×Value→H):
  ReturnsInHanded {} Try.checked os 4 .any (Rows.slottedPageUpdateMatchesReferenceSpec.pre6 enc Try.prog Try.f4 Rows.slottedPageUpdateMatchesReferenceRow.domain false) (Rows.slottedPageUpdateMatchesReferenceSpec.post enc Try.prog Try.f4 false true false false):=by
 refine returnsInHanded_of_change (C:=Try.checked) own started (by kernel_rfl) Try.func4
  (ChangeSpec.witness6 (enc:=enc) (C:=Try.checked) false ⟨#[],#[.slice none 0 0,.slice none 0 0,.int .i64 0],[]⟩ 8 (by kernel_rfl) (by kernel_rfl) (by kernel_rfl) (by kernel_rfl)) ?_
 intro W base args ds gs before hval hW _ _
 exact qjO (bulky H) (B:=Rows.uptoBulkAll (ds++gs)) (us:=[(.slice (.int .u8)),(.slice (.int .u8)),(.int .i64)]) (ts:=[22,22,3]) (tb:=4) (by kernel_rfl) (by kernel_rfl) (by kernel_rfl) (by kernel_rfl) (by kernel_rfl) (by kernel_rfl) rfl (specAt H) qaT (fun x hg _=>qnJ x hg.1 hg.2.1 hg.2.2.1) hval hW (Nat.le_refl _)
theorem proved:Rows.SlottedPageUpdateMatchesReferenceSaid:=
 OpenClaim.holds_of_wide 4 Try.f4 rfl rfl rfl rfl rfl rfl rfl ⟨rfl,rfl,rfl,rfl,rfl⟩ rfl rfl rfl rfl rfl (by kernel_rfl) Try.func4 (by kernel_rfl)
  (of_decide_eq_true (by kernel_rfl)) (by unfold Func.isWrapper; first|(rw [if_pos (by decide+kernel)]; kernel_rfl)|(rw [if_neg (by decide+kernel)]; exact ⟨rfl,rfl⟩))
  (fun os started H enc _=>lifted os started H enc)
end Go.Proofs.Ytaoakfbopejfeaa.slottedPageUpdateMatchesReference
