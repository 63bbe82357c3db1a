/- BTreeMatchesSortedMap: for every input the law returns true, and each argument reads behind the call as it read before. -/
import Derived.Test.YtdiobaoelhdkoaaRows
import Derived.Test.YtdiobaoelhdkoaaPlain
import Derived.WalkKit
import Derived.ProofKit
import Derived.OpenShut
set_option linter.unusedVariables false
set_option linter.unusedSimpArgs false
set_option linter.unnecessarySimpa false
set_option linter.unusedSectionVars false
namespace Go.Proofs.Ytdiobaoelhdkoaa.bTreeMatchesSortedMap
open Go.ChangeShapes Go.WideShapes Go.ChangeAt Go.RowKit Go.Vi
theorem own:ownKnob Try.prog.godebug=none:=by kernel_rfl
theorem bulky (H:Type):qq3 (H:=H) Rows.uptoBulk Rows.uptoBulkAll where
 int k n:=by simp[Rows.uptoBulk]
 bool b:=by simp[Rows.uptoBulk]
 str s:=by simp[Rows.uptoBulk]
 nil:=by simp[Rows.uptoBulk]
 slice es sp:=by simp only[Rows.uptoBulk];omega
 agg ps:=by simp only[Rows.uptoBulk];omega
 cons d r:=by simp only[Rows.uptoBulkAll];omega
theorem specAt (H:Type):∀ds:List (DataW H),ds.length=5→Rows.bTreeMatchesSortedMapSpec.fn H ds= { results:=[.lit (.bool true)],args:=ds }
 |[d0,d1,d2,d3,d4],_=>rfl
set_option maxRecDepth 100000 in
theorem lifted (os:Os) (started:os.Started) (H:Type) (enc:TypeId×Value→H):
  ReturnsInHanded {} Try.checked os 3 .any (Rows.bTreeMatchesSortedMapSpec.pre6 enc Try.prog Try.f3 Rows.bTreeMatchesSortedMapRow.domain false) (Rows.bTreeMatchesSortedMapSpec.post enc Try.prog Try.f3 false true false false):=by
 refine returnsInHanded_of_change (C:=Try.checked) own started (by kernel_rfl) Try.func3
  (ChangeSpec.witness6 (enc:=enc) (C:=Try.checked) false ⟨#[],#[.int .i64 0,.slice none 0 0,.slice none 0 0,.slice none 0 0,.int .i64 0],[]⟩ 8 (by kernel_rfl) (by kernel_rfl) (by kernel_rfl) (by kernel_rfl)) ?_
 intro W base args ds gs before qfS hW _ _;exact qoq (bulky H) (B:=Rows.uptoBulkAll (ds++gs)) (us:=[(.int .i64),(.slice (.pair (.int .i64) (.pair (.int .i64) (.pair (.slice (.pair (.int .i64) (.pair (.int .i64) (.pair .str .unit)))) .unit)))),(.slice (.pair (.int .i64) (.pair (.int .i64) (.pair .str .unit)))),(.slice (.pair (.int .i64) (.pair (.int .i64) (.pair .str .unit)))),(.int .i64)]) (ts:=[3,22,24,24,3]) (tb:=4) (by kernel_rfl) (by kernel_rfl) (by kernel_rfl) (by kernel_rfl) (by kernel_rfl) (by kernel_rfl) rfl (specAt H) qdE (fun x _ _=>qse x) qfS hW (Nat.le_refl _)
theorem proved:Rows.BTreeMatchesSortedMapSaid:=
 OpenClaim.holds_of_wide 3 Try.f3 rfl rfl rfl rfl rfl rfl rfl ⟨rfl,rfl,rfl,rfl,rfl⟩ rfl rfl rfl rfl rfl (by kernel_rfl) Try.func3 (by kernel_rfl)
  (of_decide_eq_true (by kernel_rfl)) (by unfold Func.isWrapper;first|(rw[if_pos (by decide+kernel)];kernel_rfl)|(rw[if_neg (by decide+kernel)];exact⟨rfl,rfl⟩))
  (fun os started H enc _=>lifted os started H enc)
end Go.Proofs.Ytdiobaoelhdkoaa.bTreeMatchesSortedMap
