/- RLEReadMatchesReference: for every input whose reading is of bulk at most 1048576 the law returns true, and each argument reads behind the call as it read before. -/
import Derived.Test.YtfcdfdnlgfebmaaRows
import Derived.Test.YtfcdfdnlgfebmaaPlain
import Derived.WalkKit
import Derived.ProofKit
import Derived.OpenShut
import Derived.JoinedCond
set_option linter.unusedVariables false
set_option linter.unusedSimpArgs false
set_option linter.unnecessarySimpa false
set_option linter.unusedSectionVars false
namespace Go.Proofs.Ytfcdfdnlgfebmaa.rLEReadMatchesReference
open Go.ChangeShapes Go.WideShapes Go.ChangeAt Go.RowKit Go.Vi
theorem own:ownKnob Try.prog.godebug=none:=by kernel_rfl
theorem bulky (H:Type):qnp (H:=H) Rows.uptoBulk Rows.uptoBulkAll where
 int k n:=by simp [Rows.uptoBulk]
 bool b:=by simp [Rows.uptoBulk]
 str s:=by simp [Rows.uptoBulk]
 nil:=by simp [Rows.uptoBulk]
 slice es sp:=by simp only [Rows.uptoBulk]; omega
 agg ps:=by simp only [Rows.uptoBulk]; omega
 cons d r:=by simp only [Rows.uptoBulkAll]; omega
theorem specAt (H:Type):∀ds:List (DataW H),ds.length=4→Rows.rLEReadMatchesReferenceSpec.fn H ds= { results:=[.lit (.bool true)],args:=ds }
 |[d0,d1,d2,d3],_=>rfl
set_option maxRecDepth 100000 in
theorem contract (H:Type) (enc:TypeId×Value→H) (W:World) (base:Nat) (args:Array Value) (ds gs:List (DataW H)) (before:List MemPlace)
  (hval:∀(j:Nat) t v,Try.f3.params[j]? =some t→args[j]? =some v→Value.okWide Try.prog W .any base t v)
  (hW:DataW.Whole enc Try.prog Try.f3.params.toList Rows.rLEReadMatchesReferenceSpec.vars false W args.toList ds gs before) (hk:Rows.uptoSmall H (ds++gs)=true):
  Calls Try.prog 3 args W fun e W'=>∃v,e= .returned v∧Rows.rLEReadMatchesReferenceSpec.post enc Try.prog Try.f3 false true false false W args v W':=
 qkK (bulky H) (B:=1048576) (us:=[(.slice (.pair (.pair (.int .i64) (.pair (.int .i64) (.pair .str .unit))) (.pair (.int .i64) .unit))),(.int .i64),(.pair (.int .i64) (.pair (.int .i64) (.pair .str .unit))),(.pair (.int .i64) (.pair (.int .i64) (.pair .str .unit)))]) (ts:=[22,3,24,24]) (tb:=4) (by kernel_rfl) (by kernel_rfl) (by kernel_rfl) (by kernel_rfl) (by kernel_rfl) (by kernel_rfl) rfl (specAt H) qb5 (fun x hg hb=>qqD x hg hb) hval hW (of_decide_eq_true hk)
set_option maxRecDepth 100000 in
theorem lifted (os:Os) (started:os.Started) (H:Type) (enc:TypeId×Value→H) (F:Stop.Interp):
  ReturnsInHanded {} Try.checked os 3 .any ((Rows.OpenSpec.upto Rows.rLEReadMatchesReferenceSpec).pre6 enc Try.prog Try.f3 Rows.rLEReadMatchesReferenceUptoRow.domain false) (((Rows.OpenSpec.upto Rows.rLEReadMatchesReferenceSpec).at F).post enc Try.prog Try.f3 false true false false):=by
 refine returnsInHanded_of_cond (C:=Try.checked) (s:=Rows.OpenSpec.upto Rows.rLEReadMatchesReferenceSpec) (k:=Rows.uptoSmall) rfl own started (by kernel_rfl) Try.func3
  (OpenSpec.witness (enc:=enc) (C:=Try.checked) (s:=Rows.OpenSpec.upto Rows.rLEReadMatchesReferenceSpec) (k:=Rows.uptoSmall) rfl false ⟨#[],#[.slice none 0 0,.int .i64 0,.agg #[.int .i64 0,.int .i64 0,.string .empty],.agg #[.int .i64 0,.int .i64 0,.string .empty]],[]⟩ 8 (by kernel_rfl) (by kernel_rfl) (by kernel_rfl)
   (x:=([.nil,.lit (.int .i64 0),.agg [.lit (.int .i64 0),.lit (.int .i64 0),.lit (.string [])],.agg [.lit (.int .i64 0),.lit (.int .i64 0),.lit (.string [])]],[],[])) (by kernel_rfl) rfl (by kernel_rfl)) ?_
 intro W base args ds gs before hval hW _ hk _
 exact contract H enc W base args ds gs before hval hW hk
theorem proved:Rows.RLEReadMatchesReferenceUptoSaid:=
 OpenClaim.holds_of_cond 3 Try.f3 rfl rfl rfl rfl rfl rfl rfl ⟨rfl,rfl,rfl,rfl,rfl⟩ rfl rfl rfl rfl rfl (by kernel_rfl) Try.func3 (by kernel_rfl)
  (of_decide_eq_true (by kernel_rfl)) (by unfold Func.isWrapper; first|(rw [if_pos (by decide+kernel)]; kernel_rfl)|(rw [if_neg (by decide+kernel)]; exact ⟨rfl,rfl⟩))
  (fun os started H enc _ F=>lifted os started H enc F)
end Go.Proofs.Ytfcdfdnlgfebmaa.rLEReadMatchesReference
