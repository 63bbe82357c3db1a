/- SecondaryIndexMatchesReference: for every input whose reading is of bulk at most 1048576 the law returns true, and each argument reads behind the call as it read before. -/
import Derived.Test.YtghccmfcndnljaaGreatRows
import Derived.Test.YtghccmfcndnljaaGreatPlain
import Derived.WalkKit
import Derived.ProofKit
import Derived.OpenShut
import Derived.JoinedCond
set_option linter.unusedVariables false
set_option linter.unusedSimpArgs false
set_option linter.unnecessarySimpa false
set_option linter.unusedSectionVars false
namespace Go.Proofs.YtghccmfcndnljaaGreat.secondaryIndexMatchesReference
open Go.ChangeShapes Go.WideShapes Go.ChangeAt Go.RowKit Go.Vi
theorem own:ownKnob Tryz.prog.godebug=none:=by kernel_rfl
theorem bulky (H:Type):qrO (H:=H) Rows.uptoBulk Rows.uptoBulkAll where
 int k n:=by simp[Rows.uptoBulk]
 bool b:=by simp[Rows.uptoBulk]
 str s:=by simp[Rows.uptoBulk]
 nil:=by simp[Rows.uptoBulk]
 slice es sp:=by simp only[Rows.uptoBulk];omega
 agg ps:=by simp only[Rows.uptoBulk];omega
 cons d r:=by simp only[Rows.uptoBulkAll];omega
theorem specAt (H:Type):∀ds:List (DataW H),ds.length=4→Rows.secondaryIndexMatchesReferenceSpec.fn H ds= { results:=[.lit (.bool true)],args:=ds }
 |[d0,d1,d2,d3],_=>rfl
set_option maxRecDepth 100000 in
theorem contract (H:Type) (enc:TypeId×Value→H) (W:World) (base:Nat) (args:Array Value) (ds gs:List (DataW H)) (before:List MemPlace)
  (hval:∀(j:Nat) t v,Tryz.f4.params[j]? =some t→args[j]? =some v→Value.okWide Tryz.prog W .any base t v)
  (hW:DataW.Whole enc Tryz.prog Tryz.f4.params.toList Rows.secondaryIndexMatchesReferenceSpec.vars false W args.toList ds gs before) (hk:Rows.uptoSmall H (ds++gs)=true):
  Calls Tryz.prog 4 args W fun e W'=>∃v,e=.returned v∧Rows.secondaryIndexMatchesReferenceSpec.post enc Tryz.prog Tryz.f4 false true false false W args v W':=
 qpy (bulky H) (B:=1048576) (us:=[(.pair (.pair .str (.pair (.slice (.pair .str (.pair (.int .i64) (.pair .bool .unit)))) (.pair (.slice (.int .i64)) .unit))) (.pair (.slice (.int .i64)) (.pair (.slice (.pair (.slice (.pair (.int .i64) (.pair (.int .i64) (.pair .str .unit)))) (.pair (.slice (.slice (.pair (.int .i64) (.pair (.int .i64) (.pair .str .unit))))) .unit))) .unit))),(.slice (.pair (.int .i64) (.pair (.int .i64) (.pair .str .unit)))),(.slice (.pair (.int .i64) (.pair (.int .i64) (.pair .str .unit)))),(.slice (.pair (.int .i64) (.pair (.int .i64) (.pair .str .unit))))]) (ts:=[29,39,39,39]) (tb:=4) (by kernel_rfl) (by kernel_rfl) (by kernel_rfl) (by kernel_rfl) (by kernel_rfl) (by kernel_rfl) rfl (specAt H) qcY ((fun x hg h=>law26 x hg h)) hval hW (of_decide_eq_true hk)
set_option maxRecDepth 100000 in
theorem lifted (os:Os) (started:os.Started) (H:Type) (enc:TypeId×Value→H) (F:Stop.Interp):
  ReturnsInHanded {} Tryz.checked os 4 .any ((Rows.OpenSpec.upto Rows.secondaryIndexMatchesReferenceSpec).pre6 enc Tryz.prog Tryz.f4 Rows.secondaryIndexMatchesReferenceUptoRow.domain false) (((Rows.OpenSpec.upto Rows.secondaryIndexMatchesReferenceSpec).at F).post enc Tryz.prog Tryz.f4 false true false false):=by
 refine returnsInHanded_of_cond (C:=Tryz.checked) (s:=Rows.OpenSpec.upto Rows.secondaryIndexMatchesReferenceSpec) (k:=Rows.uptoSmall) rfl own started (by kernel_rfl) Tryz.func4
  (OpenSpec.witness (enc:=enc) (C:=Tryz.checked) (s:=Rows.OpenSpec.upto Rows.secondaryIndexMatchesReferenceSpec) (k:=Rows.uptoSmall) rfl false ⟨#[],#[.agg #[.string .empty,.slice none 0 0,.slice none 0 0,.slice none 0 0,.slice none 0 0],.slice none 0 0,.slice none 0 0,.slice none 0 0],[]⟩ 8 (by kernel_rfl) (by kernel_rfl) (by kernel_rfl)
   (x:=([.agg [.agg [.lit (.string []),.nil,.nil],.nil,.nil],.nil,.nil,.nil],[],[])) (by kernel_rfl) rfl (by kernel_rfl)) ?_
 intro W base args ds gs before hval hW _ hk _;exact contract H enc W base args ds gs before hval hW hk
theorem proved:Rows.SecondaryIndexMatchesReferenceUptoSaid:=
 OpenClaim.holds_of_cond 4 Tryz.f4 rfl rfl rfl rfl rfl rfl rfl ⟨rfl,rfl,rfl,rfl,rfl⟩ rfl rfl rfl rfl rfl (by kernel_rfl) Tryz.func4 (by kernel_rfl)
  (of_decide_eq_true (by kernel_rfl)) (by unfold Func.isWrapper;first|(rw[if_pos (by decide+kernel)];kernel_rfl)|(rw[if_neg (by decide+kernel)];exact⟨rfl,rfl⟩))
  (fun os started H enc _ F=>lifted os started H enc F)
end Go.Proofs.YtghccmfcndnljaaGreat.secondaryIndexMatchesReference
