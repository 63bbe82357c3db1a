/- ProgressMatchesReference: for every input the law returns true, and each argument reads behind the call as it read before; the package tables that the row lists are as the program's text lays them. -/
import Derived.Test.YtpdhkfofjpankaaGreatDoorCards
import Derived.Test.YtpdhkfofjpankaaGreatDoorTie
import Derived.Test.YtpdhkfofjpankaaGreatDoorPlain
import Derived.WalkKit
import Derived.ProofKit
import Derived.OpenShut
import Derived.LaidMore
import Derived.Lay
import Derived.SevenTiedAt
import Derived.Stop.Joined
import Derived.Stop.LaidErr
import Derived.Deep.DeepHandedRow
import Derived.JoinedCond
import Derived.Lib.LaidTab
import Derived.Test.YtpdhkfofjpankaaGreatDoorViXD
set_option linter.unusedVariables false
set_option linter.unusedSimpArgs false
set_option linter.unnecessarySimpa false
set_option linter.unusedSectionVars false
namespace Go.Proofs.YtpdhkfofjpankaaGreatDoor.progressMatchesReference
open Go.ChangeShapes Go.WideShapes Go.ChangeAt Go.RowKit Go.Vi
theorem own:ownKnob Tryz.prog.godebug=none:=by kernel_rfl
theorem bulky (H:Type):qrx (H:=H) Rows.uptoBulk Rows.uptoBulkAll where
 int k n:=by simp [Rows.uptoBulk]
 bool b:=by simp [Rows.uptoBulk]
 str s:=by simp [Rows.uptoBulk]
 nil:=by simp [Rows.uptoBulk]
 slice es sp:=by simp only [Rows.uptoBulk]; omega
 agg ps:=by simp only [Rows.uptoBulk]; omega
 cons d r:=by simp only [Rows.uptoBulkAll]; omega
theorem specAt (H:Type):∀ds:List (DataW H),ds.length=6→Rows.progressMatchesReferenceSpec.fn H ds= { results:=[.lit (.bool true)],args:=ds }
 |[d0,d1,d2,d3,d4,d5],_=>rfl
theorem hg1:Tryz.prog.globalNamed "internal/strconv.uint64pow10" =some 1:=by kernel_rfl
theorem ht1:(Tryz.prog.globals[1]?).map (·.type)=some 141:=by kernel_rfl
theorem ua1:Tryz.prog.underlying 141=some (.array 20 131):=by kernel_rfl
theorem ue1:Tryz.prog.underlying 131=some (.int .u64):=by kernel_rfl
theorem ca1:Tryz.prog.cellsOf 141=20:=by kernel_rfl
theorem ce1:Tryz.prog.cellsOf 131=1:=by kernel_rfl
theorem has1 {W:World} (h:laidMet Tryz.prog Rows.progressMatchesReferenceUptoRow.laid W):qky W 1 ⟨.arr 20 (.int .u64),qpR⟩:=
 qky.ints hg1 (by kernel_rfl) (by kernel_rfl) qnC (Lib.tabIs_of_head hg1 ht1 ua1 ue1 ce1 ca1 h.tail.tail)
theorem tabs {W:World} (h:laidMetH Tryz.prog Rows.progressMatchesReferenceUptoRow.laid W):qdn gT W fun b=>b<W.heap.size:=by
 rw [MakeChecks.laidMetH_plain _ _ _ (by kernel_rfl)] at h
 intro g r hr
 suffices hh:qky W g r from ⟨hh.1,hh.1,hh.2⟩
 unfold gT at hr
 split at hr
 ·rename_i e _; subst e; injection hr with hr; subst hr; exact has1 h
 cases hr
theorem laid_met (os:Os):laidMet Tryz.prog Rows.progressMatchesReferenceUptoRow.laid ((World.laidAll Tryz.prog os Rows.progressMatchesReferenceUptoRow.laid).forCall (fun _ _=>0) ⟨#[],#[.agg #[.slice none 0 0,.slice none 0 0,.slice none 0 0],.slice none 0 0,.agg #[.string .empty,.slice none 0 0,.bool false],.string .empty,.slice none 0 0,.int .i64 0],[]⟩).memory:=
 laidMet_laidAll _ (by kernel_rfl) (by kernel_rfl)
theorem reads (os:Os) {H:Type} (enc:TypeId×Value→H):∃places,DataW.whole enc Tryz.prog ((World.laidAll Tryz.prog os Rows.progressMatchesReferenceUptoRow.laid).forCall (fun _ _=>0) ⟨#[],#[.agg #[.slice none 0 0,.slice none 0 0,.slice none 0 0],.slice none 0 0,.agg #[.string .empty,.slice none 0 0,.bool false],.string .empty,.slice none 0 0,.int .i64 0],[]⟩).memory Tryz.f3.params.toList Rows.progressMatchesReferenceSpec.vars false [.agg #[.slice none 0 0,.slice none 0 0,.slice none 0 0],.slice none 0 0,.agg #[.string .empty,.slice none 0 0,.bool false],.string .empty,.slice none 0 0,.int .i64 0] 8=some ([.agg [.nil,.nil,.nil],.nil,.agg [.lit (.string []),.nil,.lit (.bool false)],.lit (.string []),.nil,.lit (.int .i64 0)],[],places):=
 ⟨[],by kernel_rfl⟩
set_option maxRecDepth 100000 in
theorem contract (H:Type) (enc:TypeId×Value→H) (W:World) (base:Nat) (args:Array Value) (ds gs:List (DataW H)) (before:List MemPlace)
  (hval:∀(j:Nat) t v,Tryz.f3.params[j]? =some t→args[j]? =some v→Value.okWide Tryz.prog W .any base t v)
  (hW:DataW.Whole enc Tryz.prog Tryz.f3.params.toList Rows.progressMatchesReferenceSpec.vars false W args.toList ds gs before) (hL:laidMetH Tryz.prog Rows.progressMatchesReferenceUptoRow.laid W) (hk:Rows.uptoSmall H (ds++gs)=true):
  Calls Tryz.prog 3 args W fun e W'=>∃v,e= .returned v∧Rows.progressMatchesReferenceSpec.post enc Tryz.prog Tryz.f3 false true false false W args v W':=
 qmx (T:=gT) (bulky H) (B:=1048576) (us:=[(.pair (.slice (.pair .str (.pair (.slice (.pair .str (.pair (.int .i64) (.pair .bool .unit)))) (.pair (.slice (.int .i64)) .unit)))) (.pair (.slice (.pair .str (.pair (.slice (.int .i64)) (.pair .str .unit)))) (.pair (.slice (.pair .str (.pair (.int .i64) (.pair .str (.pair (.int .i64) (.pair (.pair (.int .i64) (.pair (.int .i64) (.pair .str .unit))) .unit)))))) .unit))),(.slice (.pair .str (.pair (.slice (.slice (.pair (.int .i64) (.pair (.int .i64) (.pair .str .unit))))) .unit))),(.pair .str (.pair (.slice (.pair (.int .i64) (.pair (.int .i64) (.pair .str .unit)))) (.pair .bool .unit))),.str,(.slice (.pair (.int .i64) (.pair (.int .i64) (.pair .str .unit)))),(.int .i64)]) (ts:=[26,28,32,9,30,3]) (tb:=4) (by kernel_rfl) (by kernel_rfl) (by kernel_rfl) (by kernel_rfl) (by kernel_rfl) (by kernel_rfl) rfl (specAt H) qcO (law25) (tabs hL) hval hW (of_decide_eq_true hk)
set_option maxRecDepth 100000 in
theorem lifted (os:Os) (started:os.Started) (H:Type) (enc:TypeId×Value→H) (F:Stop.Interp):
  ReturnsInHanded {} Tryz.checked os 3 .any ((Rows.OpenSpec.upto Rows.progressMatchesReferenceSpec).preRow enc Tryz.prog Tryz.f3 Rows.progressMatchesReferenceUptoRow.domain false Rows.progressMatchesReferenceUptoRow.laid) (((Rows.OpenSpec.upto Rows.progressMatchesReferenceSpec).at F).post enc Tryz.prog Tryz.f3 false true false false):=by
 obtain ⟨places,hx⟩:=reads os enc
 refine returnsInHanded_of_row (C:=Tryz.checked) (s:=Rows.OpenSpec.upto Rows.progressMatchesReferenceSpec) own started (by kernel_rfl) Tryz.func3
  (witness_row_at (enc:=enc) (C:=Tryz.checked) false (World.laidAll Tryz.prog os Rows.progressMatchesReferenceUptoRow.laid) #[.agg #[.slice none 0 0,.slice none 0 0,.slice none 0 0],.slice none 0 0,.agg #[.string .empty,.slice none 0 0,.bool false],.string .empty,.slice none 0 0,.int .i64 0] (World.laidAll_os _ _ _) (by kernel_rfl) (by kernel_rfl) (by kernel_rfl)
   (OpenSpec.preRow_of_cond 8 hx (by kernel_rfl) (fun k hk=>by cases hk; kernel_rfl) (by kernel_rfl) (laid_met os))) ?_
 intro W base args ds gs before hval hW _ hcond _ hL _ _
 exact contract H enc W base args ds gs before hval hW hL (hcond _ rfl)
theorem said:Rows.ProgressMatchesReferenceUptoSaid:=
 OpenClaim.holds_of_cond 3 Tryz.f3 rfl rfl rfl rfl rfl rfl rfl ⟨rfl,rfl,rfl,rfl,rfl⟩ rfl rfl rfl rfl rfl (by kernel_rfl) Tryz.func3 (by kernel_rfl)
  (of_decide_eq_true (by kernel_rfl)) (by unfold Func.isWrapper; first|(rw [if_pos (by decide+kernel)]; kernel_rfl)|(rw [if_neg (by decide+kernel)]; exact ⟨rfl,rfl⟩))
  (fun os started H enc _ F=>by rw [OpenClaim.pre_eq_preRow]; exact lifted os started H enc F)
theorem plain (f:FuncId) (fn:Func) (hf:Tryz.pinned.checked.prog.funcNamed "stemma/stemlaw4.ProgressMatchesReference" =some f) (hfn:Tryz.pinned.checked.prog.funcs[f]? =some fn):
  false=Tryz.pinned.checked.prog.looks []∧∀(j:Nat) t,fn.params[j]? =some t→Tryz.pinned.checked.prog.wantsStandIn t=false:=by
 obtain rfl:f=3:=Option.some.inj ((show Tryz.prog.funcNamed "stemma/stemlaw4.ProgressMatchesReference" =some 3 by kernel_rfl).symm.trans hf) |>.symm
 obtain rfl:fn=Tryz.f3:=(Option.some.inj (Tryz.func3.symm.trans hfn)).symm
 refine ⟨by kernel_rfl,fun j t ht=> ?_⟩
 have hp:Tryz.f3.params= #[26,28,32,9,30,3]:=by kernel_rfl
 rw [hp] at ht
 have hm:t∈[26,28,32,9,30,3]:=by simpa using Array.mem_of_getElem? ht
 have hall:([26,28,32,9,30,3].all fun u=> !Tryz.prog.wantsStandIn u)=true:=by kernel_rfl
 have:=List.all_eq_true.1 hall t hm
 exact (by simpa using this:Tryz.prog.wantsStandIn t=false)
theorem proved:Rows.ProgressMatchesReferenceUptoCardSaid:=
 Claim7.holds_tied_plain_at .later [] _ _ _ _ said (fun _ h=>by cases h) (by kernel_rfl) (fun _ h=>by cases h) progressMatchesReferenceUpto_row_tie rfl ⟨rfl,rfl⟩ (by kernel_rfl) rfl plain (by kernel_rfl)
end Go.Proofs.YtpdhkfofjpankaaGreatDoor.progressMatchesReference
