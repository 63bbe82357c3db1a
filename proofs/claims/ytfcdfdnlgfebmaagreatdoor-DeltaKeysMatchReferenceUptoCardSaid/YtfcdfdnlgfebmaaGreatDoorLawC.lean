/- DeltaKeysMatchReference: for every input the law returns true, and each argument reads behind the call as it read before; the package tables that the row lists are as the program's text lays them. -/
import Derived.Test.YtfcdfdnlgfebmaaGreatDoorCards
import Derived.Test.YtfcdfdnlgfebmaaGreatDoorTie
import Derived.Test.YtfcdfdnlgfebmaaGreatDoorPlain
import Derived.WalkKit
import Derived.ProofKit
import Derived.OpenShut
import Derived.LaidMore
import Derived.Lay
import Derived.SevenTiedAt
import Derived.Stop.Joined
import Derived.Stop.LaidErr
import Derived.Deep.DeepHandedRow
import Derived.JoinedCond
import Derived.Lib.LaidTab
import Derived.Test.YtfcdfdnlgfebmaaGreatDoorViXD
set_option linter.unusedVariables false
set_option linter.unusedSimpArgs false
set_option linter.unnecessarySimpa false
set_option linter.unusedSectionVars false
namespace Go.Proofs.YtfcdfdnlgfebmaaGreatDoor.deltaKeysMatchReference
open Go.ChangeShapes Go.WideShapes Go.ChangeAt Go.RowKit Go.Vi
theorem own:ownKnob Tryz.prog.godebug=none:=by kernel_rfl
theorem bulky (H:Type):qr8 (H:=H) Rows.uptoBulk Rows.uptoBulkAll where
 int k n:=by simp [Rows.uptoBulk]
 bool b:=by simp [Rows.uptoBulk]
 str s:=by simp [Rows.uptoBulk]
 nil:=by simp [Rows.uptoBulk]
 slice es sp:=by simp only [Rows.uptoBulk]; omega
 agg ps:=by simp only [Rows.uptoBulk]; omega
 cons d r:=by simp only [Rows.uptoBulkAll]; omega
theorem specAt (H:Type):∀ds:List (DataW H),ds.length=3→Rows.deltaKeysMatchReferenceSpec.fn H ds= { results:=[.lit (.bool true)],args:=ds }
 |[d0,d1,d2],_=>rfl
theorem hg0:Tryz.prog.globalNamed "internal/strconv.uint64pow10" =some 0:=by kernel_rfl
theorem ht0:(Tryz.prog.globals[0]?).map (·.type)=some 340:=by kernel_rfl
theorem ua0:Tryz.prog.underlying 340=some (.array 20 256):=by kernel_rfl
theorem ue0:Tryz.prog.underlying 256=some (.int .u64):=by kernel_rfl
theorem ca0:Tryz.prog.cellsOf 340=20:=by kernel_rfl
theorem ce0:Tryz.prog.cellsOf 256=1:=by kernel_rfl
theorem has0 {W:World} (h:laidMet Tryz.prog Rows.deltaKeysMatchReferenceUptoRow.laid W):qnk W 0 ⟨.arr 20 (.int .u64),qrL⟩:=
 qnk.ints hg0 (by kernel_rfl) (by kernel_rfl) qpE (Lib.tabIs_of_head hg0 ht0 ua0 ue0 ce0 ca0 h.tail.tail)
theorem tabs {W:World} (h:laidMetH Tryz.prog Rows.deltaKeysMatchReferenceUptoRow.laid W):qdD gT W fun b=>b<W.heap.size:=by
 rw [MakeChecks.laidMetH_plain _ _ _ (by kernel_rfl)] at h
 intro g r hr
 suffices hh:qnk W g r from ⟨hh.1,hh.1,hh.2⟩
 unfold gT at hr
 split at hr
 ·rename_i e _; subst e; injection hr with hr; subst hr; exact has0 h
 cases hr
theorem laid_met (os:Os):laidMet Tryz.prog Rows.deltaKeysMatchReferenceUptoRow.laid ((World.laidAll Tryz.prog os Rows.deltaKeysMatchReferenceUptoRow.laid).forCall (fun _ _=>0) ⟨#[],#[.agg #[.slice none 0 0,.slice none 0 0,.slice none 0 0],.slice none 0 0,.string .empty],[]⟩).memory:=
 laidMet_laidAll _ (by kernel_rfl) (by kernel_rfl)
theorem reads (os:Os) {H:Type} (enc:TypeId×Value→H):∃places,DataW.whole enc Tryz.prog ((World.laidAll Tryz.prog os Rows.deltaKeysMatchReferenceUptoRow.laid).forCall (fun _ _=>0) ⟨#[],#[.agg #[.slice none 0 0,.slice none 0 0,.slice none 0 0],.slice none 0 0,.string .empty],[]⟩).memory Tryz.f4.params.toList Rows.deltaKeysMatchReferenceSpec.vars false [.agg #[.slice none 0 0,.slice none 0 0,.slice none 0 0],.slice none 0 0,.string .empty] 8=some ([.agg [.nil,.nil,.nil],.nil,.lit (.string [])],[],places):=
 ⟨[],by kernel_rfl⟩
set_option maxRecDepth 100000 in
theorem contract (H:Type) (enc:TypeId×Value→H) (W:World) (base:Nat) (args:Array Value) (ds gs:List (DataW H)) (before:List MemPlace)
  (hval:∀(j:Nat) t v,Tryz.f4.params[j]? =some t→args[j]? =some v→Value.okWide Tryz.prog W .any base t v)
  (hW:DataW.Whole enc Tryz.prog Tryz.f4.params.toList Rows.deltaKeysMatchReferenceSpec.vars false W args.toList ds gs before) (hL:laidMetH Tryz.prog Rows.deltaKeysMatchReferenceUptoRow.laid W) (hk:Rows.uptoSmall H (ds++gs)=true):
  Calls Tryz.prog 4 args W fun e W'=>∃v,e= .returned v∧Rows.deltaKeysMatchReferenceSpec.post enc Tryz.prog Tryz.f4 false true false false W args v W':=
 qkL (T:=gT) (bulky H) (B:=1048576) (us:=[(.pair (.slice (.pair .str (.pair (.slice (.pair .str (.pair (.int .i64) (.pair .bool .unit)))) (.pair (.slice (.int .i64)) .unit)))) (.pair (.slice (.pair .str (.pair (.slice (.int .i64)) (.pair .str .unit)))) (.pair (.slice (.pair .str (.pair (.int .i64) (.pair .str (.pair (.int .i64) (.pair (.pair (.int .i64) (.pair (.int .i64) (.pair .str .unit))) .unit)))))) .unit))),(.slice (.pair (.int .i64) (.pair .str (.pair (.slice (.pair (.int .i64) (.pair (.int .i64) (.pair .str .unit)))) (.pair (.slice (.pair (.int .i64) (.pair (.int .i64) (.pair .str .unit)))) .unit))))),.str]) (ts:=[26,29,9]) (tb:=4) (by kernel_rfl) (by kernel_rfl) (by kernel_rfl) (by kernel_rfl) (by kernel_rfl) (by kernel_rfl) rfl (specAt H) qdQ (fun x hg hb=>law32 x hg hb) (tabs hL) hval hW (of_decide_eq_true hk)
set_option maxRecDepth 100000 in
theorem lifted (os:Os) (started:os.Started) (H:Type) (enc:TypeId×Value→H) (F:Stop.Interp):
  ReturnsInHanded {} Tryz.checked os 4 .any ((Rows.OpenSpec.upto Rows.deltaKeysMatchReferenceSpec).preRow enc Tryz.prog Tryz.f4 Rows.deltaKeysMatchReferenceUptoRow.domain false Rows.deltaKeysMatchReferenceUptoRow.laid) (((Rows.OpenSpec.upto Rows.deltaKeysMatchReferenceSpec).at F).post enc Tryz.prog Tryz.f4 false true false false):=by
 obtain ⟨places,hx⟩:=reads os enc
 refine returnsInHanded_of_row (C:=Tryz.checked) (s:=Rows.OpenSpec.upto Rows.deltaKeysMatchReferenceSpec) own started (by kernel_rfl) Tryz.func4
  (witness_row_at (enc:=enc) (C:=Tryz.checked) false (World.laidAll Tryz.prog os Rows.deltaKeysMatchReferenceUptoRow.laid) #[.agg #[.slice none 0 0,.slice none 0 0,.slice none 0 0],.slice none 0 0,.string .empty] (World.laidAll_os _ _ _) (by kernel_rfl) (by kernel_rfl) (by kernel_rfl)
   (OpenSpec.preRow_of_cond 8 hx (by kernel_rfl) (fun k hk=>by cases hk; kernel_rfl) (by kernel_rfl) (laid_met os))) ?_
 intro W base args ds gs before hval hW _ hcond _ hL _ _
 exact contract H enc W base args ds gs before hval hW hL (hcond _ rfl)
theorem jf0:(Rows.deltaKeysMatchReferenceUptoRow.wf (OpenSpec.ofChange (Rows.OpenSpec.upto Rows.deltaKeysMatchReferenceSpec).bare))=true:=by kernel_rfl
theorem jf1:(laidOutB Tryz.pinned.checked.prog)=true:=by kernel_rfl
theorem jf2:(mapsRowed Tryz.pinned.checked.prog)=true:=by kernel_rfl
theorem jf3:(Tryz.f4.params.all (Tryz.pinned.checked.prog.readableRec ·))=true:=by kernel_rfl
theorem jf4:(namedTie Tryz.pinned.checked.prog Rows.deltaKeysMatchReferenceUptoRow.named (Rows.OpenSpec.upto Rows.deltaKeysMatchReferenceSpec).bare.vars)=true:=by kernel_rfl
theorem jf5:((Rows.deltaKeysMatchReferenceUptoRow.stops == []))=true:=by kernel_rfl
theorem jf6:((Tryz.pinned.checked.prog.stops == []))=true:=by kernel_rfl
theorem jf7:((Rows.deltaKeysMatchReferenceUptoRow.knobs == []))=true:=by kernel_rfl
theorem jf8:((Tryz.pinned.checked.prog.stopKnobs == []))=true:=by kernel_rfl
theorem jf9:((Rows.deltaKeysMatchReferenceUptoRow.inPlace == Tryz.pinned.checked.prog.inPlace 4))=true:=by kernel_rfl
theorem jf10:((Rows.deltaKeysMatchReferenceUptoRow.unfollowed == Tryz.pinned.checked.prog.unfollowed 4))=true:=by kernel_rfl
theorem jf11:((Rows.deltaKeysMatchReferenceUptoRow.recurses == Tryz.pinned.checked.prog.recurses 4))=true:=by kernel_rfl
theorem jf12:((Rows.deltaKeysMatchReferenceUptoRow.named == Tryz.pinned.checked.prog.varsNamed 4))=true:=by kernel_rfl
theorem jf13:((Rows.deltaKeysMatchReferenceUptoRow.maps == (Tryz.f4.params.toList++(Rows.OpenSpec.upto Rows.deltaKeysMatchReferenceSpec).bare.plain.varTypes Tryz.pinned.checked.prog).any (Tryz.pinned.checked.prog.mapsRec ·)))=true:=by kernel_rfl
theorem jf14:((Rows.deltaKeysMatchReferenceUptoRow.ifaces == (Tryz.f4.params.toList++(Rows.OpenSpec.upto Rows.deltaKeysMatchReferenceSpec).bare.plain.varTypes Tryz.pinned.checked.prog).any (Tryz.pinned.checked.prog.ifacesRec ·)))=true:=by kernel_rfl
theorem jf15:((Rows.deltaKeysMatchReferenceUptoRow.mapsOut == Tryz.pinned.checked.prog.mapsAmong Tryz.f4.resultTypes.toList))=true:=by kernel_rfl
theorem jf16:((Rows.deltaKeysMatchReferenceUptoRow.loops == (Tryz.f4.params.toList++(Rows.OpenSpec.upto Rows.deltaKeysMatchReferenceSpec).bare.plain.varTypes Tryz.pinned.checked.prog).any (Tryz.pinned.checked.prog.loopsFrom ·)))=true:=by kernel_rfl
theorem jf17:((Rows.deltaKeysMatchReferenceUptoRow.wideKeys == (Tryz.f4.params.toList++(Rows.OpenSpec.upto Rows.deltaKeysMatchReferenceSpec).bare.plain.varTypes Tryz.pinned.checked.prog++Tryz.f4.resultTypes.toList).any (Tryz.pinned.checked.prog.wideKeysFrom ·)))=true:=by kernel_rfl
theorem jf18:((Rows.OpenSpec.upto Rows.deltaKeysMatchReferenceSpec).bare.vars.all (Tryz.pinned.checked.prog.varReadable ·))=true:=by kernel_rfl
theorem jf19:(Tryz.f4.resultTypes.all (fun t=>Tryz.pinned.checked.prog.readableRec t&&decide (t<Tryz.pinned.checked.prog.types.size)))=true:=by kernel_rfl
theorem jf20:((Rows.deltaKeysMatchReferenceUptoRow.ifacesOut == Tryz.f4.resultTypes.toList.any (Tryz.pinned.checked.prog.ifacesRec ·)))=true:=by kernel_rfl
theorem jf21:((Rows.deltaKeysMatchReferenceUptoRow.loopsOut == Tryz.f4.resultTypes.toList.any (Tryz.pinned.checked.prog.loopsFrom ·)))=true:=by kernel_rfl
theorem jf22:((Rows.deltaKeysMatchReferenceUptoRow.plainKeys == Tryz.pinned.checked.prog.plainKeys))=true:=by kernel_rfl
theorem jf23:(Rows.deltaKeysMatchReferenceUptoRow.shortTexts.isNone)=true:=by kernel_rfl
theorem jf24:(Tryz.pinned.checked.prog.stopsHeard)=true:=by kernel_rfl
theorem jf25:(Tryz.pinned.checked.prog.mayEnter)=true:=by kernel_rfl
theorem jf26:((Rows.deltaKeysMatchReferenceUptoRow.lifted == Tryz.pinned.checked.prog.liftsFinal))=true:=by kernel_rfl
theorem jf27:((Tryz.pinned.checked.prog.make == some Rows.deltaKeysMatchReferenceUptoRow.make))=true:=by kernel_rfl
theorem jf29:((Rows.deltaKeysMatchReferenceUptoRow.pinned == Rows.deltaKeysMatchReferenceUptoRow.pinnedBy))=true:=by kernel_rfl
theorem jf30:((Rows.deltaKeysMatchReferenceUptoRow.veiled == (Tryz.f4.params.toList++(Rows.OpenSpec.upto Rows.deltaKeysMatchReferenceSpec).bare.plain.varTypes Tryz.pinned.checked.prog++Tryz.f4.resultTypes.toList).any (Tryz.pinned.checked.prog.veiledRec ·)))=true:=by kernel_rfl
theorem jf31:(Rows.deltaKeysMatchReferenceUptoRow.veiledFits Tryz.pinned.checked.prog Tryz.f4.params.toList (Tryz.f4.params.toList++(Rows.OpenSpec.upto Rows.deltaKeysMatchReferenceSpec).bare.plain.varTypes Tryz.pinned.checked.prog++Tryz.f4.resultTypes.toList))=true:=by kernel_rfl
theorem jfacts:joinedFacts Tryz.pinned.checked.prog 4 Tryz.f4 (Rows.OpenSpec.upto Rows.deltaKeysMatchReferenceSpec).bare Rows.deltaKeysMatchReferenceUptoRow=true:=by
 unfold joinedFacts
 simp only [jf0,jf1,jf2,jf3,jf4,jf5,jf6,jf7,jf8,jf9,jf10,jf11,jf12,jf13,jf14,jf15,jf16,jf17,jf18,jf19,jf20,jf21,jf22,jf23,jf24,jf25,jf26,jf27,jf29,jf30,jf31,Bool.and_self]
 kernel_rfl
theorem said:Rows.DeltaKeysMatchReferenceUptoSaid:=
 OpenClaim.holds_of_cond 4 Tryz.f4 rfl rfl rfl rfl rfl rfl rfl ⟨rfl,rfl,rfl,rfl,rfl⟩ rfl rfl rfl rfl rfl (by kernel_rfl) Tryz.func4 jfacts
  (of_decide_eq_true (by kernel_rfl)) (by unfold Func.isWrapper; first|(rw [if_pos (by decide+kernel)]; kernel_rfl)|(rw [if_neg (by decide+kernel)]; exact ⟨rfl,rfl⟩))
  (fun os started H enc _ F=>by rw [OpenClaim.pre_eq_preRow]; exact lifted os started H enc F)
theorem plain (f:FuncId) (fn:Func) (hf:Tryz.pinned.checked.prog.funcNamed "stemma/stemlaw2.DeltaKeysMatchReference" =some f) (hfn:Tryz.pinned.checked.prog.funcs[f]? =some fn):
  false=Tryz.pinned.checked.prog.looks []∧∀(j:Nat) t,fn.params[j]? =some t→Tryz.pinned.checked.prog.wantsStandIn t=false:=by
 obtain rfl:f=4:=Option.some.inj ((show Tryz.prog.funcNamed "stemma/stemlaw2.DeltaKeysMatchReference" =some 4 by kernel_rfl).symm.trans hf) |>.symm
 obtain rfl:fn=Tryz.f4:=(Option.some.inj (Tryz.func4.symm.trans hfn)).symm
 refine ⟨by kernel_rfl,fun j t ht=> ?_⟩
 have hp:Tryz.f4.params= #[26,29,9]:=by kernel_rfl
 rw [hp] at ht
 have hm:t∈[26,29,9]:=by simpa using Array.mem_of_getElem? ht
 have hall:([26,29,9].all fun u=> !Tryz.prog.wantsStandIn u)=true:=by kernel_rfl
 have:=List.all_eq_true.1 hall t hm
 exact (by simpa using this:Tryz.prog.wantsStandIn t=false)
theorem proved:Rows.DeltaKeysMatchReferenceUptoCardSaid:=
 Claim7.holds_tied_plain_at .later [] _ _ _ _ said (fun _ h=>by cases h) (by kernel_rfl) (fun _ h=>by cases h) deltaKeysMatchReferenceUpto_row_tie rfl ⟨rfl,rfl⟩ (by kernel_rfl) rfl plain (by kernel_rfl)
end Go.Proofs.YtfcdfdnlgfebmaaGreatDoor.deltaKeysMatchReference
