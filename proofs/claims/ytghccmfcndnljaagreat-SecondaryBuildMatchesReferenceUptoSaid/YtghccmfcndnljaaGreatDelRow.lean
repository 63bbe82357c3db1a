/- slices.Delete on a row of the call's own: walked once. -/
import Derived.Test.YtghccmfcndnljaaGreatProg
import Derived.Test.YtghccmfcndnljaaGreatViXE
import Derived.WalkKit
import Derived.Tactics
import Derived.Tactics2
import Derived.StillTactics
import Derived.OwnWalk
import Derived.Shelf.RegionOpenPlain
import Derived.Lib.SliceRun
import Derived.KernelRfl
import Derived.IntWalk
set_option linter.unusedVariables false
set_option linter.unusedSimpArgs false
set_option linter.unnecessarySimpa false
set_option linter.unusedSectionVars false
set_option linter.unusedVariables false
namespace Go.Proofs.YtghccmfcndnljaaGreat.Del_Row
open Go.RowKit Go.Vi
theorem qme:(Tryz.prog.info? 39).map (·.size)=some 1:=by kernel_rfl
end Go.Proofs.YtghccmfcndnljaaGreat.Del_Row
