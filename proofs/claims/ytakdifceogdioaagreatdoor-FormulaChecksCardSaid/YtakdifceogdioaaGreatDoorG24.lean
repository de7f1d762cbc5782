/- Walks of functions, and plain facts. -/
import Derived.Test.YtakdifceogdioaaGreatDoorRows
import Derived.Test.YtakdifceogdioaaGreatDoorChecked
import Derived.JoinedOf
import Derived.SevenTiedAt
import Derived.Test.YtakdifceogdioaaGreatDoorG10
set_option linter.unusedVariables false
set_option linter.unusedSimpArgs false
set_option maxHeartbeats 20000000
set_option maxRecDepth 100000
namespace Go.Proofs.YtakdifceogdioaaGreatDoor
open Go.Proofs.Tryz
theorem Q0h:(Rows.formulaChecksRow.lifted==prog.liftsFinal)=true:=by kernel_rfl
theorem Q0i:(prog.make==some Rows.formulaChecksRow.make)=true:=by kernel_rfl
theorem Q0j:(Rows.formulaChecksRow.inPlace==prog.inPlace 3)=true:=by kernel_rfl
theorem Q0l:(Rows.formulaChecksRow.unfollowed==prog.unfollowed 3)=true:=by kernel_rfl
theorem Q0k:(Rows.formulaChecksRow.recurses==prog.recurses 3)=true:=by kernel_rfl
theorem Q0m:(Rows.formulaChecksRow.named==prog.varsNamed 3)=true:=by kernel_rfl
theorem Q0f:joinedFacts prog 3 Tryz.f3 Rows.formulaChecksSpec Rows.formulaChecksRow=true:=by unfold joinedFacts;rw[Q33,Q0h,Q0i,Q0j,Q0l,Q0k,Q0m];kernel_rfl
theorem Q0g:false=Rows.formulaChecksRow.goesBy prog:=by kernel_rfl
end Go.Proofs.YtakdifceogdioaaGreatDoor