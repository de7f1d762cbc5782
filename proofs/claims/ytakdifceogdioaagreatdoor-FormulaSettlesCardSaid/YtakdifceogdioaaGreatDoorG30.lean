/- Walks of functions, and plain facts. -/
import Derived.Test.YtakdifceogdioaaGreatDoorRows
import Derived.Test.YtakdifceogdioaaGreatDoorChecked
import Derived.JoinedOf
import Derived.SevenTiedAt
import Derived.Test.YtakdifceogdioaaGreatDoorG10
set_option linter.unusedVariables false
set_option linter.unusedSimpArgs false
set_option maxHeartbeats 20000000
set_option maxRecDepth 100000
namespace Go.Proofs.YtakdifceogdioaaGreatDoor
open Go.Proofs.Tryz
theorem Q0h:(Rows.formulaSettlesRow.lifted==prog.liftsFinal)=true:=by kernel_rfl
theorem Q0i:(prog.make==some Rows.formulaSettlesRow.make)=true:=by kernel_rfl
theorem Q0j:(Rows.formulaSettlesRow.inPlace==prog.inPlace 8)=true:=by kernel_rfl
theorem Q0l:(Rows.formulaSettlesRow.unfollowed==prog.unfollowed 8)=true:=by kernel_rfl
theorem Q0k:(Rows.formulaSettlesRow.recurses==prog.recurses 8)=true:=by kernel_rfl
theorem Q0m:(Rows.formulaSettlesRow.named==prog.varsNamed 8)=true:=by kernel_rfl
theorem Q0f:joinedFacts prog 8 Tryz.f8 Rows.formulaSettlesSpec Rows.formulaSettlesRow=true:=by unfold joinedFacts;rw[Q33,Q0h,Q0i,Q0j,Q0l,Q0k,Q0m];kernel_rfl
theorem Q0g:false=Rows.formulaSettlesRow.goesBy prog:=by kernel_rfl
end Go.Proofs.YtakdifceogdioaaGreatDoor