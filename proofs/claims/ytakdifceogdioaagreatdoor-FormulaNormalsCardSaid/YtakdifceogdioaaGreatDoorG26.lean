/- Walks of functions, and plain facts. -/
import Derived.Test.YtakdifceogdioaaGreatDoorRows
import Derived.Test.YtakdifceogdioaaGreatDoorChecked
import Derived.JoinedOf
import Derived.SevenTiedAt
import Derived.Test.YtakdifceogdioaaGreatDoorG10
set_option linter.unusedVariables false
set_option linter.unusedSimpArgs false
set_option maxHeartbeats 20000000
set_option maxRecDepth 100000
namespace Go.Proofs.YtakdifceogdioaaGreatDoor
open Go.Proofs.Tryz
theorem Q0h:(Rows.formulaNormalsRow.lifted==prog.liftsFinal)=true:=by kernel_rfl
theorem Q0i:(prog.make==some Rows.formulaNormalsRow.make)=true:=by kernel_rfl
theorem Q0j:(Rows.formulaNormalsRow.inPlace==prog.inPlace 4)=true:=by kernel_rfl
theorem Q0l:(Rows.formulaNormalsRow.unfollowed==prog.unfollowed 4)=true:=by kernel_rfl
theorem Q0k:(Rows.formulaNormalsRow.recurses==prog.recurses 4)=true:=by kernel_rfl
theorem Q0m:(Rows.formulaNormalsRow.named==prog.varsNamed 4)=true:=by kernel_rfl
theorem Q0f:joinedFacts prog 4 Tryz.f4 Rows.formulaNormalsSpec Rows.formulaNormalsRow=true:=by unfold joinedFacts;rw[Q33,Q0h,Q0i,Q0j,Q0l,Q0k,Q0m];kernel_rfl
theorem Q0g:false=Rows.formulaNormalsRow.goesBy prog:=by kernel_rfl
end Go.Proofs.YtakdifceogdioaaGreatDoor