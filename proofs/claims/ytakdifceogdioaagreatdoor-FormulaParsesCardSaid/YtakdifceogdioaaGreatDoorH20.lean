/- Walks of functions, and plain facts. -/
import Derived.Test.YtakdifceogdioaaGreatDoorRows
import Derived.Test.YtakdifceogdioaaGreatDoorChecked
import Derived.JoinedOf
import Derived.SevenTiedAt
import Derived.Test.YtakdifceogdioaaGreatDoorH11
set_option linter.unusedVariables false
set_option linter.unusedSimpArgs false
set_option maxHeartbeats 20000000
set_option maxRecDepth 100000
namespace Go.Proofs.YtakdifceogdioaaGreatDoor
open Go.Proofs.Tryz
theorem Q8w:(Rows.formulaParsesRow.lifted==prog.liftsFinal)=true:=by kernel_rfl
theorem Q8x:(prog.make==some Rows.formulaParsesRow.make)=true:=by kernel_rfl
theorem Q8y:(Rows.formulaParsesRow.inPlace==prog.inPlace 6)=true:=by kernel_rfl
theorem Q90:(Rows.formulaParsesRow.unfollowed==prog.unfollowed 6)=true:=by kernel_rfl
theorem Q8z:(Rows.formulaParsesRow.recurses==prog.recurses 6)=true:=by kernel_rfl
theorem Q91:(Rows.formulaParsesRow.named==prog.varsNamed 6)=true:=by kernel_rfl
theorem Q8u:joinedFacts prog 6 Tryz.f6 Rows.formulaParsesSpec Rows.formulaParsesRow=true:=by unfold joinedFacts;rw[Qe6,Q8w,Q8x,Q8y,Q90,Q8z,Q91];kernel_rfl
theorem Q8v:false=Rows.formulaParsesRow.goesBy prog:=by kernel_rfl
end Go.Proofs.YtakdifceogdioaaGreatDoor