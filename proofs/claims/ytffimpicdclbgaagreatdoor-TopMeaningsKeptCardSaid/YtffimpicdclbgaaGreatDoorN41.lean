/- Walks of functions, and plain facts. -/
import Derived.Test.YtffimpicdclbgaaGreatDoorN09
import Derived.Test.YtffimpicdclbgaaGreatDoorN40
import Derived.Test.YtffimpicdclbgaaGreatDoorN14
import Derived.Test.YtffimpicdclbgaaGreatDoorN20
import Derived.Test.YtffimpicdclbgaaGreatDoorN38
import Derived.Test.YtffimpicdclbgaaGreatDoorN01
set_option linter.unusedVariables false
set_option linter.unusedSimpArgs false
set_option maxHeartbeats 20000000
set_option maxRecDepth 100000
namespace Go.Proofs.YtffimpicdclbgaaGreatDoor
section
section
variable {P:Int→Int→Prop}
end
end
end Go.Proofs.YtffimpicdclbgaaGreatDoor