/- Joined: RpO. -/
import Derived.Test.YtplbfmcgddnkeaaGreatDoorS36
set_option linter.unusedVariables false
set_option linter.unusedSimpArgs false
section
set_option maxHeartbeats 8000000
set_option maxRecDepth 100000
namespace Go.Proofs.YtplbfmcgddnkeaaGreatDoor
open Go.RowKit
attribute [local go_sem ↓] Go.wp_at_zero Go.wp_at_succ
attribute [local go_sem ↓] app_open
end Go.Proofs.YtplbfmcgddnkeaaGreatDoor
end
