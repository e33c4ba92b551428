/- first() is true, its second part, by the executor; conditions: none. -/
import Derived.Test.YtnafokinifbfhaaGreatDoorCxY
set_option linter.unusedVariables false
namespace Go.Proofs.YtnafokinifbfhaaGreatDoor.Cx
open Go Go.RowKit
theorem runB : endB (exec xt 100000 partB s1) = true := by kernel_rfl
end Go.Proofs.YtnafokinifbfhaaGreatDoor.Cx
