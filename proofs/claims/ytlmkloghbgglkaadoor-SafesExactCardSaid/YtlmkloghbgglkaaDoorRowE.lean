/- Closed facts that the cards of this seat share; conditions: none. -/
import Derived.Test.YtlmkloghbgglkaaDoorCards
import Derived.Test.YtlmkloghbgglkaaDoorTie
import Derived.Test.YtlmkloghbgglkaaDoorLexR
import Derived.Test.YtlmkloghbgglkaaDoorFinA
import Derived.SevenTiedAt
set_option linter.unusedVariables false
set_option linter.unusedSimpArgs false
namespace Go.Proofs.YtlmkloghbgglkaaDoor
open Go Go.ChangeShapes Go.WideShapes Go.ChangeAt Go.RowKit
theorem ownD : ownKnob Tryd.prog.godebug = none := by kernel_rfl
theorem laidOutD : laidOutB Tryd.prog = true := by kernel_rfl
theorem cellsIntD : Tryd.prog.cellsOf 3 = 1 := by kernel_rfl
end Go.Proofs.YtlmkloghbgglkaaDoor
