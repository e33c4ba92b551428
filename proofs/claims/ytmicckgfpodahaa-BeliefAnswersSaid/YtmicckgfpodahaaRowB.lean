/- Closed facts that the rows of this seat share; conditions: none. -/
import Derived.Test.YtmicckgfpodahaaRows
import Derived.Test.YtmicckgfpodahaaFin
set_option linter.unusedVariables false
set_option linter.unusedSimpArgs false
namespace Go.Proofs.Ytmicckgfpodahaa
open Go Go.ChangeShapes Go.WideShapes Go.ChangeAt Go.RowKit
theorem own0 : ownKnob Try.prog.godebug = none := by kernel_rfl
theorem laidOut0 : laidOutB Try.prog = true := by kernel_rfl
theorem cellsInt0 : Try.prog.cellsOf 3 = 1 := by kernel_rfl
end Go.Proofs.Ytmicckgfpodahaa
