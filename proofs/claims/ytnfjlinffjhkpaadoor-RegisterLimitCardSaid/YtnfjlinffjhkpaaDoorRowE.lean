/- Closed facts that the cards of this seat share; conditions: none. -/
import Derived.Test.YtnfjlinffjhkpaaDoorCards
import Derived.Test.YtnfjlinffjhkpaaDoorTie
import Derived.Test.YtnfjlinffjhkpaaDoorLexR
import Derived.Test.YtnfjlinffjhkpaaDoorFinA
import Derived.SevenTiedAt
set_option linter.unusedVariables false
set_option linter.unusedSimpArgs false
namespace Go.Proofs.YtnfjlinffjhkpaaDoor
open Go Go.ChangeShapes Go.WideShapes Go.ChangeAt Go.RowKit
theorem ownD : ownKnob Tryd.prog.godebug = none := by kernel_rfl
theorem laidOutD : laidOutB Tryd.prog = true := by kernel_rfl
theorem cellsIntD : Tryd.prog.cellsOf 3 = 1 := by kernel_rfl
end Go.Proofs.YtnfjlinffjhkpaaDoor
