/- A cut in a walk: ways that part come together in one state; conditions: none. -/
import Derived.Test.YtgpglcccjkpmdaaDoorAbsX
set_option linter.unusedVariables false
set_option linter.unusedSimpArgs false
namespace Go.Proofs.YtgpglcccjkpmdaaDoor
open Go Go.RowKit
section
variable {P : Program} {X : Ctx} {n : Nat} {σ : AS} {Q Q' : Exit → AS → Prop}
end
end Go.Proofs.YtgpglcccjkpmdaaDoor
