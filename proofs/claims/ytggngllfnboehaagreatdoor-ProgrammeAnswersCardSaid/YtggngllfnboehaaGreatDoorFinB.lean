/- A slice of numbers of any kind that came in, as an immutable slice of the abstract machine; nothing of the program stands here. -/
import Derived.Test.YtggngllfnboehaaGreatDoorFinA
set_option linter.unusedVariables false
set_option linter.unusedSimpArgs false
namespace Go.Proofs.YtggngllfnboehaaGreatDoor
open Go Go.ChangeShapes Go.WideShapes Go.ChangeAt Go.RowKit
section
variable {H : Type} {enc : TypeId × Value → H} {P : Program}
end
end Go.Proofs.YtggngllfnboehaaGreatDoor
