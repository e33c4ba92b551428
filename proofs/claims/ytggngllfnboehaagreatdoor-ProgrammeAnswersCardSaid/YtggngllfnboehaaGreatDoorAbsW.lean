/- A row that is handed to a callee which changes it in place: the row as a box, and back as a row that nobody writes any more; conditions: tables of types that agree with the program's. -/
import Derived.Test.YtggngllfnboehaaGreatDoorAbsX
set_option linter.unusedVariables false
set_option linter.unusedSimpArgs false
namespace Go.Proofs.YtggngllfnboehaaGreatDoor
open Go Go.RowKit
section
variable {P : Program} {X : Ctx} {n : Nat} {σ : AS} {Q : Exit → AS → Prop} {c : Code}
end
section
variable {P : Program} {X : Ctx} {n : Nat} {ops : Array Oper} {os : List Oper} {acc : List Rule} {σ : AS} {K : List Rule → AS → Prop} {gt : List (Nat × AV)} {ty : TypeId} {ps : String} {af : Array Edge} {g : Option (Nat × Bool)} {d : Option Nat} {TB : Tabs} (hTB : TabsOk P TB)
include hTB
end
section
variable {P : Program} {X : Ctx} {n : Nat} {ops : Array Oper} {os : List Oper} {acc : List Rule} {σ : AS} {K : List Rule → AS → Prop} {gt : List (Nat × AV)} {ty : TypeId} {ps : String} {af : Array Edge} {g : Option (Nat × Bool)}
theorem x_max {d : Option Nat} {t t' : TypeId} {x y : Operand} {k k' : IntKind} {a b : Int} (hx : ev σ x = .v (.int k a)) (hy : ev σ y = .v (.int k' b))
    (h : Exec P X n ops os (mkG gt σ [x, y] [] d (.v (.int k (max a b))) [] :: acc) (σ.put d (.v (.int k (max a b)))) K) : Op1 P X n ops gt ⟨d, .call ⟨.builtin .max, #[x, y], #[t, t']⟩, ty, ps, af, g⟩ os acc σ K :=
  yy (fun M ρ τ a' w he hR => by
    have h1 := jH hR (he x (by simp)) hx
    have h2 := jH hR (he y (by simp)) hy
    have e : (if b > a then b else a) = max a b := by
      rw [Int.max_def]
      split <;> split <;> omega
    refine ⟨.int k (max a b), ?_, .v _ _⟩
    unfold execOp
    simp [resolve, invoke, builtin, h1, h2, Builtin.max_, Builtin.max2, e]) h
end
end Go.Proofs.YtggngllfnboehaaGreatDoor
