/- Own buffers handed to a call that gives them back with one element more: copies of rows of any size, the contract, and its law in a walk; conditions: none / What laying elements into, and taking them out of, slices of the caller's own needs, for elements of any size; conditions: none. -/
import Derived.Test.YtgpglcccjkpmdaaDoorAbsY
import Derived.Shelf.Spec.SlicesInsert
import Derived.Lib.AppendZerosOnto
import Derived.Test.YtgpglcccjkpmdaaDoorAbsX
import Derived.Lib.SliceRun
set_option linter.unusedVariables false
set_option linter.unusedSimpArgs false
namespace Go.Proofs.YtgpglcccjkpmdaaDoor
open Go Go.RowKit
theorem putL_take_all {α : Type} : ∀ (xs cs : List α) (o : Nat), o + xs.length ≤ cs.length → putL cs o xs = cs.take o ++ xs ++ cs.drop (o + xs.length)
  | [], cs, o, h => by simp [putL]
  | x :: xs, cs, o, h => by
    simp at h
    rw [putL, putL_take_all xs _ _ (by simp; omega)]
    have e1 : (cs.set o x).take (o + 1) = cs.take o ++ [x] := by
      rw [List.take_add_one, List.take_set_of_le (by omega), List.getElem?_set_self (by omega)]; rfl
    have e2 : (cs.set o x).drop (o + 1 + xs.length) = cs.drop (o + (x :: xs).length) := by
      rw [List.drop_set_of_lt (by omega)]
      congr 1
      simp; omega
    rw [e1, e2]
    simp
section
variable {X : Ctx} {n : Nat} {M : Nat → Option (Array Value)} {ρ : Nat → Nat → Option Value} {σ : AS} {a : Act} {w : World}
end
section
variable {P : Program} {X : Ctx} {n : Nat} {ops : Array Oper} {os : List Oper} {acc : List Rule} {σ : AS} {K : List Rule → AS → Prop} {gt : List (Nat × AV)} {ty : TypeId} {ps : String} {af : Array Edge} {g : Option (Nat × Bool)}
end
end Go.Proofs.YtgpglcccjkpmdaaDoor
namespace Go.Proofs.YtgpglcccjkpmdaaDoor
open Go Go.RowKit
theorem flat_take {sz : Nat} : ∀ (L : List AV) (i : Nat), (∀ x ∈ L, x.cells.length = sz) → (L.take i).flatMap AV.cells = (L.flatMap AV.cells).take (i * sz) ∧ (L.drop i).flatMap AV.cells = (L.flatMap AV.cells).drop (i * sz)
  | [], i, _ => by simp
  | x :: L, 0, _ => by simp
  | x :: L, i + 1, h => by
    obtain ⟨h1, h2⟩ := flat_take L i fun y hy => h y (by simp [hy])
    have hx := h x (by simp)
    have hle : x.cells.length ≤ sz + i * sz := by rw [hx]; exact Nat.le_add_right _ _
    have he : sz + i * sz - x.cells.length = i * sz := by rw [hx]; exact Nat.add_sub_cancel_left _ _
    rw [List.take_succ_cons, List.drop_succ_cons, List.flatMap_cons, List.flatMap_cons, h1, h2, Nat.succ_mul, Nat.add_comm (i * sz) sz]
    constructor
    · rw [List.take_append, List.take_of_length_le hle, he]
    · rw [List.drop_append, List.drop_of_length_le hle, List.nil_append, he]
end Go.Proofs.YtgpglcccjkpmdaaDoor
