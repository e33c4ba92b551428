/- Own buffers handed to a call that gives them back with one element more: copies of rows of any size, the contract, and its law in a walk; conditions: none / What laying elements into, and taking them out of, slices of the caller's own needs, for elements of any size; conditions: none / Rows of elements, cell by cell: what a changed element or field does to them; nothing of the program stands here. -/
import Derived.Test.YtggngllfnboehaaGreatDoorAbsY
import Derived.Shelf.Spec.SlicesInsert
import Derived.Lib.AppendZerosOnto
import Derived.Test.YtggngllfnboehaaGreatDoorAbsX
import Derived.Lib.SliceRun
set_option linter.unusedVariables false
set_option linter.unusedSimpArgs false
namespace Go.Proofs.YtggngllfnboehaaGreatDoor
open Go Go.RowKit
theorem putL_take_all {α : Type} : ∀ (xs cs : List α) (o : Nat), o + xs.length ≤ cs.length → putL cs o xs = cs.take o ++ xs ++ cs.drop (o + xs.length)
  | [], cs, o, h => by simp [putL]
  | x :: xs, cs, o, h => by
    simp at h
    rw [putL, putL_take_all xs _ _ (by simp; omega)]
    have e1 : (cs.set o x).take (o + 1) = cs.take o ++ [x] := by
      rw [List.take_add_one, List.take_set_of_le (by omega), List.getElem?_set_self (by omega)]; rfl
    have e2 : (cs.set o x).drop (o + 1 + xs.length) = cs.drop (o + (x :: xs).length) := by
      rw [List.drop_set_of_lt (by omega)]
      congr 1
      simp; omega
    rw [e1, e2]
    simp
section
variable {X : Ctx} {n : Nat} {M : Nat → Option (Array Value)} {ρ : Nat → Nat → Option Value} {σ : AS} {a : Act} {w : World}
end
section
variable {P : Program} {X : Ctx} {n : Nat} {ops : Array Oper} {os : List Oper} {acc : List Rule} {σ : AS} {K : List Rule → AS → Prop} {gt : List (Nat × AV)} {ty : TypeId} {ps : String} {af : Array Edge} {g : Option (Nat × Bool)}
end
end Go.Proofs.YtggngllfnboehaaGreatDoor
namespace Go.Proofs.YtggngllfnboehaaGreatDoor
open Go Go.RowKit
theorem flat_take {sz : Nat} : ∀ (L : List AV) (i : Nat), (∀ x ∈ L, x.cells.length = sz) → (L.take i).flatMap AV.cells = (L.flatMap AV.cells).take (i * sz) ∧ (L.drop i).flatMap AV.cells = (L.flatMap AV.cells).drop (i * sz)
  | [], i, _ => by simp
  | x :: L, 0, _ => by simp
  | x :: L, i + 1, h => by
    obtain ⟨h1, h2⟩ := flat_take L i fun y hy => h y (by simp [hy])
    have hx := h x (by simp)
    have hle : x.cells.length ≤ sz + i * sz := by rw [hx]; exact Nat.le_add_right _ _
    have he : sz + i * sz - x.cells.length = i * sz := by rw [hx]; exact Nat.add_sub_cancel_left _ _
    rw [List.take_succ_cons, List.drop_succ_cons, List.flatMap_cons, List.flatMap_cons, h1, h2, Nat.succ_mul, Nat.add_comm (i * sz) sz]
    constructor
    · rw [List.take_append, List.take_of_length_le hle, he]
    · rw [List.drop_append, List.drop_of_length_le hle, List.nil_append, he]
end Go.Proofs.YtggngllfnboehaaGreatDoor
namespace Go.Proofs.YtggngllfnboehaaGreatDoor
open Go Go.RowKit
theorem flat_set {sz : Nat} (L : List AV) (i : Nat) (y : AV) (h : ∀ x ∈ L, x.cells.length = sz) (hy : y.cells.length = sz) (hi : i < L.length) : (L.set i y).flatMap AV.cells = putL (L.flatMap AV.cells) (i * sz) y.cells := by
  obtain ⟨ft, -⟩ := flat_take L i h
  obtain ⟨-, fd⟩ := flat_take L (i + 1) h
  have hl : (L.flatMap AV.cells).length = L.length * sz := flat_len' h
  have hle : i * sz + sz ≤ L.length * sz := by rw [← Nat.succ_mul]; exact Nat.mul_le_mul_right _ hi
  rw [putL_take_all _ _ _ (by rw [hl, hy]; exact hle), List.set_eq_take_append_cons_drop, if_pos hi, List.flatMap_append, List.flatMap_cons, ft, fd, hy, Nat.succ_mul, List.append_assoc]
theorem flat_get {sz : Nat} {L : List AV} {i : Nat} {x : AV} (h : ∀ x ∈ L, x.cells.length = sz) (hx : L[i]? = some x) : ((L.flatMap AV.cells).drop (i * sz)).take sz = x.cells := by
  obtain ⟨-, fd⟩ := flat_take L i h
  rw [← fd, jE hx, List.flatMap_cons, List.take_append_of_le_length (by rw [h x (List.mem_of_getElem? hx)]; exact Nat.le_refl _), List.take_of_length_le (by rw [h x (List.mem_of_getElem? hx)]; exact Nat.le_refl _)]
theorem flat_field {sz : Nat} {L : List AV} {i j : Nat} {x y v : AV} (h : ∀ x ∈ L, x.cells.length = sz) (hx : L[i]? = some x) (hy : y.cells = x.cells.set j v) (hj : j < sz) : (L.set i y).flatMap AV.cells = putL (L.flatMap AV.cells) (i * sz + j) [v] := by
  have hi := yP hx
  have hxl := h x (List.mem_of_getElem? hx)
  have hyl : y.cells.length = sz := by rw [hy, List.length_set]; exact hxl
  have hl : (L.flatMap AV.cells).length = L.length * sz := flat_len' h
  have hle : i * sz + sz ≤ L.length * sz := by rw [← Nat.succ_mul]; exact Nat.mul_le_mul_right _ hi
  rw [flat_set L i y h hyl hi, putL_take_all _ _ _ (by rw [hl, hyl]; exact hle)]
  have hg := flat_get h hx
  have hF : L.flatMap AV.cells = (L.flatMap AV.cells).take (i * sz) ++ (x.cells ++ (L.flatMap AV.cells).drop (i * sz + sz)) := by
    rw [← hg, ← List.drop_drop, List.take_append_drop, List.take_append_drop]
  have hA : ((L.flatMap AV.cells).take (i * sz)).length = i * sz := by rw [List.length_take, hl]; omega
  generalize (L.flatMap AV.cells).take (i * sz) = A at *
  rw [hyl]
  generalize (L.flatMap AV.cells).drop (i * sz + sz) = D at *
  rw [hF]
  show A ++ y.cells ++ D = (A ++ (x.cells ++ D)).set (i * sz + j) v
  rw [List.set_append_right _ _ (by omega), hA, show i * sz + j - i * sz = j by omega, List.set_append_left _ _ (by omega), ← hy, List.append_assoc]
end Go.Proofs.YtggngllfnboehaaGreatDoor
