/- Rows of elements, cell by cell: what a changed element or field does to them; nothing of the program stands here / Rows of any elements that are made: a row of the frame's own, of zero values; conditions: tables of types that agree with the program's. -/
import Derived.Test.YtggagmafkdhjcaaGreatDoorInsB
import Derived.Test.YtggagmafkdhjcaaGreatDoorRxC
import Derived.Test.YtggagmafkdhjcaaGreatDoorAbsY
import Derived.Laws.OwnMore
set_option linter.unusedVariables false
set_option linter.unusedSimpArgs false
namespace Go.Proofs.YtggagmafkdhjcaaGreatDoor
open Go Go.RowKit
theorem flat_set {sz : Nat} (L : List AV) (i : Nat) (y : AV) (h : ∀ x ∈ L, x.cells.length = sz) (hy : y.cells.length = sz) (hi : i < L.length) : (L.set i y).flatMap AV.cells = putL (L.flatMap AV.cells) (i * sz) y.cells := by
  obtain ⟨ft, -⟩ := flat_take L i h
  obtain ⟨-, fd⟩ := flat_take L (i + 1) h
  have hl : (L.flatMap AV.cells).length = L.length * sz := flat_len' h
  have hle : i * sz + sz ≤ L.length * sz := by rw [← Nat.succ_mul]; exact Nat.mul_le_mul_right _ hi
  rw [putL_take_all _ _ _ (by rw [hl, hy]; exact hle), List.set_eq_take_append_cons_drop, if_pos hi, List.flatMap_append, List.flatMap_cons, ft, fd, hy, Nat.succ_mul, List.append_assoc]
theorem flat_get {sz : Nat} {L : List AV} {i : Nat} {x : AV} (h : ∀ x ∈ L, x.cells.length = sz) (hx : L[i]? = some x) : ((L.flatMap AV.cells).drop (i * sz)).take sz = x.cells := by
  obtain ⟨-, fd⟩ := flat_take L i h
  rw [← fd, drop_at hx, List.flatMap_cons, List.take_append_of_le_length (by rw [h x (List.mem_of_getElem? hx)]; exact Nat.le_refl _), List.take_of_length_le (by rw [h x (List.mem_of_getElem? hx)]; exact Nat.le_refl _)]
theorem flat_field {sz : Nat} {L : List AV} {i j : Nat} {x y v : AV} (h : ∀ x ∈ L, x.cells.length = sz) (hx : L[i]? = some x) (hy : y.cells = x.cells.set j v) (hj : j < sz) : (L.set i y).flatMap AV.cells = putL (L.flatMap AV.cells) (i * sz + j) [v] := by
  have hi := lt_at hx
  have hxl := h x (List.mem_of_getElem? hx)
  have hyl : y.cells.length = sz := by rw [hy, List.length_set]; exact hxl
  have hl : (L.flatMap AV.cells).length = L.length * sz := flat_len' h
  have hle : i * sz + sz ≤ L.length * sz := by rw [← Nat.succ_mul]; exact Nat.mul_le_mul_right _ hi
  rw [flat_set L i y h hyl hi, putL_take_all _ _ _ (by rw [hl, hyl]; exact hle)]
  have hg := flat_get h hx
  have hF : L.flatMap AV.cells = (L.flatMap AV.cells).take (i * sz) ++ (x.cells ++ (L.flatMap AV.cells).drop (i * sz + sz)) := by
    rw [← hg, ← List.drop_drop, List.take_append_drop, List.take_append_drop]
  have hA : ((L.flatMap AV.cells).take (i * sz)).length = i * sz := by rw [List.length_take, hl]; omega
  generalize (L.flatMap AV.cells).take (i * sz) = A at *
  rw [hyl]
  generalize (L.flatMap AV.cells).drop (i * sz + sz) = D at *
  rw [hF]
  show A ++ y.cells ++ D = (A ++ (x.cells ++ D)).set (i * sz + j) v
  rw [List.set_append_right _ _ (by omega), hA, show i * sz + j - i * sz = j by omega, List.set_append_left _ _ (by omega), ← hy, List.append_assoc]
end Go.Proofs.YtggagmafkdhjcaaGreatDoor
namespace Go.Proofs.YtggagmafkdhjcaaGreatDoor
open Go Go.RowKit
section
variable {P : Program} {X : Ctx} {n : Nat} {ops : Array Oper} {os : List Oper} {acc : List Rule} {σ : AS} {K : List Rule → AS → Prop} {gt : List (Nat × AV)} {ty : TypeId} {ps : String} {af : Array Edge} {g : Option (Nat × Bool)}
variable {TB : Tabs} (hTB : TabsOk P TB)
include hTB
end
section
variable {P : Program} {X : Ctx} {n : Nat} {σ : AS} {Q Q' : Exit → AS → Prop}
end
end Go.Proofs.YtggagmafkdhjcaaGreatDoor
