/- lexeme.Text, and the references of Number and Text, by the abstract machine; conditions: the table of powers stands. -/
import Derived.Test.YtggagmafkdhjcaaGreatDoorAbsN
import Derived.Test.YtggagmafkdhjcaaGreatDoorNmA
import Derived.Test.YtggagmafkdhjcaaGreatDoorShelf
set_option linter.unusedVariables false
set_option linter.unusedSimpArgs false
namespace Go.Proofs.YtggagmafkdhjcaaGreatDoor
open Go Go.RowKit Go.Sort
set_option maxRecDepth 10000
variable {G : Nat → Option (List Value)}
theorem tI {x : Bool} (h : (!x) = true) : x = false := by cases x <;> simp_all
theorem sB {x : Bool} (h : (!x) = false) : x = true := by cases x <;> simp_all
def powL : List Value := Lib.pow10Tab.map fun z => .int .u64 z
def GPow (G : Nat → Option (List Value)) : Prop := G 2 = some powL
theorem sN : Tryz.prog.globalNamed "internal/strconv.uint64pow10" = some 2 := by kernel_rfl
theorem uB {w : World} {t : TypeId} {fr : Nat × Nat} (h : w.heap[2]? = some (.cells ⟨powL⟩ t fr)) : Lib.TabIs Tryz.prog w "internal/strconv.uint64pow10" .u64 Lib.pow10Tab := by
  unfold Lib.TabIs World.var?
  rw [sN]
  simp only [Option.bind_some]
  rw [h]
  rfl
theorem iI (w : World) (k : Nat) (os : Array Obj) : Below w.heap.size w (grow (w.drewN k) os) :=
  ⟨rfl, rfl, rfl, by simp [grow], fun i hi => by
    show (w.heap ++ os)[i]? = _
    rw [Array.getElem?_append_left hi]⟩
theorem xA (n : Int) (hG : GPow G) (h1 : -9223372036854775808 ≤ n) (h2 : n ≤ 9223372036854775807) : jD Tryz.prog G 55 [.v (.int .i64 n)] [] (.v (.string (txtP n))) [] :=
  bS (vs := [.int .i64 n]) (yj Tryz.func55 (by kernel_rfl) rfl) (fun _ _ => .v _ _) (fun w hw => by
    obtain ⟨t, fr, h⟩ := hw _ _ hG
    refine (Tryz.strconv_Itoa n h1 h2 w (uB h)).mono ?_
    rintro e w' ⟨rfl, k, os, rfl⟩
    exact ⟨rfl, iI w k os⟩)
theorem mJ (n : Int) (hG : GPow G) (h1 : -9223372036854775808 ≤ n) (h2 : n ≤ 9223372036854775807) : jD Tryz.prog G 29 [.v (.int .i64 n)] [] (.v (.string (txtP n))) [] := by
  refine yi tbOk (yj Tryz.func29 (by kernel_rfl) rfl) Tryz.func29 rfl _ Tryz.ntmps29 (Nat.le_of_ble_eq_true rfl) fun X hX => ?_
  subst hX
  repeat (first | ((with_reducible refine zm ?_); refine zl rfl ?_) | ((with_reducible refine zL ?_); refine zM rfl ?_)  | refine yA ?_ | refine zS rfl ?_ | with_reducible (first | refine zY ?_ | refine zR ?_) | ((with_reducible refine zJ ?_ ?_); kernel_rfl))
  refine zC (xA n hG h1 h2) ?_
  repeat (first | ((with_reducible refine zL ?_); refine zM rfl ?_)  | refine yA ?_ | refine zS rfl ?_ | with_reducible (first | refine zY ?_ | refine zv ?_) )
  refine jK (by first | exact .inr rfl | exact .inl rfl) rfl rfl ?_
  rfl
end Go.Proofs.YtggagmafkdhjcaaGreatDoor
