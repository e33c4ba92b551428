/- The references of chapter 26: index, number, first, LockOf, by the abstract machine; conditions: none. -/
import Derived.Test.YtjamibeffalhaaaGreatDoorDxG
set_option linter.unusedVariables false
set_option linter.unusedSimpArgs false
namespace Go.Proofs.YtjamibeffalhaaaGreatDoor
open Go Go.RowKit
set_option maxRecDepth 10000
variable {G : Nat → Option (List Value)}
theorem rpos_A (p : Int) (h : p = 1 ∨ p = 2) : zy Tryz.prog G 74 [.v (.int .i64 p)] [] (svL (wAt posL p.toNat)) [] := by
  rcases h with h | h <;> subst h
  · refine zd tbOk (zf Tryz.func74 (by kernel_rfl) rfl) Tryz.func74 rfl _ Tryz.ntmps74 (Nat.le_of_ble_eq_true rfl) fun X hX => ?_
    subst hX
    repeat (first | ((with_reducible refine zJ ?_); refine zK rfl ?_) | ((with_reducible refine zF ?_); refine zE rfl ?_) | ((with_reducible refine zR ?_); refine zS rfl rfl rfl ?_)  | refine zL ?_ | refine zB rfl ?_ | with_reducible (first | refine zG ?_ | refine zP ?_ | refine zH ?_ | refine zN ?_) | ((with_reducible refine zA ?_ ?_); kernel_rfl) | refine zr rfl (by first | rfl | assumption) ?_)
    refine ze (by first | exact .inr rfl | exact .inl rfl) rfl rfl ?_
    rfl
  · refine zd tbOk (zf Tryz.func74 (by kernel_rfl) rfl) Tryz.func74 rfl _ Tryz.ntmps74 (Nat.le_of_ble_eq_true rfl) fun X hX => ?_
    subst hX
    repeat (first | ((with_reducible refine zJ ?_); refine zK rfl ?_) | ((with_reducible refine zF ?_); refine zE rfl ?_) | ((with_reducible refine zR ?_); refine zS rfl rfl rfl ?_)  | refine zL ?_ | refine zB rfl ?_ | with_reducible (first | refine zG ?_ | refine zH ?_ | refine zT ?_ | refine zN ?_) | ((with_reducible refine zA ?_ ?_); kernel_rfl) | refine yH rfl (by first | rfl | assumption) ?_)
    refine ze (by first | exact .inr rfl | exact .inl rfl) rfl rfl ?_
    rfl
end Go.Proofs.YtjamibeffalhaaaGreatDoor
