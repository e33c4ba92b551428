/- permitofficelaw26.awake, by the abstract machine; conditions: the tables of classes and powers and a cell of the library stand. -/
import Derived.Test.YtjamibeffalhaaaGreatDoorTxB
import Derived.Test.YtjamibeffalhaaaGreatDoorDxB
import Derived.Test.YtjamibeffalhaaaGreatDoorDxG
import Derived.Test.YtjamibeffalhaaaGreatDoorAbsZ
set_option linter.unusedVariables false
set_option linter.unusedSimpArgs false
namespace Go.Proofs.YtjamibeffalhaaaGreatDoor
open Go Go.RowKit
set_option maxRecDepth 10000
variable {G : Nat → Option (List Value)}
def n0 : List Nd := [⟨⟨#[65]⟩, 0, 0⟩]
def v0 : List Dv := [⟨⟨#[69]⟩, 4, 0, -1, 0⟩]
def d0 : Dc := ⟨5, 1, 2, 1, [0], 2, [⟨0, 2, 9⟩], ⟨#[73, 100, 97]⟩, ⟨#[72, 97, 108]⟩, 0, 60, []⟩
def t0 : ByteArray := ⟨#[112, 101, 114, 109, 105, 116, 32, 53, 32, 115, 116, 97, 116, 101, 32, 105, 115, 115, 117, 101, 100, 32, 114, 111, 117, 110, 100, 32, 49, 32, 115, 97, 102, 101, 32, 50, 32, 105, 115, 115, 117, 101, 114, 32, 73, 100, 97, 32, 104, 111, 108, 100, 101, 114, 32, 72, 97, 108, 32, 102, 114, 111, 109, 32, 48, 32, 117, 110, 116, 105, 108, 32, 54, 48, 10, 122, 111, 110, 101, 32, 65, 10, 108, 111, 99, 107, 32, 69, 32, 99, 108, 111, 115, 101, 100, 32, 107, 101, 121, 32, 57, 10]⟩
theorem parse0 : jf n0 v0 t0.data.toList = (d0, 0, 0) := by decide +kernel
theorem print0 : qA n0 v0 d0 = (t0, 0) := by decide +kernel
theorem ok0 : NwOk n0 v0 := ⟨by decide, by decide, by decide, by decide⟩
theorem sz0 : DcSz d0 := ⟨by decide, by decide, by decide, by decide, by decide⟩
theorem nF (hG : GCls G) (hP : GPow G) (hM : GMax G) : zz Tryz.prog G 8 [] [] (.v (.bool true)) [] := by
  have hp := oT (G := G) n0 v0 t0 hG hM ok0 (by decide)
  rw [parse0] at hp
  have hq := print_A (G := G) n0 v0 d0 hG hP ok0 sz0
  rw [print0] at hq
  have hs := dsame_A (G := G) d0 d0 sz0
  rw [decide_eq_true rfl] at hs
  have ha := dact_A (G := G) d0
  refine zb tbOk (zc Tryz.func8 (by kernel_rfl) rfl) Tryz.func8 rfl _ Tryz.ntmps8 (Nat.le_of_ble_eq_true rfl) fun X hX => ?_
  subst hX
  repeat (first | ((with_reducible refine zE ?_); refine zF rfl ?_) | ((with_reducible refine zR ?_); refine zk tbOk rfl rfl rfl rfl (Nat.le_of_ble_eq_true rfl) ?_) | ((with_reducible refine zp ?_); refine zq tbOk rfl rfl rfl rfl rfl rfl rfl (Nat.le_of_ble_eq_true rfl) rfl ?_) | ((with_reducible refine yR ?_); refine yQ tbOk rfl rfl ?_) | ((with_reducible refine yM ?_); refine yN tbOk rfl rfl rfl rfl rfl ?_) | ((with_reducible refine zr ?_); refine zx tbOk rfl rfl rfl rfl rfl (by omega) rfl rfl rfl ?_) | refine zL ?_ | refine zB rfl ?_ | with_reducible (first | refine zG ?_ | refine zH ?_) | ((with_reducible refine zA ?_ ?_); kernel_rfl))
  refine zC (hq) ?_
  repeat (first | ((with_reducible refine zK ?_); refine zJ rfl ?_) | ((with_reducible refine zE ?_); refine zF rfl ?_) | ((with_reducible refine zR ?_); refine zk tbOk rfl rfl rfl rfl (Nat.le_of_ble_eq_true rfl) ?_) | ((with_reducible refine ye ?_); refine yd rfl rfl ?_)  | refine zL ?_ | refine zB rfl ?_ | with_reducible (first | refine zG ?_ | refine zH ?_) | ((with_reducible refine zA ?_ ?_); kernel_rfl))
  refine zC (hp) ?_
  repeat (first | ((with_reducible refine zK ?_); refine zJ rfl ?_) | ((with_reducible refine zE ?_); refine zF rfl ?_) | ((with_reducible refine zR ?_); refine zk tbOk rfl rfl rfl rfl (Nat.le_of_ble_eq_true rfl) ?_) | ((with_reducible refine zp ?_); refine zq tbOk rfl rfl rfl rfl rfl rfl rfl (Nat.le_of_ble_eq_true rfl) rfl ?_) | ((with_reducible refine yR ?_); refine yQ tbOk rfl rfl ?_) | ((with_reducible refine ye ?_); refine yd rfl rfl ?_) | ((with_reducible refine za ?_); refine zh rfl (by first | rfl | assumption) rfl ?_) | ((with_reducible refine zQ ?_); refine zT rfl rfl rfl ?_)  | refine zL ?_ | refine zB rfl ?_ | refine yC rfl rfl (by first | rfl | assumption) ?_ | with_reducible (first | refine zG ?_ | refine zH ?_) | ((with_reducible refine zA ?_ ?_); kernel_rfl))
  refine zC (hs) ?_
  repeat (first | ((with_reducible refine zK ?_); refine zJ rfl ?_) | ((with_reducible refine zR ?_); refine zk tbOk rfl rfl rfl rfl (Nat.le_of_ble_eq_true rfl) ?_) | ((with_reducible refine za ?_); refine zh rfl (by first | rfl | assumption) rfl ?_)  | refine zB rfl ?_ | refine yC rfl rfl (by first | rfl | assumption) ?_  )
  refine zC (ha) ?_
  repeat (first | ((with_reducible refine zK ?_); refine zJ rfl ?_) | ((with_reducible refine zE ?_); refine zF rfl ?_) | ((with_reducible refine za ?_); refine zh rfl (by first | rfl | assumption) rfl ?_) | ((with_reducible refine zQ ?_); refine yh rfl rfl rfl ?_)  | refine zL ?_ | refine zB rfl ?_ | refine yC rfl rfl (by first | rfl | assumption) ?_ | with_reducible (first | refine zG ?_ | refine zN ?_) )
  refine zm (by first | exact .inr rfl | exact .inl rfl) rfl rfl ?_
  refine congrArg (fun b => AV.v (.bool b)) ?_
  decide +kernel
end Go.Proofs.YtjamibeffalhaaaGreatDoor
