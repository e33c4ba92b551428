/- cmp.Compare at numbers, by the abstract machine; conditions: none. -/
import Derived.Test.YtnafokinifbfhaaGreatDoorNetA
import Derived.Test.YtnafokinifbfhaaGreatDoorTab
set_option linter.unusedVariables false
set_option linter.unusedSimpArgs false
namespace Go.Proofs.YtnafokinifbfhaaGreatDoor
open Go Go.RowKit
set_option maxRecDepth 10000
variable {G : Nat → Option (List Value)}
theorem nan_A (n : Int) : zu Tryz.prog G 177 [.v (.int .i64 n)] [] (.v (.bool false)) [] := by
  refine zf tbOk (zM Tryz.func177 (by kernel_rfl) rfl) Tryz.func177 rfl _ Tryz.ntmps177 (Nat.le_of_ble_eq_true rfl) fun X hX => ?_
  subst hX
  repeat' (first | ((with_reducible refine zI ?_); refine zH rfl ?_) | ((with_reducible refine zE ?_); refine zD rfl ?_) | ((with_reducible refine zP ?_); refine zS rfl rfl rfl ?_)  | refine zJ ?_ | refine zB rfl ?_ | with_reducible (first | refine zC ?_ | refine zF ?_ | refine zQ ?_) | ((with_reducible refine zA ?_ ?_); kernel_rfl) | refine yD rfl rfl (fun _ => ?_) (fun _ => ?_) | refine zX rfl (fun _ => ?_) (fun _ => ?_))
  refine zj (by first | exact .inr rfl | exact .inl rfl) rfl rfl ?_
  simp
def cmpI (x y : Int) : Int := if x < y then -1 else if x > y then 1 else 0
theorem cmp_A (x y : Int) : zu Tryz.prog G 180 [.v (.int .i64 x), .v (.int .i64 y)] [] (.v (.int .i64 (cmpI x y))) [] := by
  refine zf tbOk (zM Tryz.func180 (by kernel_rfl) rfl) Tryz.func180 rfl _ Tryz.ntmps180 (Nat.le_of_ble_eq_true rfl) fun X hX => ?_
  subst hX
  repeat (first | ((with_reducible refine zI ?_); refine zH rfl ?_) | ((with_reducible refine zE ?_); refine zD rfl ?_)  | refine zJ ?_ | refine zB rfl ?_ | with_reducible (first | refine zC ?_ | refine zF ?_) | ((with_reducible refine zA ?_ ?_); kernel_rfl))
  refine zl (nan_A x) (by repeat' (first | exact trivial | exact Ren.v _ | exact Ren.sl _ _ | exact Ren.ep _ | exact Ren.ptr _ _ _ _ rfl | exact Ren.bs _ _ _ _ _ rfl | exact Ren.nil _ | exact Ren.own _ _ _ _ ⟨_, rfl⟩ | refine zn ?_ | refine zz ?_ | refine yG ?_ | refine ⟨?_, ?_⟩)) (by repeat' (first | exact trivial | exact RenB.v _ | exact RenB.sl _ _ | exact RenB.ep _ | exact RenB.ptr _ _ _ _ rfl | refine yi ?_ | refine yM ?_ | refine ⟨?_, ?_⟩)) ?_
  repeat (first | ((with_reducible refine zI ?_); refine zH rfl ?_) | ((with_reducible refine zE ?_); refine zD rfl ?_)  | refine zJ ?_ | refine zB rfl ?_ | with_reducible (first | refine zC ?_ | refine zF ?_) | ((with_reducible refine zA ?_ ?_); kernel_rfl))
  refine zl (nan_A y) (by repeat' (first | exact trivial | exact Ren.v _ | exact Ren.sl _ _ | exact Ren.ep _ | exact Ren.ptr _ _ _ _ rfl | exact Ren.bs _ _ _ _ _ rfl | exact Ren.nil _ | exact Ren.own _ _ _ _ ⟨_, rfl⟩ | refine zn ?_ | refine zz ?_ | refine yG ?_ | refine ⟨?_, ?_⟩)) (by repeat' (first | exact trivial | exact RenB.v _ | exact RenB.sl _ _ | exact RenB.ep _ | exact RenB.ptr _ _ _ _ rfl | refine yi ?_ | refine yM ?_ | refine ⟨?_, ?_⟩)) ?_
  repeat' (first | ((with_reducible refine zI ?_); refine zH rfl ?_) | ((with_reducible refine zE ?_); refine zD rfl ?_) | ((with_reducible refine zP ?_); refine zS rfl rfl rfl ?_)  | refine zJ ?_ | refine zB rfl ?_ | with_reducible (first | refine zC ?_ | refine zR ?_ | refine zF ?_ | refine zN ?_ | refine zQ ?_) | ((with_reducible refine zA ?_ ?_); kernel_rfl) | refine zy rfl (by first | rfl | assumption) ?_ | refine yD rfl rfl (fun _ => ?_) (fun _ => ?_) | refine zX rfl (fun _ => ?_) (fun _ => ?_))
  all_goals refine zj (by first | exact .inr rfl | exact .inl rfl) rfl rfl ?_
  all_goals simp_all [cmpI]
  all_goals omega
end Go.Proofs.YtnafokinifbfhaaGreatDoor
