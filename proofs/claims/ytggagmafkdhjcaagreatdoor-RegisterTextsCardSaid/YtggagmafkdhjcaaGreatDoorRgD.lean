/- mk.name, mk.Person and permitofficeref05.Add, by the abstract machine; conditions: the table of classes stands. -/
import Derived.Test.YtggagmafkdhjcaaGreatDoorRgB
import Derived.Test.YtggagmafkdhjcaaGreatDoorDkA
import Derived.Laws.BytesArg
import Derived.Test.YtggagmafkdhjcaaGreatDoorAbsX
set_option linter.unusedVariables false
set_option linter.unusedSimpArgs false
namespace Go.Proofs.YtggagmafkdhjcaaGreatDoor
open Go Go.RowKit
set_option maxRecDepth 10000
variable {G : Nat → Option (List Value)}
/-- The name of a thing: a letter and two figures. -/
def dW (l : ByteArray) (k : Int) : ByteArray := l ++ strOfNums [48 + k / 10, 48 + k % 10]
theorem lA (l : ByteArray) (k : Int) : (dW l k).size = l.size + 2 := by
  unfold dW
  rw [ByteArray.size_append]; rfl
theorem uK (l : ByteArray) (k : Int) (hl : l.size ≤ 100) (h0 : 0 ≤ k) (h1 : k < 100) : jD Tryz.prog G 44 [.v (.string l), .v (.int .i64 k)] [] (.v (.string (dW l k))) [] := by
  have e1 : IntKind.i64.wrap (k.tdiv 10) = k / 10 := by rw [Int.tdiv_eq_ediv_of_nonneg h0]; exact zf (by omega)
  have e2 : k.tmod 10 = k % 10 := Int.tmod_eq_emod_of_nonneg h0
  refine yi tbOk (yj Tryz.func44 (by kernel_rfl) rfl) Tryz.func44 rfl _ Tryz.ntmps44 (Nat.le_of_ble_eq_true rfl) fun X hX => ?_
  subst hX
  repeat (first | ((with_reducible refine zm ?_); refine zl rfl ?_) | ((with_reducible refine zL ?_); refine zM rfl ?_) | ((with_reducible refine zK ?_); refine yC tbOk rfl rfl rfl (by first | assumption | exact zi (by omega) | exact zf (by omega) | exact zt (by omega)) ?_) | ((with_reducible refine zA ?_); (first | refine yE rfl rfl (by omega) ?_ | refine yu rfl rfl (by first | decide | assumption | omega) ?_ | refine yw rfl rfl (by first | decide | assumption | omega) ?_)) | ((with_reducible refine zd ?_); refine zc tbOk rfl rfl rfl rfl rfl (by omega) rfl rfl rfl ?_) | refine yA ?_ | refine zS rfl ?_ | with_reducible (first | refine zY ?_ | refine zR ?_) | ((with_reducible refine zJ ?_ ?_); kernel_rfl))
  with_reducible refine zK ?_
  refine hU Tryz.underlying54 Tryz.underlying5 Tryz.underlying9 rfl rfl (by simp) ?_
  repeat (first   | refine zS rfl ?_  )
  with_reducible refine zA ?_
  refine qg rfl rfl (by rw [strOfNums_size]; simp; omega) ?_
  repeat (first | ((with_reducible refine zL ?_); refine zM rfl ?_)  | refine yA ?_ | refine zS rfl ?_ | with_reducible (first | refine zY ?_ | refine zv ?_) )
  refine jK (by first | exact .inr rfl | exact .inl rfl) rfl rfl ?_
  rw [e1, e2]
  rfl
def perD (D : Dk) : Dk := D.next.next.next.next.next
def jh (D : Dk) : Per := ⟨dW ⟨#[80]⟩ (D.next.val 12), D.next.next.val 3, D.next.next.next.val 32, D.val 2000, D.val 2000 + 1 + D.next.next.next.next.val 1500⟩
theorem iD {D : Dk} (h : DkOk D) : DkOk (perD D) := h.next.next.next.next.next
def gL (p : Per) : Prop := p.n.size ≤ 12 ∧ I64 p.c ∧ I64 p.s ∧ I64 p.f ∧ I64 p.u
theorem lB (D : Dk) : gL (jh D) := by
  have r1 := D.val_range (n := 2000) (by decide)
  have r2 := D.next.next.val_range (n := 3) (by decide)
  have r3 := D.next.next.next.val_range (n := 32) (by decide)
  have r4 := D.next.next.next.next.val_range (n := 1500) (by decide)
  have q1 := r1.2.1 (by decide)
  have q2 := r2.2.1 (by decide)
  have q3 := r3.2.1 (by decide)
  have q4 := r4.2.1 (by decide)
  unfold gL jh I64
  simp only [lA]
  exact ⟨by decide, ⟨by omega, by omega⟩, ⟨by omega, by omega⟩, ⟨by omega, by omega⟩, ⟨by omega, by omega⟩⟩
set_option maxHeartbeats 1000000 in
theorem sE (D : Dk) (hD : DkOk D) : jD Tryz.prog G 22 [.ptr (refB + 0) 0 0] [D.cells] (jh D).av [(perD D).cells] := by
  have r1 := D.val_range (n := 2000) (by decide)
  have r2 := D.next.val_range (n := 12) (by decide)
  have r4 := D.next.next.next.next.val_range (n := 1500) (by decide)
  have q1 := r1.2.1 (by decide)
  have q2 := r2.2.1 (by decide)
  have q4 := r4.2.1 (by decide)
  refine yi tbOk (yj Tryz.func22 (by kernel_rfl) rfl) Tryz.func22 rfl _ Tryz.ntmps22 (Nat.le_of_ble_eq_true rfl) fun X hX => ?_
  subst hX
  repeat (first | ((with_reducible refine zm ?_); refine zl rfl ?_) | ((with_reducible refine yZ ?_); refine ya tbOk rfl rfl ?_)  | refine yA ?_ | refine zS rfl ?_ | with_reducible (first | refine zY ?_ | refine zR ?_) | ((with_reducible refine zJ ?_ ?_); kernel_rfl))
  with_reducible refine zG ?_
  refine zD (ss := [(refB + 0, 0)]) (cX D 2000 hD (by decide) (by decide)) (by simp) (in1 rfl rfl) rfl (aD rfl) ?_
  repeat (first | ((with_reducible refine zm ?_); refine zl rfl ?_) | ((with_reducible refine zL ?_); refine zM rfl ?_)  | refine yA ?_ | refine zS rfl ?_ | with_reducible (first | refine zY ?_ | refine zR ?_) | ((with_reducible refine zJ ?_ ?_); kernel_rfl))
  with_reducible refine zG ?_
  refine zD (ss := [(refB + 0, 0)]) (cX D.next 12 hD.next (by decide) (by decide)) (by simp) (in1 rfl rfl) rfl (aD rfl) ?_
  repeat (first   | refine zS rfl ?_  )
  with_reducible refine zG ?_
  refine zC (uK ⟨#[80]⟩ (D.next.val 12) (by decide) r2.1 (by omega)) ?_
  repeat (first | ((with_reducible refine zm ?_); refine zl rfl ?_)  | refine zS rfl ?_  )
  with_reducible refine zG ?_
  refine zD (ss := [(refB + 0, 0)]) (cX D.next.next 3 hD.next.next (by decide) (by decide)) (by simp) (in1 rfl rfl) rfl (aD rfl) ?_
  repeat (first | ((with_reducible refine zm ?_); refine zl rfl ?_)  | refine zS rfl ?_  )
  with_reducible refine zG ?_
  refine zD (ss := [(refB + 0, 0)]) (cX D.next.next.next 32 hD.next.next.next (by decide) (by decide)) (by simp) (in1 rfl rfl) rfl (aD rfl) ?_
  repeat (first | ((with_reducible refine zm ?_); refine zl rfl ?_) | ((with_reducible refine zA ?_); refine yE rfl rfl (by omega) ?_)  | refine zS rfl ?_  )
  with_reducible refine zG ?_
  refine zD (ss := [(refB + 0, 0)]) (cX D.next.next.next.next 1500 hD.next.next.next.next (by decide) (by decide)) (by simp) (in1 rfl rfl) rfl (aD rfl) ?_
  repeat (first | ((with_reducible refine yQ ?_); refine yS tbOk rfl rfl rfl rfl rfl rfl rfl (Nat.le_of_ble_eq_true rfl) rfl ?_) | ((with_reducible refine yW ?_); refine yX tbOk rfl rfl rfl rfl rfl ?_) | ((with_reducible refine zA ?_); refine yE rfl rfl (by omega) ?_)  | refine yA ?_ | refine zS rfl ?_ | with_reducible (first | refine zY ?_ | refine zv ?_) )
  refine gO (by first | exact .inr rfl | exact .inl rfl) rfl rfl rfl rfl rfl rfl (by first | rfl | assumption) ?_ rfl ?_ rfl <;> rfl
end Go.Proofs.YtggagmafkdhjcaaGreatDoor
