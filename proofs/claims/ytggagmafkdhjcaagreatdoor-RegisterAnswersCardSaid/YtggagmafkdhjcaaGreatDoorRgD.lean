/- mk.name, mk.Person and permitofficeref05.Add, by the abstract machine; conditions: the table of classes stands. -/
import Derived.Test.YtggagmafkdhjcaaGreatDoorRgB
import Derived.Test.YtggagmafkdhjcaaGreatDoorDkA
import Derived.Laws.BytesArg
import Derived.Test.YtggagmafkdhjcaaGreatDoorAbsX
set_option linter.unusedVariables false
set_option linter.unusedSimpArgs false
namespace Go.Proofs.YtggagmafkdhjcaaGreatDoor
open Go Go.RowKit
set_option maxRecDepth 10000
variable {G : Nat → Option (List Value)}
/-- The name of a thing: a letter and two figures. -/
def mkName (l : ByteArray) (k : Int) : ByteArray := l ++ strOfNums [48 + k / 10, 48 + k % 10]
theorem mkName_size (l : ByteArray) (k : Int) : (mkName l k).size = l.size + 2 := by
  unfold mkName
  rw [ByteArray.size_append]; rfl
theorem mname_A (l : ByteArray) (k : Int) (hl : l.size ≤ 100) (h0 : 0 ≤ k) (h1 : k < 100) : ACalls Tryz.prog G 44 [.v (.string l), .v (.int .i64 k)] [] (.v (.string (mkName l k))) [] := by
  have e1 : IntKind.i64.wrap (k.tdiv 10) = k / 10 := by rw [Int.tdiv_eq_ediv_of_nonneg h0]; exact wrap_i64_in (by omega)
  have e2 : k.tmod 10 = k % 10 := Int.tmod_eq_emod_of_nonneg h0
  refine acalls_of tbOk (enter_of Tryz.func44 (by kernel_rfl) rfl) Tryz.func44 rfl _ Tryz.ntmps44 (Nat.le_of_ble_eq_true rfl) fun X hX => ?_
  subst hX
  repeat (first | ((with_reducible refine k_move ?_); refine m_move rfl ?_) | ((with_reducible refine k_assign ?_); refine m_assign rfl ?_) | ((with_reducible refine k_convert ?_); refine x_conv_in tbOk rfl rfl rfl (by first | assumption | exact wrap_u64_in (by omega) | exact wrap_i64_in (by omega) | exact wrap_u8_in (by omega)) ?_) | ((with_reducible refine k_bin ?_); (first | refine x_add_in rfl rfl (by omega) ?_ | refine x_rem rfl rfl (by first | decide | assumption | omega) ?_ | refine x_quo rfl rfl (by first | decide | assumption | omega) ?_)) | ((with_reducible refine k_buildSlice ?_); refine m_buildSlice tbOk rfl rfl rfl rfl rfl (by omega) rfl rfl rfl ?_) | refine e_nrm ?_ | refine x_none rfl ?_ | with_reducible (first | refine q_then ?_ | refine awp_seq ?_) | ((with_reducible refine w_region ?_ ?_); kernel_rfl))
  with_reducible refine k_convert ?_
  refine x_conv_bytes Tryz.underlying54 Tryz.underlying5 Tryz.underlying9 rfl rfl (by simp) ?_
  repeat (first   | refine x_none rfl ?_  )
  with_reducible refine k_bin ?_
  refine x_add_s rfl rfl (by rw [strOfNums_size]; simp; omega) ?_
  repeat (first | ((with_reducible refine k_assign ?_); refine m_assign rfl ?_)  | refine e_nrm ?_ | refine x_none rfl ?_ | with_reducible (first | refine q_then ?_ | refine awp_ret ?_) )
  refine ret_v (by first | exact .inr rfl | exact .inl rfl) rfl rfl ?_
  rw [e1, e2]
  rfl
def perD (D : Dk) : Dk := D.next.next.next.next.next
def perOf (D : Dk) : Per := ⟨mkName ⟨#[80]⟩ (D.next.val 12), D.next.next.val 3, D.next.next.next.val 32, D.val 2000, D.val 2000 + 1 + D.next.next.next.next.val 1500⟩
theorem perD_ok {D : Dk} (h : DkOk D) : DkOk (perD D) := h.next.next.next.next.next
def PerOk (p : Per) : Prop := p.n.size ≤ 12 ∧ I64 p.c ∧ I64 p.s ∧ I64 p.f ∧ I64 p.u
theorem perOf_ok (D : Dk) : PerOk (perOf D) := by
  have r1 := D.val_range (n := 2000) (by decide)
  have r2 := D.next.next.val_range (n := 3) (by decide)
  have r3 := D.next.next.next.val_range (n := 32) (by decide)
  have r4 := D.next.next.next.next.val_range (n := 1500) (by decide)
  have q1 := r1.2.1 (by decide)
  have q2 := r2.2.1 (by decide)
  have q3 := r3.2.1 (by decide)
  have q4 := r4.2.1 (by decide)
  unfold PerOk perOf I64
  simp only [mkName_size]
  exact ⟨by decide, ⟨by omega, by omega⟩, ⟨by omega, by omega⟩, ⟨by omega, by omega⟩, ⟨by omega, by omega⟩⟩
set_option maxHeartbeats 1000000 in
theorem person_A (D : Dk) (hD : DkOk D) : ACalls Tryz.prog G 22 [.ptr (refB + 0) 0 0] [D.cells] (perOf D).av [(perD D).cells] := by
  have r1 := D.val_range (n := 2000) (by decide)
  have r2 := D.next.val_range (n := 12) (by decide)
  have r4 := D.next.next.next.next.val_range (n := 1500) (by decide)
  have q1 := r1.2.1 (by decide)
  have q2 := r2.2.1 (by decide)
  have q4 := r4.2.1 (by decide)
  refine acalls_of tbOk (enter_of Tryz.func22 (by kernel_rfl) rfl) Tryz.func22 rfl _ Tryz.ntmps22 (Nat.le_of_ble_eq_true rfl) fun X hX => ?_
  subst hX
  repeat (first | ((with_reducible refine k_move ?_); refine m_move rfl ?_) | ((with_reducible refine k_alloc ?_); refine x_alloc tbOk rfl rfl ?_)  | refine e_nrm ?_ | refine x_none rfl ?_ | with_reducible (first | refine q_then ?_ | refine awp_seq ?_) | ((with_reducible refine w_region ?_ ?_); kernel_rfl))
  with_reducible refine k_call ?_
  refine zD (ss := [(refB + 0, 0)]) (next_A D 2000 hD (by decide) (by decide)) (by simp) (in1 rfl rfl) rfl (back1 rfl) ?_
  repeat (first | ((with_reducible refine k_move ?_); refine m_move rfl ?_) | ((with_reducible refine k_assign ?_); refine m_assign rfl ?_)  | refine e_nrm ?_ | refine x_none rfl ?_ | with_reducible (first | refine q_then ?_ | refine awp_seq ?_) | ((with_reducible refine w_region ?_ ?_); kernel_rfl))
  with_reducible refine k_call ?_
  refine zD (ss := [(refB + 0, 0)]) (next_A D.next 12 hD.next (by decide) (by decide)) (by simp) (in1 rfl rfl) rfl (back1 rfl) ?_
  repeat (first   | refine x_none rfl ?_  )
  with_reducible refine k_call ?_
  refine zC (mname_A ⟨#[80]⟩ (D.next.val 12) (by decide) r2.1 (by omega)) ?_
  repeat (first | ((with_reducible refine k_move ?_); refine m_move rfl ?_)  | refine x_none rfl ?_  )
  with_reducible refine k_call ?_
  refine zD (ss := [(refB + 0, 0)]) (next_A D.next.next 3 hD.next.next (by decide) (by decide)) (by simp) (in1 rfl rfl) rfl (back1 rfl) ?_
  repeat (first | ((with_reducible refine k_move ?_); refine m_move rfl ?_)  | refine x_none rfl ?_  )
  with_reducible refine k_call ?_
  refine zD (ss := [(refB + 0, 0)]) (next_A D.next.next.next 32 hD.next.next.next (by decide) (by decide)) (by simp) (in1 rfl rfl) rfl (back1 rfl) ?_
  repeat (first | ((with_reducible refine k_move ?_); refine m_move rfl ?_) | ((with_reducible refine k_bin ?_); refine x_add_in rfl rfl (by omega) ?_)  | refine x_none rfl ?_  )
  with_reducible refine k_call ?_
  refine zD (ss := [(refB + 0, 0)]) (next_A D.next.next.next.next 1500 hD.next.next.next.next (by decide) (by decide)) (by simp) (in1 rfl rfl) rfl (back1 rfl) ?_
  repeat (first | ((with_reducible refine k_store ?_); refine m_store tbOk rfl rfl rfl rfl rfl rfl rfl (Nat.le_of_ble_eq_true rfl) rfl ?_) | ((with_reducible refine k_build ?_); refine m_build tbOk rfl rfl rfl rfl rfl ?_) | ((with_reducible refine k_bin ?_); refine x_add_in rfl rfl (by omega) ?_)  | refine e_nrm ?_ | refine x_none rfl ?_ | with_reducible (first | refine q_then ?_ | refine awp_ret ?_) )
  refine ret1_cell (by first | exact .inr rfl | exact .inl rfl) rfl rfl rfl rfl rfl rfl (by first | rfl | assumption) ?_ rfl ?_ rfl <;> rfl
end Go.Proofs.YtggagmafkdhjcaaGreatDoor
