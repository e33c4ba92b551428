/- calendar.Make, Split, Print and their references, by the abstract machine; conditions: the table of powers stands. -/
import Derived.Test.YtggagmafkdhjcaaGreatDoorTxB
import Derived.Test.YtggagmafkdhjcaaGreatDoorCaU
set_option linter.unusedVariables false
set_option linter.unusedSimpArgs false
namespace Go.Proofs.YtggagmafkdhjcaaGreatDoor
open Go Go.RowKit
set_option maxRecDepth 10000
variable {G : Nat → Option (List Value)}
theorem time_A (t : Int) : ACalls Tryz.prog G 74 [.v (.int .i64 t)] [] (.v (.bool (timeB t))) [] := by
  refine acalls_of tbOk (enter_of Tryz.func74 (by kernel_rfl) rfl) Tryz.func74 rfl _ Tryz.ntmps74 (Nat.le_of_ble_eq_true rfl) fun X hX => ?_
  subst hX
  repeat' (first | ((with_reducible refine k_move ?_); refine m_move rfl ?_) | ((with_reducible refine k_assign ?_); refine m_assign rfl ?_) | ((with_reducible refine k_pick ?_); (first | refine m_pickt rfl (by first | rfl | assumption) rfl ?_ | refine m_pickf rfl (by first | rfl | assumption) rfl ?_)) | ((with_reducible refine k_bin ?_); refine m_binI rfl rfl rfl ?_)  | refine e_nrm ?_ | refine x_none rfl ?_ | refine x_run_t rfl rfl (by first | rfl | assumption) ?_ | refine x_skip_t rfl rfl (by first | rfl | assumption) ?_ | with_reducible (first | refine q_then ?_ | refine awp_seq ?_ | refine awp_ret ?_) | ((with_reducible refine w_region ?_ ?_); kernel_rfl) | refine x_split rfl rfl (fun _ => ?_) (fun _ => ?_) | refine w_cond rfl (fun _ => ?_) (fun _ => ?_))
  all_goals refine ret_v (by first | exact .inr rfl | exact .inl rfl) rfl rfl ?_
  all_goals simp_all [timeB]
  all_goals omega
set_option maxHeartbeats 2000000 in
theorem make_A (d h m : Int) : ACalls Tryz.prog G 83 [.v (.int .i64 d), .v (.int .i64 h), .v (.int .i64 m)] [] (.tu [.v (.int .i64 (makeP d h m).1), .v (.int .i64 (makeP d h m).2)]) [] := by
  by_cases hr : h < 0 ∨ 23 < h ∨ m < 0 ∨ 59 < m ∨ d < 0 ∨ 11650 < d
  · rw [makeP_bad hr]
    refine acalls_of tbOk (enter_of Tryz.func83 (by kernel_rfl) rfl) Tryz.func83 rfl _ Tryz.ntmps83 (Nat.le_of_ble_eq_true rfl) fun X hX => ?_
    subst hX
    repeat' (first | ((with_reducible refine k_move ?_); refine m_move rfl ?_) | ((with_reducible refine k_assign ?_); refine m_assign rfl ?_) | ((with_reducible refine k_pick ?_); (first | refine m_pickt rfl (by first | rfl | assumption) rfl ?_ | refine m_pickf rfl (by first | rfl | assumption) rfl ?_)) | ((with_reducible refine k_bin ?_); refine m_binI rfl rfl rfl ?_)  | refine e_nrm ?_ | refine x_none rfl ?_ | refine x_run_f rfl rfl (by first | rfl | assumption) ?_ | refine x_skip_f rfl rfl (by first | rfl | assumption) ?_ | with_reducible (first | refine q_then ?_ | refine q_then_ret ?_ | refine awp_seq ?_ | refine awp_skip ?_ | refine awp_ret ?_) | ((with_reducible refine w_region ?_ ?_); kernel_rfl) | refine w_cond_t rfl (by first | rfl | assumption) ?_ | refine x_split rfl rfl (fun _ => ?_) (fun _ => ?_) | refine w_cond rfl (fun _ => ?_) (fun _ => ?_))
    all_goals first
      | (refine ret0_2 (by first | exact .inr rfl | exact .inl rfl) rfl rfl rfl ?_
         repeat' (first | exact trivial | exact Ren.v _ | refine ren_tu ?_ | refine ⟨?_, ?_⟩)
         done)
      | (exfalso
         simp at *
         omega)
  · have hk := makeP_ok (d := d) (h := h) (m := m) (by omega)
    have p1 : decide (h < 0) = false := by simp; omega
    have p2 : decide (h > 23) = false := by simp; omega
    have p3 : decide (m < 0) = false := by simp; omega
    have p4 : decide (m > 59) = false := by simp; omega
    have p5 : decide (d < 0) = false := by simp; omega
    have p6 : decide (d > 11650) = false := by simp; omega
    have w1 : IntKind.i64.wrap (d * 1440) = d * 1440 := (wrap_i64_in (by omega)).trans (by omega)
    have w2 : IntKind.i64.wrap (h * 60) = h * 60 := (wrap_i64_in (by omega)).trans (by omega)
    refine acalls_of tbOk (enter_of Tryz.func83 (by kernel_rfl) rfl) Tryz.func83 rfl _ Tryz.ntmps83 (Nat.le_of_ble_eq_true rfl) fun X hX => ?_
    subst hX
    repeat (first | ((with_reducible refine k_move ?_); refine m_move rfl ?_) | ((with_reducible refine k_assign ?_); refine m_assign rfl ?_) | ((with_reducible refine k_pick ?_); refine m_pickf rfl (by first | rfl | assumption) rfl ?_) | ((with_reducible refine k_bin ?_); (first | refine x_add_in rfl rfl (by omega) ?_ | refine m_binI rfl rfl rfl ?_))  | refine e_nrm ?_ | refine x_none rfl ?_ | refine x_run_f rfl rfl (by first | rfl | assumption) ?_ | with_reducible (first | refine q_then ?_ | refine awp_seq ?_ | refine awp_skip ?_) | ((with_reducible refine w_region ?_ ?_); kernel_rfl) | refine w_cond_f rfl (by first | rfl | assumption) ?_)
    rw [w1, w2]
    refine x_call0 (time_A (d * 1440 + h * 60 + m)) (by repeat' (first | exact trivial | exact Ren.v _ | refine ⟨?_, ?_⟩)) (by repeat' exact RenB.v _) ?_
    repeat (first | ((with_reducible refine k_un ?_); refine x_not rfl ?_)  | refine e_nrm ?_ | refine x_none rfl ?_ | with_reducible refine q_then ?_ )
    refine w_cond rfl (fun hc => ?_) (fun hc => ?_)
    · rw [if_neg (by rw [not_t hc]; decide)] at hk
      rw [hk]
      repeat (first | ((with_reducible refine k_assign ?_); refine m_assign rfl ?_)  | refine e_nrm ?_ | refine x_none rfl ?_ | with_reducible (first | refine q_then ?_ | refine q_then_ret ?_ | refine awp_seq ?_ | refine awp_ret ?_) | ((with_reducible refine w_region ?_ ?_); kernel_rfl))
      refine ret0_2 (by first | exact .inr rfl | exact .inl rfl) rfl rfl rfl ?_
      repeat' (first | exact trivial | exact Ren.v _ | refine ren_tu ?_ | refine ⟨?_, ?_⟩)
    · rw [if_pos (not_f hc)] at hk
      rw [hk]
      repeat (first | ((with_reducible refine k_move ?_); refine m_move rfl ?_) | ((with_reducible refine k_assign ?_); refine m_assign rfl ?_)  | refine e_nrm ?_ | refine x_none rfl ?_ | with_reducible (first | refine q_then ?_ | refine awp_seq ?_ | refine awp_skip ?_ | refine awp_ret ?_) | ((with_reducible refine w_region ?_ ?_); kernel_rfl))
      refine ret0_2 (by first | exact .inr rfl | exact .inl rfl) rfl rfl rfl ?_
      repeat' (first | exact trivial | exact Ren.v _ | refine ren_tu ?_ | refine ⟨?_, ?_⟩)
theorem csplit_A (t : Int) : ACalls Tryz.prog G 51 [.v (.int .i64 t)] [] (.tu [.v (.int .i64 (dayP t)), .v (.int .i64 (hourP t)), .v (.int .i64 (minP t)), .v (.bool (timeB t))]) [] := by
  refine acalls_of tbOk (enter_of Tryz.func51 (by kernel_rfl) rfl) Tryz.func51 rfl _ Tryz.ntmps51 (Nat.le_of_ble_eq_true rfl) fun X hX => ?_
  subst hX
  repeat (first | ((with_reducible refine k_move ?_); refine m_move rfl ?_) | ((with_reducible refine k_assign ?_); refine m_assign rfl ?_)  | refine e_nrm ?_ | refine x_none rfl ?_ | with_reducible (first | refine q_then ?_ | refine awp_seq ?_) | ((with_reducible refine w_region ?_ ?_); kernel_rfl))
  refine x_call0 (time_A t) (by repeat' (first | exact trivial | exact Ren.v _ | refine ⟨?_, ?_⟩)) (by repeat' exact RenB.v _) ?_
  repeat (first | ((with_reducible refine k_un ?_); refine x_not rfl ?_)  | refine e_nrm ?_ | refine x_none rfl ?_ | with_reducible refine q_then ?_ )
  unfold dayP hourP minP
  refine w_cond rfl (fun hc => ?_) (fun hc => ?_)
  · have e := not_t hc
    rw [e]
    repeat (first | ((with_reducible refine k_assign ?_); refine m_assign rfl ?_)  | refine e_nrm ?_ | refine x_none rfl ?_ | with_reducible (first | refine q_then ?_ | refine q_then_ret ?_ | refine awp_seq ?_ | refine awp_ret ?_) | ((with_reducible refine w_region ?_ ?_); kernel_rfl))
    refine ret0_4 (by first | exact .inr rfl | exact .inl rfl) rfl rfl rfl rfl rfl ?_
    repeat' (first | exact trivial | exact Ren.v _ | refine ren_tu ?_ | refine ⟨?_, ?_⟩)
  · have e := not_f hc
    have hb := timeB_iff.1 e
    have q1 : IntKind.i64.wrap (t.tdiv 1440) = t / 1440 := by rw [Int.tdiv_eq_ediv_of_nonneg hb.1]; exact wrap_i64_in (by omega)
    have q2 : t.tmod 1440 = t % 1440 := Int.tmod_eq_emod_of_nonneg hb.1
    have q3 : IntKind.i64.wrap ((t % 1440).tdiv 60) = t % 1440 / 60 := by rw [Int.tdiv_eq_ediv_of_nonneg (by omega)]; exact wrap_i64_in (by omega)
    have q4 : t.tmod 60 = t % 60 := Int.tmod_eq_emod_of_nonneg hb.1
    rw [e, if_pos rfl, if_pos rfl, if_pos rfl, ← q3, ← q2, ← q1, ← q4]
    repeat (first | ((with_reducible refine k_move ?_); refine m_move rfl ?_) | ((with_reducible refine k_assign ?_); refine m_assign rfl ?_) | ((with_reducible refine k_bin ?_); (first | refine x_rem rfl rfl (by first | decide | assumption | omega) ?_ | refine x_quo rfl rfl (by first | decide | assumption | omega) ?_))  | refine e_nrm ?_ | refine x_none rfl ?_ | with_reducible (first | refine q_then ?_ | refine awp_seq ?_ | refine awp_skip ?_ | refine awp_ret ?_) | ((with_reducible refine w_region ?_ ?_); kernel_rfl))
    refine ret0_4 (by first | exact .inr rfl | exact .inl rfl) rfl rfl rfl rfl rfl ?_
    repeat' (first | exact trivial | exact Ren.v _ | refine ren_tu ?_ | refine ⟨?_, ?_⟩)
theorem rtime_A (t : Int) : ACalls Tryz.prog G 84 [.v (.int .i64 t)] [] (.v (.bool (timeB t))) [] := by
  refine acalls_of tbOk (enter_of Tryz.func84 (by kernel_rfl) rfl) Tryz.func84 rfl _ Tryz.ntmps84 (Nat.le_of_ble_eq_true rfl) fun X hX => ?_
  subst hX
  repeat' (first | ((with_reducible refine k_move ?_); refine m_move rfl ?_) | ((with_reducible refine k_assign ?_); refine m_assign rfl ?_) | ((with_reducible refine k_pick ?_); (first | refine m_pickt rfl (by first | rfl | assumption) rfl ?_ | refine m_pickf rfl (by first | rfl | assumption) rfl ?_)) | ((with_reducible refine k_bin ?_); refine m_binI rfl rfl rfl ?_)  | refine e_nrm ?_ | refine x_none rfl ?_ | refine x_run_t rfl rfl (by first | rfl | assumption) ?_ | refine x_skip_t rfl rfl (by first | rfl | assumption) ?_ | with_reducible (first | refine q_then ?_ | refine awp_seq ?_ | refine awp_ret ?_) | ((with_reducible refine w_region ?_ ?_); kernel_rfl) | refine x_split rfl rfl (fun _ => ?_) (fun _ => ?_) | refine w_cond rfl (fun _ => ?_) (fun _ => ?_))
  all_goals refine ret_v (by first | exact .inr rfl | exact .inl rfl) rfl rfl ?_
  all_goals simp_all [timeB]
  all_goals omega
set_option maxHeartbeats 2000000 in
theorem rmake_A (d h m : Int) : ACalls Tryz.prog G 98 [.v (.int .i64 d), .v (.int .i64 h), .v (.int .i64 m)] [] (.tu [.v (.int .i64 (makeP d h m).1), .v (.int .i64 (makeP d h m).2)]) [] := by
  by_cases hr : h < 0 ∨ 23 < h ∨ m < 0 ∨ 59 < m ∨ d < 0 ∨ 16777216 < d
  · rw [makeP_big hr]
    refine acalls_of tbOk (enter_of Tryz.func98 (by kernel_rfl) rfl) Tryz.func98 rfl _ Tryz.ntmps98 (Nat.le_of_ble_eq_true rfl) fun X hX => ?_
    subst hX
    repeat' (first | ((with_reducible refine k_move ?_); refine m_move rfl ?_) | ((with_reducible refine k_assign ?_); refine m_assign rfl ?_) | ((with_reducible refine k_pick ?_); (first | refine m_pickt rfl (by first | rfl | assumption) rfl ?_ | refine m_pickf rfl (by first | rfl | assumption) rfl ?_)) | ((with_reducible refine k_bin ?_); refine m_binI rfl rfl rfl ?_)  | refine e_nrm ?_ | refine x_none rfl ?_ | refine x_run_f rfl rfl (by first | rfl | assumption) ?_ | refine x_skip_f rfl rfl (by first | rfl | assumption) ?_ | with_reducible (first | refine q_then ?_ | refine q_then_ret ?_ | refine awp_seq ?_ | refine awp_skip ?_ | refine awp_ret ?_) | ((with_reducible refine w_region ?_ ?_); kernel_rfl) | refine w_cond_t rfl (by first | rfl | assumption) ?_ | refine x_split rfl rfl (fun _ => ?_) (fun _ => ?_) | refine w_cond rfl (fun _ => ?_) (fun _ => ?_))
    all_goals first
      | (refine ret0_2 (by first | exact .inr rfl | exact .inl rfl) rfl rfl rfl ?_
         repeat' (first | exact trivial | exact Ren.v _ | refine ren_tu ?_ | refine ⟨?_, ?_⟩)
         done)
      | (exfalso
         simp at *
         omega)
  · have hk := makeP_ok (d := d) (h := h) (m := m) (by omega)
    have p1 : decide (h < 0) = false := by simp; omega
    have p2 : decide (h > 23) = false := by simp; omega
    have p3 : decide (m < 0) = false := by simp; omega
    have p4 : decide (m > 59) = false := by simp; omega
    have p5 : decide (d < 0) = false := by simp; omega
    have p6 : decide (d > 16777216) = false := by simp; omega
    have w1 : IntKind.i64.wrap (1440 * d) = d * 1440 := (wrap_i64_in (by omega)).trans (by omega)
    have w2 : IntKind.i64.wrap (60 * h) = h * 60 := (wrap_i64_in (by omega)).trans (by omega)
    refine acalls_of tbOk (enter_of Tryz.func98 (by kernel_rfl) rfl) Tryz.func98 rfl _ Tryz.ntmps98 (Nat.le_of_ble_eq_true rfl) fun X hX => ?_
    subst hX
    repeat (first | ((with_reducible refine k_move ?_); refine m_move rfl ?_) | ((with_reducible refine k_assign ?_); refine m_assign rfl ?_) | ((with_reducible refine k_pick ?_); refine m_pickf rfl (by first | rfl | assumption) rfl ?_) | ((with_reducible refine k_bin ?_); (first | refine x_add_in rfl rfl (by omega) ?_ | refine m_binI rfl rfl rfl ?_))  | refine e_nrm ?_ | refine x_none rfl ?_ | refine x_run_f rfl rfl (by first | rfl | assumption) ?_ | with_reducible (first | refine q_then ?_ | refine awp_seq ?_ | refine awp_skip ?_) | ((with_reducible refine w_region ?_ ?_); kernel_rfl) | refine w_cond_f rfl (by first | rfl | assumption) ?_)
    rw [w1, w2]
    refine x_call0 (rtime_A (d * 1440 + h * 60 + m)) (by repeat' (first | exact trivial | exact Ren.v _ | refine ⟨?_, ?_⟩)) (by repeat' exact RenB.v _) ?_
    repeat (first | ((with_reducible refine k_un ?_); refine x_not rfl ?_)  | refine e_nrm ?_ | refine x_none rfl ?_ | with_reducible refine q_then ?_ )
    refine w_cond rfl (fun hc => ?_) (fun hc => ?_)
    · rw [if_neg (by rw [not_t hc]; decide)] at hk
      rw [hk]
      repeat (first | ((with_reducible refine k_assign ?_); refine m_assign rfl ?_)  | refine e_nrm ?_ | refine x_none rfl ?_ | with_reducible (first | refine q_then ?_ | refine q_then_ret ?_ | refine awp_seq ?_ | refine awp_ret ?_) | ((with_reducible refine w_region ?_ ?_); kernel_rfl))
      refine ret0_2 (by first | exact .inr rfl | exact .inl rfl) rfl rfl rfl ?_
      repeat' (first | exact trivial | exact Ren.v _ | refine ren_tu ?_ | refine ⟨?_, ?_⟩)
    · rw [if_pos (not_f hc)] at hk
      rw [hk]
      repeat (first | ((with_reducible refine k_move ?_); refine m_move rfl ?_) | ((with_reducible refine k_assign ?_); refine m_assign rfl ?_)  | refine e_nrm ?_ | refine x_none rfl ?_ | with_reducible (first | refine q_then ?_ | refine awp_seq ?_ | refine awp_skip ?_ | refine awp_ret ?_) | ((with_reducible refine w_region ?_ ?_); kernel_rfl))
      refine ret0_2 (by first | exact .inr rfl | exact .inl rfl) rfl rfl rfl ?_
      repeat' (first | exact trivial | exact Ren.v _ | refine ren_tu ?_ | refine ⟨?_, ?_⟩)
theorem rcsplit_A (t : Int) : ACalls Tryz.prog G 61 [.v (.int .i64 t)] [] (.tu [.v (.int .i64 (dayP t)), .v (.int .i64 (hourP t)), .v (.int .i64 (minP t)), .v (.bool (timeB t))]) [] := by
  refine acalls_of tbOk (enter_of Tryz.func61 (by kernel_rfl) rfl) Tryz.func61 rfl _ Tryz.ntmps61 (Nat.le_of_ble_eq_true rfl) fun X hX => ?_
  subst hX
  repeat (first | ((with_reducible refine k_move ?_); refine m_move rfl ?_) | ((with_reducible refine k_assign ?_); refine m_assign rfl ?_)  | refine e_nrm ?_ | refine x_none rfl ?_ | with_reducible (first | refine q_then ?_ | refine awp_seq ?_) | ((with_reducible refine w_region ?_ ?_); kernel_rfl))
  refine x_call0 (rtime_A t) (by repeat' (first | exact trivial | exact Ren.v _ | refine ⟨?_, ?_⟩)) (by repeat' exact RenB.v _) ?_
  repeat (first | ((with_reducible refine k_un ?_); refine x_not rfl ?_)  | refine e_nrm ?_ | refine x_none rfl ?_ | with_reducible refine q_then ?_ )
  unfold dayP hourP minP
  refine w_cond rfl (fun hc => ?_) (fun hc => ?_)
  · have e := not_t hc
    rw [e]
    repeat (first | ((with_reducible refine k_assign ?_); refine m_assign rfl ?_)  | refine e_nrm ?_ | refine x_none rfl ?_ | with_reducible (first | refine q_then ?_ | refine q_then_ret ?_ | refine awp_seq ?_ | refine awp_ret ?_) | ((with_reducible refine w_region ?_ ?_); kernel_rfl))
    refine ret0_4 (by first | exact .inr rfl | exact .inl rfl) rfl rfl rfl rfl rfl ?_
    repeat' (first | exact trivial | exact Ren.v _ | refine ren_tu ?_ | refine ⟨?_, ?_⟩)
  · have e := not_f hc
    have hb := timeB_iff.1 e
    have q1 : IntKind.i64.wrap (t.tdiv 1440) = t / 1440 := by rw [Int.tdiv_eq_ediv_of_nonneg hb.1]; exact wrap_i64_in (by omega)
    have q2 : t.tmod 1440 = t % 1440 := Int.tmod_eq_emod_of_nonneg hb.1
    have q3 : IntKind.i64.wrap ((t % 1440).tdiv 60) = t % 1440 / 60 := by rw [Int.tdiv_eq_ediv_of_nonneg (by omega)]; exact wrap_i64_in (by omega)
    have q4 : t.tmod 60 = t % 60 := Int.tmod_eq_emod_of_nonneg hb.1
    rw [e, if_pos rfl, if_pos rfl, if_pos rfl, ← q3, ← q2, ← q1, ← q4]
    repeat (first | ((with_reducible refine k_move ?_); refine m_move rfl ?_) | ((with_reducible refine k_assign ?_); refine m_assign rfl ?_) | ((with_reducible refine k_bin ?_); (first | refine x_rem rfl rfl (by first | decide | assumption | omega) ?_ | refine x_quo rfl rfl (by first | decide | assumption | omega) ?_))  | refine e_nrm ?_ | refine x_none rfl ?_ | with_reducible (first | refine q_then ?_ | refine awp_seq ?_ | refine awp_skip ?_ | refine awp_ret ?_) | ((with_reducible refine w_region ?_ ?_); kernel_rfl))
    refine ret0_4 (by first | exact .inr rfl | exact .inl rfl) rfl rfl rfl rfl rfl ?_
    repeat' (first | exact trivial | exact Ren.v _ | refine ren_tu ?_ | refine ⟨?_, ?_⟩)
theorem txtP_size {n : Int} (h1 : -9223372036854775808 ≤ n) (h2 : n ≤ 9223372036854775807) : (txtP n).size ≤ 20 := itoa_len h1 h2
theorem two_A (n : Int) (hG : GPow G) (h1 : 0 ≤ n) (h2 : n ≤ 100) : ACalls Tryz.prog G 52 [.v (.int .i64 n)] [] (.v (.string (twoP n))) [] := by
  have hz := txtP_size (n := n) (by omega) (by omega)
  refine acalls_of tbOk (enter_of Tryz.func52 (by kernel_rfl) rfl) Tryz.func52 rfl _ Tryz.ntmps52 (Nat.le_of_ble_eq_true rfl) fun X hX => ?_
  subst hX
  repeat (first | ((with_reducible refine k_move ?_); refine m_move rfl ?_) | ((with_reducible refine k_assign ?_); refine m_assign rfl ?_)  | refine e_nrm ?_ | refine x_none rfl ?_ | with_reducible (first | refine q_then ?_ | refine awp_seq ?_) | ((with_reducible refine w_region ?_ ?_); kernel_rfl))
  refine x_call0 (text_A n hG (by omega) (by omega)) (by repeat' (first | exact trivial | exact Ren.v _ | refine ⟨?_, ?_⟩)) (by repeat' exact RenB.v _) ?_
  repeat (first | ((with_reducible refine k_move ?_); refine m_move rfl ?_) | ((with_reducible refine k_assign ?_); refine m_assign rfl ?_) | ((with_reducible refine k_bin ?_); refine m_binI rfl rfl rfl ?_)  | refine e_nrm ?_ | refine x_none rfl ?_ | with_reducible (first | refine q_then ?_ | refine awp_seq ?_) | ((with_reducible refine w_region ?_ ?_); kernel_rfl))
  unfold twoP
  refine w_cond rfl (fun hc => ?_) (fun hc => ?_)
  · rw [if_pos (by simpa using hc)]
    repeat (first | ((with_reducible refine k_move ?_); refine m_move rfl ?_)  | refine x_none rfl ?_ | with_reducible refine awp_seq ?_ | ((with_reducible refine w_region ?_ ?_); kernel_rfl))
    refine x_add_s rfl rfl (by show 1 + (txtP n).size ≤ _; omega) ?_
    repeat (first | ((with_reducible refine k_assign ?_); refine m_assign rfl ?_)  | refine e_nrm ?_ | refine x_none rfl ?_ | with_reducible (first | refine q_then ?_ | refine q_then_ret ?_ | refine awp_ret ?_) )
    refine ret_v (by first | exact .inr rfl | exact .inl rfl) rfl rfl ?_
    rfl
  · rw [if_neg (by simpa using hc)]
    repeat (first | ((with_reducible refine k_move ?_); refine m_move rfl ?_) | ((with_reducible refine k_assign ?_); refine m_assign rfl ?_)  | refine e_nrm ?_ | refine x_none rfl ?_ | with_reducible (first | refine q_then ?_ | refine awp_seq ?_ | refine awp_skip ?_ | refine awp_ret ?_) | ((with_reducible refine w_region ?_ ?_); kernel_rfl))
    refine ret_v (by first | exact .inr rfl | exact .inl rfl) rfl rfl ?_
    rfl
theorem rtwo_A (n : Int) (h1 : 0 ≤ n) (h2 : n ≤ 100) : ACalls Tryz.prog G 62 [.v (.int .i64 n)] [] (.v (.string (twoP n))) [] := by
  have hz := txtP_size (n := n) (by omega) (by omega)
  refine acalls_of tbOk (enter_of Tryz.func62 (by kernel_rfl) rfl) Tryz.func62 rfl _ Tryz.ntmps62 (Nat.le_of_ble_eq_true rfl) fun X hX => ?_
  subst hX
  repeat (first | ((with_reducible refine k_move ?_); refine m_move rfl ?_) | ((with_reducible refine k_assign ?_); refine m_assign rfl ?_) | ((with_reducible refine k_bin ?_); refine m_binI rfl rfl rfl ?_)  | refine e_nrm ?_ | refine x_none rfl ?_ | with_reducible (first | refine q_then ?_ | refine awp_seq ?_) | ((with_reducible refine w_region ?_ ?_); kernel_rfl))
  unfold twoP
  refine w_cond rfl (fun hc => ?_) (fun hc => ?_)
  · rw [if_pos (by simpa using hc)]
    repeat (first | ((with_reducible refine k_move ?_); refine m_move rfl ?_)  | refine x_none rfl ?_ | with_reducible refine awp_seq ?_ | ((with_reducible refine w_region ?_ ?_); kernel_rfl))
    refine x_call0 (rtext_A n (by omega) (by omega)) (by repeat' (first | exact trivial | exact Ren.v _ | refine ⟨?_, ?_⟩)) (by repeat' exact RenB.v _) ?_
    repeat (first   | refine x_none rfl ?_  )
    refine x_add_s rfl rfl (by show 1 + (txtP n).size ≤ _; omega) ?_
    repeat (first | ((with_reducible refine k_assign ?_); refine m_assign rfl ?_)  | refine e_nrm ?_ | refine x_none rfl ?_ | with_reducible (first | refine q_then ?_ | refine q_then_ret ?_ | refine awp_ret ?_) )
    refine ret_v (by first | exact .inr rfl | exact .inl rfl) rfl rfl ?_
    rfl
  · rw [if_neg (by simpa using hc)]
    repeat (first | ((with_reducible refine k_move ?_); refine m_move rfl ?_)  | refine x_none rfl ?_ | with_reducible (first | refine q_then ?_ | refine awp_seq ?_ | refine awp_skip ?_) | ((with_reducible refine w_region ?_ ?_); kernel_rfl))
    refine x_call0 (rtext_A n (by omega) (by omega)) (by repeat' (first | exact trivial | exact Ren.v _ | refine ⟨?_, ?_⟩)) (by repeat' exact RenB.v _) ?_
    repeat (first | ((with_reducible refine k_assign ?_); refine m_assign rfl ?_)  | refine e_nrm ?_ | refine x_none rfl ?_ | with_reducible (first | refine q_then ?_ | refine awp_ret ?_) )
    refine ret_v (by first | exact .inr rfl | exact .inl rfl) rfl rfl ?_
    rfl
theorem twoP_size {n : Int} (h1 : 0 ≤ n) (h2 : n ≤ 100) : (twoP n).size ≤ 21 := by
  have hz := txtP_size (n := n) (by omega) (by omega)
  unfold twoP
  split
  · rw [ByteArray.size_append]
    show 1 + _ ≤ _
    omega
  · omega
end Go.Proofs.YtggagmafkdhjcaaGreatDoor
