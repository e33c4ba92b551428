/- permitofficelaw02.CalendarShifts, by the abstract machine: for all arguments it answers true; conditions: the table of powers stands. -/
import Derived.Test.YtdejgacclogaiaaDoorCaL
set_option linter.unusedVariables false
set_option linter.unusedSimpArgs false
namespace Go.Proofs.YtdejgacclogaiaaDoor
open Go Go.RowKit
set_option maxRecDepth 10000
variable {G : Nat → Option (List Value)}
theorem shifts_next {y L : Int} (hL : 0 < L) : (y + L) / L = y / L + 1 := by
  have := Int.add_mul_ediv_right y 1 (show L ≠ 0 by omega)
  rw [Int.one_mul] at this
  exact this
theorem shifts_one {y L : Int} (hL : 0 < L) : (y + 1) / L = y / L ∨ ((y + 1) / L = y / L + 1 ∧ (y + 1).tmod L = 0) := by
  have h1 := Int.mul_ediv_add_emod y L
  have h2 := Int.emod_nonneg y (show L ≠ 0 by omega)
  have h3 := Int.emod_lt_of_pos y hL
  generalize y / L = q at *
  generalize y % L = r at *
  by_cases h : r + 1 < L
  · left
    have e : y + 1 = (r + 1) + q * L := by rw [Int.mul_comm]; omega
    rw [e, Int.add_mul_ediv_right _ _ (by omega), Int.ediv_eq_zero_of_lt (by omega) h]
    omega
  · right
    have e : y + 1 = L * (q + 1) := by rw [Int.mul_add]; omega
    rw [e]
    exact ⟨by rw [Int.mul_ediv_cancel_left _ (by omega)], Int.mul_tmod_right _ _⟩
theorem which_at (w : Int) (h0 : 0 ≤ w) (h1 : w < 8) : ∃ (k : Nat) (h : Int), w = k ∧ ([.v (.int .i64 1), .v (.int .i64 2), .v (.int .i64 3), .v (.int .i64 4), .v (.int .i64 6), .v (.int .i64 8), .v (.int .i64 12), .v (.int .i64 24)] : List AV)[k]? = some (.v (.int .i64 h)) ∧ goodH h = true := by
  obtain rfl | rfl | rfl | rfl | rfl | rfl | rfl | rfl : w = 0 ∨ w = 1 ∨ w = 2 ∨ w = 3 ∨ w = 4 ∨ w = 5 ∨ w = 6 ∨ w = 7 := by omega
  · exact ⟨0, 1, rfl, rfl, by decide⟩
  · exact ⟨1, 2, rfl, rfl, by decide⟩
  · exact ⟨2, 3, rfl, rfl, by decide⟩
  · exact ⟨3, 4, rfl, rfl, by decide⟩
  · exact ⟨4, 6, rfl, rfl, by decide⟩
  · exact ⟨5, 8, rfl, rfl, by decide⟩
  · exact ⟨6, 12, rfl, rfl, by decide⟩
  · exact ⟨7, 24, rfl, rfl, by decide⟩
set_option maxHeartbeats 4000000 in
theorem shifts_law (t w : Int) (hw0 : 0 ≤ w) (hG : GPow G) : ACalls Tryd.prog G 5 [.v (.int .i64 t), .v (.int .u8 w)] [] (.v (.bool true)) [] := by
  have hwm : 0 ≤ w.tmod 8 ∧ w.tmod 8 < 8 := by
    rw [Int.tmod_eq_emod_of_nonneg hw0]
    omega
  obtain ⟨k, h, hk, hx, hg⟩ := which_at (w.tmod 8) hwm.1 hwm.2
  obtain ⟨g1, g2⟩ := goodH_rng hg
  obtain ⟨r1, r2⟩ := modP_rng t (k := 16775716) (by omega)
  have hkl : k < 8 := by omega
  have hL : IntKind.i64.wrap (60 * h) = 60 * h := wrap_i64_in (by omega)
  refine acalls_of tbOk (enter_of Tryd.func5 (by kernel_rfl) rfl) Tryd.func5 rfl _ Tryd.ntmps5 (Nat.le_of_ble_eq_true rfl) fun X hX => ?_
  subst hX
  repeat (first | ((with_reducible refine k_move ?_); refine m_move rfl ?_) | ((with_reducible refine k_assign ?_); refine m_assign rfl ?_) | ((with_reducible refine k_bin ?_); refine x_rem rfl rfl (by first | decide | assumption | omega) ?_) | ((with_reducible refine k_buildSlice ?_); refine m_buildSlice tbOk rfl rfl rfl rfl rfl (by omega) rfl rfl rfl ?_) | refine e_nrm ?_ | refine x_none rfl ?_ | with_reducible refine q_then ?_ | with_reducible refine awp_seq ?_ | ((with_reducible refine w_region ?_ ?_); kernel_rfl))
  rw [hk]
  repeat (first | ((with_reducible refine k_move ?_); refine m_move rfl ?_) | ((with_reducible refine k_assign ?_); refine m_assign rfl ?_) | ((with_reducible refine k_load ?_); refine x_load_ep_one tbOk rfl rfl rfl ?_) | ((with_reducible refine k_indexAddr ?_); refine x_indexAddr_n tbOk rfl rfl rfl rfl (by assumption) ?_)  | refine e_nrm ?_ | refine x_none rfl ?_ | with_reducible refine q_then ?_ | with_reducible refine awp_seq ?_ | ((with_reducible refine w_region ?_ ?_); kernel_rfl))
  refine x_call0 (mod_A t 16775716 (by omega) (by omega)) (by repeat' (first | exact trivial | exact Ren.v _ | exact Ren.sl _ _ | exact Ren.ep _ | exact Ren.ptr _ _ _ _ rfl | exact Ren.nil _ | exact Ren.own _ _ _ _ ⟨_, rfl⟩ | refine ren_ag ?_ | refine ren_tu ?_ | refine ren_fn ?_ | refine ⟨?_, ?_⟩)) (by repeat' (first | exact trivial | exact RenB.v _ | exact RenB.sl _ _ | exact RenB.ep _ | exact RenB.ptr _ _ _ _ rfl | refine renb_ag ?_ | refine renb_tu ?_ | refine ⟨?_, ?_⟩)) ?_
  repeat (first | ((with_reducible refine k_move ?_); refine m_move rfl ?_) | ((with_reducible refine k_assign ?_); refine m_assign rfl ?_)  | refine e_nrm ?_ | refine x_none rfl ?_ | with_reducible refine q_then ?_ | with_reducible refine awp_seq ?_ | ((with_reducible refine w_region ?_ ?_); kernel_rfl))
  generalize modP t 16775716 = x at r1 r2
  have hS1 := shift_A (G := X.G) x h
  rw [shiftP_ok (timeB_iff.2 (by omega)) hg] at hS1
  have hS2 := shift_A (G := X.G) (x + 60 * h) h
  rw [shiftP_ok (timeB_iff.2 (by omega)) hg] at hS2
  have hS3 := shift_A (G := X.G) (x + 1) h
  rw [shiftP_ok (timeB_iff.2 (by omega)) hg] at hS3
  have hS4 := shift_A (G := X.G) 360 h
  rw [shiftP_ok (timeB_iff.2 (by omega)) hg, show ((360 : Int) - 360) / (60 * h) = 0 by simp] at hS4
  have e2 : (x + 60 * h - 360) / (60 * h) = (x - 360) / (60 * h) + 1 := by
    rw [show x + 60 * h - 360 = (x - 360) + 60 * h by omega]
    exact shifts_next (by omega)
  have e3 := shifts_one (y := x - 360) (L := 60 * h) (by omega)
  rw [show x - 360 + 1 = x + 1 - 360 by omega] at e3
  have b1 : -360 ≤ (x - 360) / (60 * h) := by rw [Int.le_ediv_iff_mul_le (by omega)]; omega
  have b2 : (x - 360) / (60 * h) ≤ 16777216 := by
    rcases Int.lt_or_le (x - 360) 0 with e | e
    · have := Int.ediv_neg_of_neg_of_pos e (show 0 < 60 * h by omega); omega
    · have := Int.ediv_le_self (60 * h) e; omega
  rw [e2] at hS2
  generalize (x - 360) / (60 * h) = a at hS1 hS2 e3 b1 b2
  have q1 : (a + 1 == a + 1) = true := by simp
  have hL0 : 60 * h ≠ 0 := by omega
  repeat (first | fail    )
  refine x_call0 (hS1) (by repeat' (first | exact trivial | exact Ren.v _ | exact Ren.sl _ _ | exact Ren.ep _ | exact Ren.ptr _ _ _ _ rfl | exact Ren.nil _ | exact Ren.own _ _ _ _ ⟨_, rfl⟩ | refine ren_ag ?_ | refine ren_tu ?_ | refine ren_fn ?_ | refine ⟨?_, ?_⟩)) (by repeat' (first | exact trivial | exact RenB.v _ | exact RenB.sl _ _ | exact RenB.ep _ | exact RenB.ptr _ _ _ _ rfl | refine renb_ag ?_ | refine renb_tu ?_ | refine ⟨?_, ?_⟩)) ?_
  repeat (first | ((with_reducible refine k_move ?_); refine m_move rfl ?_) | ((with_reducible refine k_assign ?_); refine m_assign rfl ?_) | ((with_reducible refine k_extract ?_); refine x_extract rfl rfl ?_) | ((with_reducible refine k_bin ?_); refine x_add_in rfl rfl (by omega) ?_) | ((with_reducible refine k_bin ?_); refine m_binI rfl rfl rfl ?_)  | refine e_nrm ?_ | refine x_none rfl ?_ | with_reducible refine q_then ?_ | with_reducible refine awp_seq ?_ | ((with_reducible refine w_region ?_ ?_); kernel_rfl))
  rw [hL]
  repeat (first | fail    )
  refine x_call0 (hS2) (by repeat' (first | exact trivial | exact Ren.v _ | exact Ren.sl _ _ | exact Ren.ep _ | exact Ren.ptr _ _ _ _ rfl | exact Ren.nil _ | exact Ren.own _ _ _ _ ⟨_, rfl⟩ | refine ren_ag ?_ | refine ren_tu ?_ | refine ren_fn ?_ | refine ⟨?_, ?_⟩)) (by repeat' (first | exact trivial | exact RenB.v _ | exact RenB.sl _ _ | exact RenB.ep _ | exact RenB.ptr _ _ _ _ rfl | refine renb_ag ?_ | refine renb_tu ?_ | refine ⟨?_, ?_⟩)) ?_
  repeat (first | ((with_reducible refine k_move ?_); refine m_move rfl ?_) | ((with_reducible refine k_assign ?_); refine m_assign rfl ?_) | ((with_reducible refine k_extract ?_); refine x_extract rfl rfl ?_) | ((with_reducible refine k_bin ?_); refine x_add_in rfl rfl (by omega) ?_)  | refine e_nrm ?_ | refine x_none rfl ?_ | with_reducible refine q_then ?_ | with_reducible refine awp_seq ?_ | ((with_reducible refine w_region ?_ ?_); kernel_rfl))
  refine x_call0 (hS3) (by repeat' (first | exact trivial | exact Ren.v _ | exact Ren.sl _ _ | exact Ren.ep _ | exact Ren.ptr _ _ _ _ rfl | exact Ren.nil _ | exact Ren.own _ _ _ _ ⟨_, rfl⟩ | refine ren_ag ?_ | refine ren_tu ?_ | refine ren_fn ?_ | refine ⟨?_, ?_⟩)) (by repeat' (first | exact trivial | exact RenB.v _ | exact RenB.sl _ _ | exact RenB.ep _ | exact RenB.ptr _ _ _ _ rfl | refine renb_ag ?_ | refine renb_tu ?_ | refine ⟨?_, ?_⟩)) ?_
  repeat (first | ((with_reducible refine k_move ?_); refine m_move rfl ?_) | ((with_reducible refine k_assign ?_); refine m_assign rfl ?_) | ((with_reducible refine k_extract ?_); refine x_extract rfl rfl ?_)  | refine e_nrm ?_ | refine x_none rfl ?_ | with_reducible refine q_then ?_ | with_reducible refine awp_seq ?_ | ((with_reducible refine w_region ?_ ?_); kernel_rfl))
  refine x_call0 (hS4) (by repeat' (first | exact trivial | exact Ren.v _ | exact Ren.sl _ _ | exact Ren.ep _ | exact Ren.ptr _ _ _ _ rfl | exact Ren.nil _ | exact Ren.own _ _ _ _ ⟨_, rfl⟩ | refine ren_ag ?_ | refine ren_tu ?_ | refine ren_fn ?_ | refine ⟨?_, ?_⟩)) (by repeat' (first | exact trivial | exact RenB.v _ | exact RenB.sl _ _ | exact RenB.ep _ | exact RenB.ptr _ _ _ _ rfl | refine renb_ag ?_ | refine renb_tu ?_ | refine ⟨?_, ?_⟩)) ?_
  repeat (first | ((with_reducible refine k_move ?_); refine m_move rfl ?_) | ((with_reducible refine k_assign ?_); refine m_assign rfl ?_) | ((with_reducible refine k_extract ?_); refine x_extract rfl rfl ?_) | ((with_reducible refine k_pick ?_); refine m_pickt rfl (by first | rfl | assumption) rfl ?_) | ((with_reducible refine k_bin ?_); refine x_add_in rfl rfl (by omega) ?_) | ((with_reducible refine k_bin ?_); refine m_binI rfl rfl rfl ?_)  | refine e_nrm ?_ | refine x_none rfl ?_ | refine x_run_t rfl rfl (by first | rfl | assumption) ?_ | with_reducible refine q_then ?_ | with_reducible refine awp_seq ?_ | ((with_reducible refine w_region ?_ ?_); kernel_rfl))
  rcases e3 with e3 | ⟨e3, e4⟩
  · rw [e3]
    have q2 : (a == a) = true := by simp
    repeat (first | ((with_reducible refine k_move ?_); refine m_move rfl ?_) | ((with_reducible refine k_pick ?_); refine m_pickt rfl (by first | rfl | assumption) rfl ?_)  | refine x_none rfl ?_ | refine x_run_t rfl rfl (by first | rfl | assumption) ?_ | refine x_skip_f rfl rfl (by first | rfl | assumption) ?_ | refine x_skip' rfl rfl rfl ?_  )
    refine x_call0 (awake_A hG) (by repeat' (first | exact trivial | exact Ren.v _ | exact Ren.sl _ _ | exact Ren.ep _ | exact Ren.ptr _ _ _ _ rfl | exact Ren.nil _ | exact Ren.own _ _ _ _ ⟨_, rfl⟩ | refine ren_ag ?_ | refine ren_tu ?_ | refine ren_fn ?_ | refine ⟨?_, ?_⟩)) (by repeat' (first | exact trivial | exact RenB.v _ | exact RenB.sl _ _ | exact RenB.ep _ | exact RenB.ptr _ _ _ _ rfl | refine renb_ag ?_ | refine renb_tu ?_ | refine ⟨?_, ?_⟩)) ?_
    repeat (first | ((with_reducible refine k_assign ?_); refine m_assign rfl ?_) | ((with_reducible refine k_pick ?_); refine m_pickt rfl (by first | rfl | assumption) rfl ?_)  | refine e_nrm ?_ | refine x_none rfl ?_ | with_reducible refine q_then ?_ | with_reducible refine awp_ret ?_ )
    refine ret_v (by first | exact .inr rfl | exact .inl rfl) rfl rfl ?_
    rfl
  · rw [e3]
    have q2 : (a + 1 == a) = false := by simp; omega
    have q3 : ((x + 1 - 360).tmod (60 * h) == 0) = true := by rw [e4]; rfl
    repeat (first | ((with_reducible refine k_move ?_); refine m_move rfl ?_) | ((with_reducible refine k_pick ?_); refine m_pickt rfl (by first | rfl | assumption) rfl ?_) | ((with_reducible refine k_pick ?_); refine m_pickf rfl (by first | rfl | assumption) rfl ?_) | ((with_reducible refine k_bin ?_); refine x_add_in rfl rfl (by omega) ?_) | ((with_reducible refine k_bin ?_); refine x_sub_in rfl rfl (by omega) ?_) | ((with_reducible refine k_bin ?_); refine m_binI rfl rfl rfl ?_) | ((with_reducible refine k_bin ?_); refine x_rem rfl rfl (by first | decide | assumption | omega) ?_)  | refine x_none rfl ?_ | refine x_run_t rfl rfl (by first | rfl | assumption) ?_ | refine x_run_f rfl rfl (by first | rfl | assumption) ?_  )
    rw [hL]
    repeat (first   | refine x_run_t rfl rfl (by first | rfl | assumption) ?_  )
    refine x_call0 (awake_A hG) (by repeat' (first | exact trivial | exact Ren.v _ | exact Ren.sl _ _ | exact Ren.ep _ | exact Ren.ptr _ _ _ _ rfl | exact Ren.nil _ | exact Ren.own _ _ _ _ ⟨_, rfl⟩ | refine ren_ag ?_ | refine ren_tu ?_ | refine ren_fn ?_ | refine ⟨?_, ?_⟩)) (by repeat' (first | exact trivial | exact RenB.v _ | exact RenB.sl _ _ | exact RenB.ep _ | exact RenB.ptr _ _ _ _ rfl | refine renb_ag ?_ | refine renb_tu ?_ | refine ⟨?_, ?_⟩)) ?_
    repeat (first | ((with_reducible refine k_assign ?_); refine m_assign rfl ?_) | ((with_reducible refine k_pick ?_); refine m_pickt rfl (by first | rfl | assumption) rfl ?_)  | refine e_nrm ?_ | refine x_none rfl ?_ | with_reducible refine q_then ?_ | with_reducible refine awp_ret ?_ )
    refine ret_v (by first | exact .inr rfl | exact .inl rfl) rfl rfl ?_
    rfl
end Go.Proofs.YtdejgacclogaiaaDoor
