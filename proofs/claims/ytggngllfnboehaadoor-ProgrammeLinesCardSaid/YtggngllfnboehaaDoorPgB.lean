/- programme.step, Check and their references, by the abstract machine; conditions: the table of classes stands. -/
import Derived.Test.YtggngllfnboehaaDoorPgA
set_option linter.unusedVariables false
set_option linter.unusedSimpArgs false
namespace Go.Proofs.YtggngllfnboehaaDoor
open Go Go.RowKit
set_option maxRecDepth 10000
variable {G : Nat → Option (List Value)}
theorem form_cons {k : Int} (hk : 1 ≤ k ∧ k ≤ 6) : ∃ z L, (formL k).map It.av = z :: L := by
  rcases (by omega : k = 1 ∨ k = 2 ∨ k = 3 ∨ k = 4 ∨ k = 5 ∨ k = 6) with e | e | e | e | e | e <;> subst e <;> exact ⟨_, _, rfl⟩
theorem form_len (k : Int) : (formL k).length ≤ 5 := by
  unfold formL
  repeat' split
  all_goals decide
set_option maxHeartbeats 4000000 in
theorem step_A (N : List Nd) (V : List Dv) (s : St) : ACalls Tryd.prog G 29 [nwAV N V, s.av] [] (.v (.int .i64 (stepE N.length V.length s))) [] := by
  by_cases hk : 1 ≤ s.k ∧ s.k ≤ 6
  · obtain ⟨z, L, hz⟩ := form_cons hk
    have hfl := form_len s.k
    rw [← step_eq hk]
    refine acalls_of tbOk (enter_of Tryd.func29 (by kernel_rfl) rfl) Tryd.func29 rfl _ Tryd.ntmps29 (Nat.le_of_ble_eq_true rfl) fun X hX => ?_
    subst hX
    repeat (first | ((with_reducible refine k_assign ?_); refine m_assign rfl ?_) | ((with_reducible refine k_fieldAddr ?_); refine x_fieldAddr_ptr tbOk rfl rfl rfl rfl ?_) | ((with_reducible refine k_load ?_); refine x_load_one tbOk rfl rfl rfl rfl rfl ?_) | ((with_reducible refine k_box ?_); refine m_box rfl rfl rfl ?_)  | refine e_nrm ?_ | refine x_none rfl ?_ | with_reducible refine q_then ?_ | with_reducible refine awp_seq ?_ | ((with_reducible refine w_region ?_ ?_); kernel_rfl))
    refine x_call0 (form_A s.k hk) (by repeat' (first | exact trivial | exact Ren.v _ | exact Ren.sl _ _ | exact Ren.ep _ | exact Ren.ptr _ _ _ _ rfl | exact Ren.bs _ _ _ _ _ rfl | exact Ren.nil _ | exact Ren.own _ _ _ _ ⟨_, rfl⟩ | refine ren_ag ?_ | refine ren_tu ?_ | refine ren_fn ?_ | refine ⟨?_, ?_⟩)) (by repeat' (first | exact trivial | exact RenB.v _ | exact RenB.sl _ _ | exact RenB.ep _ | exact RenB.ptr _ _ _ _ rfl | refine renb_ag ?_ | refine renb_tu ?_ | refine ⟨?_, ?_⟩)) ?_
    repeat (first | ((with_reducible refine k_move ?_); refine m_move rfl ?_) | ((with_reducible refine k_assign ?_); refine m_assign rfl ?_)  | refine e_nrm ?_ | refine x_none rfl ?_ | with_reducible refine q_then ?_ | with_reducible refine awp_seq ?_ | ((with_reducible refine w_region ?_ ?_); kernel_rfl))
    (with_reducible refine k_bin ?_)
    refine x_eql_sl_nil Tryd.underlying87 (congrArg (AV.sl 1) hz) rfl ?_
    repeat (first | ((with_reducible refine k_move ?_); refine m_move rfl ?_) | ((with_reducible refine k_load ?_); refine x_load_agg tbOk rfl rfl rfl rfl (Nat.le_of_ble_eq_true rfl) ?_)  | refine e_nrm ?_ | refine x_none rfl ?_ | with_reducible refine q_then ?_ | with_reducible refine awp_seq ?_ | with_reducible refine awp_skip ?_ | ((with_reducible refine w_region ?_ ?_); kernel_rfl) | refine w_cond_f rfl (by first | rfl | assumption) ?_)
    refine x_call0 (has_A N V s (formL s.k) (by omega)) (by repeat' (first | exact trivial | exact Ren.v _ | exact Ren.sl _ _ | exact Ren.ep _ | exact Ren.ptr _ _ _ _ rfl | exact Ren.bs _ _ _ _ _ rfl | exact Ren.nil _ | exact Ren.own _ _ _ _ ⟨_, rfl⟩ | refine ren_ag ?_ | refine ren_tu ?_ | refine ren_fn ?_ | refine ⟨?_, ?_⟩)) (by repeat' (first | exact trivial | exact RenB.v _ | exact RenB.sl _ _ | exact RenB.ep _ | exact RenB.ptr _ _ _ _ rfl | refine renb_ag ?_ | refine renb_tu ?_ | refine ⟨?_, ?_⟩)) ?_
    obtain ⟨h, hh⟩ : ∃ h, h = (formL s.k).foldl (HS.go N.length V.length) (hs0 s) := ⟨_, rfl⟩
    rw [← hh]
    repeat (first | ((with_reducible refine k_move ?_); refine m_move rfl ?_) | ((with_reducible refine k_store ?_); refine m_store tbOk rfl rfl rfl rfl rfl rfl rfl (Nat.le_of_ble_eq_true rfl) rfl ?_) | ((with_reducible refine k_alloc ?_); refine x_alloc tbOk rfl rfl ?_) | ((with_reducible refine k_extract ?_); refine x_extract rfl rfl ?_)  | refine e_nrm ?_ | refine x_none rfl ?_ | with_reducible refine q_then ?_ | with_reducible refine awp_seq ?_ | ((with_reducible refine w_region ?_ ?_); kernel_rfl))
    (with_reducible refine k_build ?_)
    refine m_build_arr tbOk Tryd.underlying103 rfl rfl rfl rfl ?_
    repeat (first | ((with_reducible refine k_move ?_); refine m_move rfl ?_)  | refine e_nrm ?_ | refine x_none rfl ?_ | with_reducible refine q_then ?_ | with_reducible refine awp_block ?_ )
    refine awp_loop (ι := Nat) (fun k => k ≤ 4 ∧ (0 < k → h.a = false) ∧ (1 < k → h.b = false) ∧ (2 < k → h.c = false) ∧ (3 < k → h.e = false)) (fun k => 4 - k) (fun v k => [(3, .ptr 3 (v 3) 0), (6, .ptr 6 (v 6) 0), (7, .ptr 7 (v 7) 0), (22, .ag [.v (.int .i64 8), .v (.int .i64 7), .v (.int .i64 10), .v (.int .i64 5)]), (23, .v (.int .i64 (k : Nat)))]) (fun v k => [(3, .box [.v (.int .i64 s.k), .v (.int .i64 s.d), .v (.int .i64 s.n), .v (.int .i64 s.p), .v (.int .i64 s.y)]), (6, .box [.v (.int .i64 h.s.k), .v (.int .i64 h.s.d), .v (.int .i64 h.s.n), .v (.int .i64 h.s.p), .v (.int .i64 h.s.y)]), (7, .box [.v (.bool h.a), .v (.bool h.b), .v (.bool h.c), .v (.bool h.e)])]) ?_ ?_
    · exact ⟨0, ⟨by omega, by omega, by omega, by omega, by omega⟩, trivial, ⟨rfl, rfl, rfl, rfl, rfl, trivial⟩, ⟨rfl, rfl, rfl, trivial⟩⟩
    rintro v k ⟨hk4, ha, hb, hc, he⟩
    rcases (by omega : k = 0 ∨ k = 1 ∨ k = 2 ∨ k = 3 ∨ k = 4) with e | e | e | e | e <;> subst e
    · repeat (first | ((with_reducible refine k_move ?_); refine m_move rfl ?_) | ((with_reducible refine k_assign ?_); refine m_assign rfl ?_) | ((with_reducible refine k_load ?_); refine x_load_one tbOk rfl rfl rfl rfl rfl ?_) | ((with_reducible refine k_bin ?_); refine m_binI rfl rfl rfl ?_)  | refine e_nrm ?_ | refine x_none rfl ?_ | with_reducible refine q_then ?_ | with_reducible refine awp_seq ?_ | with_reducible refine awp_block ?_ | with_reducible refine awp_skip ?_ | ((with_reducible refine w_region ?_ ?_); kernel_rfl) | refine w_cond_t rfl (by first | rfl | assumption) ?_ | ((with_reducible refine k_indexAddr ?_); refine x_indexAddr_arr tbOk Tryd.underlying100 rfl rfl rfl (by decide) ?_) | ((with_reducible refine k_index ?_); refine x_index_arr tbOk Tryd.underlying103 rfl rfl rfl (by decide) rfl rfl ?_))
      refine w_cond rfl (fun q => ?_) (fun q => ?_)
      · repeat (first | ((with_reducible refine k_move ?_); refine m_move rfl ?_) | ((with_reducible refine k_assign ?_); refine m_assign rfl ?_)  | refine e_nrm ?_ | refine x_none rfl ?_ | with_reducible refine q_then ?_ | with_reducible refine q_then_ret ?_ | with_reducible refine q_block_ret ?_ | with_reducible refine awp_seq ?_ | with_reducible refine awp_ret ?_ | ((with_reducible refine w_region ?_ ?_); kernel_rfl) | ((with_reducible refine k_indexAddr ?_); refine x_indexAddr_arr tbOk Tryd.underlying100 rfl rfl rfl (by decide) ?_) | ((with_reducible refine k_index ?_); refine x_index_arr tbOk Tryd.underlying103 rfl rfl rfl (by decide) rfl rfl ?_))
        refine ret_v (by first | exact .inr rfl | exact .inl rfl) rfl rfl ?_
        unfold HS.err
        rw [if_pos q]
      · repeat (first | ((with_reducible refine k_move ?_); refine m_move rfl ?_) | ((with_reducible refine k_bin ?_); refine x_add_in rfl rfl (by omega) ?_)  | refine e_nrm ?_ | refine x_none rfl ?_ | with_reducible refine q_then ?_ | with_reducible refine q_block ?_ | with_reducible refine awp_skip ?_ | ((with_reducible refine w_region ?_ ?_); kernel_rfl) | ((with_reducible refine k_indexAddr ?_); refine x_indexAddr_arr tbOk Tryd.underlying100 rfl rfl rfl (by decide) ?_) | ((with_reducible refine k_index ?_); refine x_index_arr tbOk Tryd.underlying103 rfl rfl rfl (by decide) rfl rfl ?_))
        exact ⟨1, ⟨by omega, fun _ => q, by omega, by omega, by omega⟩, by omega, ⟨rfl, rfl, rfl, rfl, rfl, trivial⟩, ⟨rfl, rfl, rfl, trivial⟩⟩
    · have ha' := ha (by omega)
      repeat (first | ((with_reducible refine k_move ?_); refine m_move rfl ?_) | ((with_reducible refine k_assign ?_); refine m_assign rfl ?_) | ((with_reducible refine k_load ?_); refine x_load_one tbOk rfl rfl rfl rfl rfl ?_) | ((with_reducible refine k_bin ?_); refine m_binI rfl rfl rfl ?_)  | refine e_nrm ?_ | refine x_none rfl ?_ | with_reducible refine q_then ?_ | with_reducible refine awp_seq ?_ | with_reducible refine awp_block ?_ | with_reducible refine awp_skip ?_ | ((with_reducible refine w_region ?_ ?_); kernel_rfl) | refine w_cond_t rfl (by first | rfl | assumption) ?_ | ((with_reducible refine k_indexAddr ?_); refine x_indexAddr_arr tbOk Tryd.underlying100 rfl rfl rfl (by decide) ?_) | ((with_reducible refine k_index ?_); refine x_index_arr tbOk Tryd.underlying103 rfl rfl rfl (by decide) rfl rfl ?_))
      refine w_cond rfl (fun q => ?_) (fun q => ?_)
      · repeat (first | ((with_reducible refine k_move ?_); refine m_move rfl ?_) | ((with_reducible refine k_assign ?_); refine m_assign rfl ?_)  | refine e_nrm ?_ | refine x_none rfl ?_ | with_reducible refine q_then ?_ | with_reducible refine q_then_ret ?_ | with_reducible refine q_block_ret ?_ | with_reducible refine awp_seq ?_ | with_reducible refine awp_ret ?_ | ((with_reducible refine w_region ?_ ?_); kernel_rfl) | ((with_reducible refine k_indexAddr ?_); refine x_indexAddr_arr tbOk Tryd.underlying100 rfl rfl rfl (by decide) ?_) | ((with_reducible refine k_index ?_); refine x_index_arr tbOk Tryd.underlying103 rfl rfl rfl (by decide) rfl rfl ?_))
        refine ret_v (by first | exact .inr rfl | exact .inl rfl) rfl rfl ?_
        unfold HS.err
        rw [if_neg (by simp [ha']), if_pos q]
      · repeat (first | ((with_reducible refine k_move ?_); refine m_move rfl ?_) | ((with_reducible refine k_bin ?_); refine x_add_in rfl rfl (by omega) ?_)  | refine e_nrm ?_ | refine x_none rfl ?_ | with_reducible refine q_then ?_ | with_reducible refine q_block ?_ | with_reducible refine awp_skip ?_ | ((with_reducible refine w_region ?_ ?_); kernel_rfl) | ((with_reducible refine k_indexAddr ?_); refine x_indexAddr_arr tbOk Tryd.underlying100 rfl rfl rfl (by decide) ?_) | ((with_reducible refine k_index ?_); refine x_index_arr tbOk Tryd.underlying103 rfl rfl rfl (by decide) rfl rfl ?_))
        exact ⟨2, ⟨by omega, fun _ => ha', fun _ => q, by omega, by omega⟩, by omega, ⟨rfl, rfl, rfl, rfl, rfl, trivial⟩, ⟨rfl, rfl, rfl, trivial⟩⟩
    · have ha' := ha (by omega)
      have hb' := hb (by omega)
      repeat (first | ((with_reducible refine k_move ?_); refine m_move rfl ?_) | ((with_reducible refine k_assign ?_); refine m_assign rfl ?_) | ((with_reducible refine k_load ?_); refine x_load_one tbOk rfl rfl rfl rfl rfl ?_) | ((with_reducible refine k_bin ?_); refine m_binI rfl rfl rfl ?_)  | refine e_nrm ?_ | refine x_none rfl ?_ | with_reducible refine q_then ?_ | with_reducible refine awp_seq ?_ | with_reducible refine awp_block ?_ | with_reducible refine awp_skip ?_ | ((with_reducible refine w_region ?_ ?_); kernel_rfl) | refine w_cond_t rfl (by first | rfl | assumption) ?_ | ((with_reducible refine k_indexAddr ?_); refine x_indexAddr_arr tbOk Tryd.underlying100 rfl rfl rfl (by decide) ?_) | ((with_reducible refine k_index ?_); refine x_index_arr tbOk Tryd.underlying103 rfl rfl rfl (by decide) rfl rfl ?_))
      refine w_cond rfl (fun q => ?_) (fun q => ?_)
      · repeat (first | ((with_reducible refine k_move ?_); refine m_move rfl ?_) | ((with_reducible refine k_assign ?_); refine m_assign rfl ?_)  | refine e_nrm ?_ | refine x_none rfl ?_ | with_reducible refine q_then ?_ | with_reducible refine q_then_ret ?_ | with_reducible refine q_block_ret ?_ | with_reducible refine awp_seq ?_ | with_reducible refine awp_ret ?_ | ((with_reducible refine w_region ?_ ?_); kernel_rfl) | ((with_reducible refine k_indexAddr ?_); refine x_indexAddr_arr tbOk Tryd.underlying100 rfl rfl rfl (by decide) ?_) | ((with_reducible refine k_index ?_); refine x_index_arr tbOk Tryd.underlying103 rfl rfl rfl (by decide) rfl rfl ?_))
        refine ret_v (by first | exact .inr rfl | exact .inl rfl) rfl rfl ?_
        unfold HS.err
        rw [if_neg (by simp [ha']), if_neg (by simp [hb']), if_pos q]
      · repeat (first | ((with_reducible refine k_move ?_); refine m_move rfl ?_) | ((with_reducible refine k_bin ?_); refine x_add_in rfl rfl (by omega) ?_)  | refine e_nrm ?_ | refine x_none rfl ?_ | with_reducible refine q_then ?_ | with_reducible refine q_block ?_ | with_reducible refine awp_skip ?_ | ((with_reducible refine w_region ?_ ?_); kernel_rfl) | ((with_reducible refine k_indexAddr ?_); refine x_indexAddr_arr tbOk Tryd.underlying100 rfl rfl rfl (by decide) ?_) | ((with_reducible refine k_index ?_); refine x_index_arr tbOk Tryd.underlying103 rfl rfl rfl (by decide) rfl rfl ?_))
        exact ⟨3, ⟨by omega, fun _ => ha', fun _ => hb', fun _ => q, by omega⟩, by omega, ⟨rfl, rfl, rfl, rfl, rfl, trivial⟩, ⟨rfl, rfl, rfl, trivial⟩⟩
    · have ha' := ha (by omega)
      have hb' := hb (by omega)
      have hc' := hc (by omega)
      repeat (first | ((with_reducible refine k_move ?_); refine m_move rfl ?_) | ((with_reducible refine k_assign ?_); refine m_assign rfl ?_) | ((with_reducible refine k_load ?_); refine x_load_one tbOk rfl rfl rfl rfl rfl ?_) | ((with_reducible refine k_bin ?_); refine m_binI rfl rfl rfl ?_)  | refine e_nrm ?_ | refine x_none rfl ?_ | with_reducible refine q_then ?_ | with_reducible refine awp_seq ?_ | with_reducible refine awp_block ?_ | with_reducible refine awp_skip ?_ | ((with_reducible refine w_region ?_ ?_); kernel_rfl) | refine w_cond_t rfl (by first | rfl | assumption) ?_ | ((with_reducible refine k_indexAddr ?_); refine x_indexAddr_arr tbOk Tryd.underlying100 rfl rfl rfl (by decide) ?_) | ((with_reducible refine k_index ?_); refine x_index_arr tbOk Tryd.underlying103 rfl rfl rfl (by decide) rfl rfl ?_))
      refine w_cond rfl (fun q => ?_) (fun q => ?_)
      · repeat (first | ((with_reducible refine k_move ?_); refine m_move rfl ?_) | ((with_reducible refine k_assign ?_); refine m_assign rfl ?_)  | refine e_nrm ?_ | refine x_none rfl ?_ | with_reducible refine q_then ?_ | with_reducible refine q_then_ret ?_ | with_reducible refine q_block_ret ?_ | with_reducible refine awp_seq ?_ | with_reducible refine awp_ret ?_ | ((with_reducible refine w_region ?_ ?_); kernel_rfl) | ((with_reducible refine k_indexAddr ?_); refine x_indexAddr_arr tbOk Tryd.underlying100 rfl rfl rfl (by decide) ?_) | ((with_reducible refine k_index ?_); refine x_index_arr tbOk Tryd.underlying103 rfl rfl rfl (by decide) rfl rfl ?_))
        refine ret_v (by first | exact .inr rfl | exact .inl rfl) rfl rfl ?_
        unfold HS.err
        rw [if_neg (by simp [ha']), if_neg (by simp [hb']), if_neg (by simp [hc']), if_pos q]
      · repeat (first | ((with_reducible refine k_move ?_); refine m_move rfl ?_) | ((with_reducible refine k_bin ?_); refine x_add_in rfl rfl (by omega) ?_)  | refine e_nrm ?_ | refine x_none rfl ?_ | with_reducible refine q_then ?_ | with_reducible refine q_block ?_ | with_reducible refine awp_skip ?_ | ((with_reducible refine w_region ?_ ?_); kernel_rfl) | ((with_reducible refine k_indexAddr ?_); refine x_indexAddr_arr tbOk Tryd.underlying100 rfl rfl rfl (by decide) ?_) | ((with_reducible refine k_index ?_); refine x_index_arr tbOk Tryd.underlying103 rfl rfl rfl (by decide) rfl rfl ?_))
        exact ⟨4, ⟨by omega, fun _ => ha', fun _ => hb', fun _ => hc', fun _ => q⟩, by omega, ⟨rfl, rfl, rfl, rfl, rfl, trivial⟩, ⟨rfl, rfl, rfl, trivial⟩⟩
    · have ha' := ha (by omega)
      have hb' := hb (by omega)
      have hc' := hc (by omega)
      have he' := he (by omega)
      repeat (first | ((with_reducible refine k_fieldAddr ?_); refine x_fieldAddr_ptr tbOk rfl rfl rfl rfl ?_) | ((with_reducible refine k_load ?_); refine x_load_one tbOk rfl rfl rfl rfl rfl ?_) | ((with_reducible refine k_load ?_); refine x_load_agg tbOk rfl rfl rfl rfl (Nat.le_of_ble_eq_true rfl) ?_) | ((with_reducible refine k_build ?_); refine m_build tbOk rfl rfl rfl rfl rfl ?_) | ((with_reducible refine k_bin ?_); refine m_binI rfl rfl rfl ?_)  | refine e_nrm ?_ | refine x_none rfl ?_ | with_reducible refine q_then ?_ | with_reducible refine q_then_exit ?_ | with_reducible refine awp_seq ?_ | with_reducible refine awp_exit ?_ | ((with_reducible refine q_block_exit ?_ ?_); rfl) | ((with_reducible refine w_region ?_ ?_); kernel_rfl) | refine w_cond_f rfl (by first | rfl | assumption) ?_ | ((with_reducible refine k_indexAddr ?_); refine x_indexAddr_arr tbOk Tryd.underlying100 rfl rfl rfl (by decide) ?_) | ((with_reducible refine k_index ?_); refine x_index_arr tbOk Tryd.underlying103 rfl rfl rfl (by decide) rfl rfl ?_))
      (with_reducible refine k_bin ?_)
      refine x_bin_ag rfl rfl (rfl : concL _ = some h.s.vals) (rfl : concL _ = some (St.vals ⟨s.k, 0, 0, 0, 0⟩)) (fun w => stNeq _ _ _ _ w) ?_
      repeat (first   | refine e_nrm ?_ | with_reducible refine q_then ?_  | ((with_reducible refine k_indexAddr ?_); refine x_indexAddr_arr tbOk Tryd.underlying100 rfl rfl rfl (by decide) ?_) | ((with_reducible refine k_index ?_); refine x_index_arr tbOk Tryd.underlying103 rfl rfl rfl (by decide) rfl rfl ?_))
      refine w_cond rfl (fun q => ?_) (fun q => ?_)
      · repeat (first | ((with_reducible refine k_assign ?_); refine m_assign rfl ?_)  | refine e_nrm ?_ | refine x_none rfl ?_ | with_reducible refine q_then ?_ | with_reducible refine q_then_ret ?_ | with_reducible refine awp_seq ?_ | with_reducible refine awp_ret ?_ | ((with_reducible refine w_region ?_ ?_); kernel_rfl) | ((with_reducible refine k_indexAddr ?_); refine x_indexAddr_arr tbOk Tryd.underlying100 rfl rfl rfl (by decide) ?_) | ((with_reducible refine k_index ?_); refine x_index_arr tbOk Tryd.underlying103 rfl rfl rfl (by decide) rfl rfl ?_))
        refine ret_v (by first | exact .inr rfl | exact .inl rfl) rfl rfl ?_
        unfold HS.err
        rw [if_neg (by simp [ha']), if_neg (by simp [hb']), if_neg (by simp [hc']), if_neg (by simp [he']), if_neg (by simpa using q)]
      · repeat (first | ((with_reducible refine k_assign ?_); refine m_assign rfl ?_)  | refine e_nrm ?_ | refine x_none rfl ?_ | with_reducible refine q_then ?_ | with_reducible refine awp_seq ?_ | with_reducible refine awp_skip ?_ | with_reducible refine awp_ret ?_ | ((with_reducible refine w_region ?_ ?_); kernel_rfl) | ((with_reducible refine k_indexAddr ?_); refine x_indexAddr_arr tbOk Tryd.underlying100 rfl rfl rfl (by decide) ?_) | ((with_reducible refine k_index ?_); refine x_index_arr tbOk Tryd.underlying103 rfl rfl rfl (by decide) rfl rfl ?_))
        refine ret_v (by first | exact .inr rfl | exact .inl rfl) rfl rfl ?_
        unfold HS.err
        rw [if_neg (by simp [ha']), if_neg (by simp [hb']), if_neg (by simp [hc']), if_neg (by simp [he']), if_pos (by simpa using q)]
  · have hk' : s.k < 1 ∨ 6 < s.k := by omega
    have e : stepE N.length V.length s = 6 := by unfold stepE; rw [if_pos hk']
    rw [e]
    refine acalls_of tbOk (enter_of Tryd.func29 (by kernel_rfl) rfl) Tryd.func29 rfl _ Tryd.ntmps29 (Nat.le_of_ble_eq_true rfl) fun X hX => ?_
    subst hX
    repeat (first | ((with_reducible refine k_assign ?_); refine m_assign rfl ?_) | ((with_reducible refine k_fieldAddr ?_); refine x_fieldAddr_ptr tbOk rfl rfl rfl rfl ?_) | ((with_reducible refine k_load ?_); refine x_load_one tbOk rfl rfl rfl rfl rfl ?_) | ((with_reducible refine k_box ?_); refine m_box rfl rfl rfl ?_)  | refine e_nrm ?_ | refine x_none rfl ?_ | with_reducible refine q_then ?_ | with_reducible refine awp_seq ?_ | ((with_reducible refine w_region ?_ ?_); kernel_rfl))
    refine x_call0 (form_nil s.k hk') (by repeat' (first | exact trivial | exact Ren.v _ | exact Ren.sl _ _ | exact Ren.ep _ | exact Ren.ptr _ _ _ _ rfl | exact Ren.bs _ _ _ _ _ rfl | exact Ren.nil _ | exact Ren.own _ _ _ _ ⟨_, rfl⟩ | refine ren_ag ?_ | refine ren_tu ?_ | refine ren_fn ?_ | refine ⟨?_, ?_⟩)) (by repeat' (first | exact trivial | exact RenB.v _ | exact RenB.sl _ _ | exact RenB.ep _ | exact RenB.ptr _ _ _ _ rfl | refine renb_ag ?_ | refine renb_tu ?_ | refine ⟨?_, ?_⟩)) ?_
    repeat (first | ((with_reducible refine k_move ?_); refine m_move rfl ?_) | ((with_reducible refine k_assign ?_); refine m_assign rfl ?_)  | refine e_nrm ?_ | refine x_none rfl ?_ | with_reducible refine q_then ?_ | with_reducible refine awp_seq ?_ | ((with_reducible refine w_region ?_ ?_); kernel_rfl))
    (with_reducible refine k_bin ?_)
    refine x_eql_nil Tryd.underlying87 rfl rfl ?_
    repeat (first | ((with_reducible refine k_assign ?_); refine m_assign rfl ?_)  | refine e_nrm ?_ | refine x_none rfl ?_ | with_reducible refine q_then ?_ | with_reducible refine q_then_ret ?_ | with_reducible refine awp_seq ?_ | with_reducible refine awp_ret ?_ | ((with_reducible refine w_region ?_ ?_); kernel_rfl) | refine w_cond_t rfl (by first | rfl | assumption) ?_)
    refine ret_v (by first | exact .inr rfl | exact .inl rfl) rfl rfl ?_
    rfl
set_option maxHeartbeats 8000000 in
theorem fault_A (N : List Nd) (V : List Dv) (s : St) : ACalls Tryd.prog G 50 [nwAV N V, s.av] [] (.v (.int .i64 (stepE N.length V.length s))) [] := by
  by_cases hk : 1 ≤ s.k ∧ s.k ≤ 6
  · obtain ⟨k, d, n, p, y⟩ := s
    simp only at hk
    rcases (by omega : k = 1 ∨ k = 2 ∨ k = 3 ∨ k = 4 ∨ k = 5 ∨ k = 6) with e | e | e | e | e | e <;> subst e
    all_goals
      refine acalls_of tbOk (enter_of Tryd.func50 (by kernel_rfl) rfl) Tryd.func50 rfl _ Tryd.ntmps50 (Nat.le_of_ble_eq_true rfl) fun X hX => ?_
      subst hX
      repeat' (first | ((with_reducible refine k_move ?_); refine m_move rfl ?_) | ((with_reducible refine k_assign ?_); refine m_assign rfl ?_) | ((with_reducible refine k_fieldAddr ?_); refine x_fieldAddr_ptr tbOk rfl rfl rfl rfl ?_) | ((with_reducible refine k_load ?_); refine x_load_one tbOk rfl rfl rfl rfl rfl ?_) | ((with_reducible refine k_box ?_); refine m_box rfl rfl rfl ?_) | ((with_reducible refine k_un ?_); refine x_not rfl ?_) | ((with_reducible refine k_pick ?_); refine m_pickt rfl (by first | rfl | assumption) rfl ?_) | ((with_reducible refine k_pick ?_); refine m_pickf rfl (by first | rfl | assumption) rfl ?_) | ((with_reducible refine k_call ?_); refine x_len tbOk rfl rfl ?_) | ((with_reducible refine k_bin ?_); refine m_binI rfl rfl rfl ?_)  | refine e_nrm ?_ | refine x_none rfl ?_ | refine x_run_t rfl rfl (by first | rfl | assumption) ?_ | refine x_skip_t rfl rfl (by first | rfl | assumption) ?_ | refine x_run_f rfl rfl (by first | rfl | assumption) ?_ | refine x_skip_f rfl rfl (by first | rfl | assumption) ?_ | refine x_skip' rfl rfl rfl ?_ | with_reducible refine q_then ?_ | with_reducible refine q_then_ret ?_ | with_reducible refine awp_seq ?_ | with_reducible refine awp_skip ?_ | with_reducible refine awp_ret ?_ | ((with_reducible refine w_region ?_ ?_); kernel_rfl) | refine w_cond_t rfl (by first | rfl | assumption) ?_ | refine w_cond_f rfl (by first | rfl | assumption) ?_ | refine x_split rfl rfl (fun _ => ?_) (fun _ => ?_) | refine w_cond rfl (fun _ => ?_) (fun _ => ?_))
    all_goals
      refine ret_v (by first | exact .inr rfl | exact .inl rfl) rfl rfl ?_
      simp only [stepE]
      simp_all
      try grind
  · have hk' : s.k < 1 ∨ 6 < s.k := by omega
    have e : stepE N.length V.length s = 6 := by unfold stepE; rw [if_pos hk']
    rw [e]
    refine acalls_of tbOk (enter_of Tryd.func50 (by kernel_rfl) rfl) Tryd.func50 rfl _ Tryd.ntmps50 (Nat.le_of_ble_eq_true rfl) fun X hX => ?_
    subst hX
    repeat (first | ((with_reducible refine k_move ?_); refine m_move rfl ?_) | ((with_reducible refine k_assign ?_); refine m_assign rfl ?_) | ((with_reducible refine k_fieldAddr ?_); refine x_fieldAddr_ptr tbOk rfl rfl rfl rfl ?_) | ((with_reducible refine k_load ?_); refine x_load_one tbOk rfl rfl rfl rfl rfl ?_) | ((with_reducible refine k_box ?_); refine m_box rfl rfl rfl ?_) | ((with_reducible refine k_bin ?_); refine m_binI rfl rfl rfl ?_)  | refine e_nrm ?_ | refine x_none rfl ?_ | with_reducible refine q_then ?_ | with_reducible refine awp_seq ?_ | ((with_reducible refine w_region ?_ ?_); kernel_rfl))
    refine x_split rfl rfl (fun b => ?_) (fun b => ?_)
    · repeat (first | ((with_reducible refine k_assign ?_); refine m_assign rfl ?_) | ((with_reducible refine k_pick ?_); refine m_pickt rfl (by first | rfl | assumption) rfl ?_)  | refine e_nrm ?_ | refine x_none rfl ?_ | refine x_skip_f rfl rfl (by first | rfl | assumption) ?_ | with_reducible refine q_then ?_ | with_reducible refine q_then_ret ?_ | with_reducible refine awp_seq ?_ | with_reducible refine awp_ret ?_ | ((with_reducible refine w_region ?_ ?_); kernel_rfl) | refine w_cond_t rfl (by first | rfl | assumption) ?_)
      refine ret_v (by first | exact .inr rfl | exact .inl rfl) rfl rfl ?_
      rfl
    · have b' : ¬ s.k < 1 := by simpa using b
      have q : decide (6 < s.k) = true := decide_eq_true (by omega)
      repeat (first | ((with_reducible refine k_assign ?_); refine m_assign rfl ?_) | ((with_reducible refine k_fieldAddr ?_); refine x_fieldAddr_ptr tbOk rfl rfl rfl rfl ?_) | ((with_reducible refine k_load ?_); refine x_load_one tbOk rfl rfl rfl rfl rfl ?_) | ((with_reducible refine k_pick ?_); refine m_pickf rfl (by first | rfl | assumption) rfl ?_) | ((with_reducible refine k_bin ?_); refine m_binI rfl rfl rfl ?_)  | refine e_nrm ?_ | refine x_none rfl ?_ | refine x_run_f rfl rfl (by first | rfl | assumption) ?_ | with_reducible refine q_then ?_ | with_reducible refine q_then_ret ?_ | with_reducible refine awp_seq ?_ | with_reducible refine awp_ret ?_ | ((with_reducible refine w_region ?_ ?_); kernel_rfl) | refine w_cond_t rfl (by first | rfl | assumption) ?_)
      refine ret_v (by first | exact .inr rfl | exact .inl rfl) rfl rfl ?_
      rfl
end Go.Proofs.YtggngllfnboehaaDoor
