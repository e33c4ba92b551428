/- permitofficeref25: earth, Lock, by the abstract machine; conditions: none / portable.Applied, permitofficeref25 and permitofficemake.Light, by the abstract machine: the reference's functions say what the program's say; conditions: the table of classes stands. -/
import Derived.Test.YtaoegbmgombhdaaDoorPtB
import Derived.Test.YtaoegbmgombhdaaDoorNetC
import Derived.Test.YtaoegbmgombhdaaDoorPxP
set_option linter.unusedVariables false
set_option linter.unusedSimpArgs false
namespace Go.Proofs.YtaoegbmgombhdaaDoor
open Go Go.RowKit
set_option maxRecDepth 10000
variable {G : Nat → Option (List Value)}
theorem earth_R (N : List Nd) (V : List Dv) (d : Int) : ACalls Tryd.prog G 56 [netAV N V, .v (.int .i64 d)] [] (.v (.int .i64 (earthE V d))) [] := by
  refine acalls_of tbOk (enter_of Tryd.func56 (by kernel_rfl) rfl) Tryd.func56 rfl _ Tryd.ntmps56 (Nat.le_of_ble_eq_true rfl) fun X hX => ?_
  subst hX
  by_cases h0 : d < 0
  · have e : earthE V d = 8 := by unfold earthE; rw [if_pos (.inl h0)]
    have b0 : decide (d < 0) = true := by simpa using h0
    rw [e]
    repeat (first | ((with_reducible refine k_move ?_); refine m_move rfl ?_) | ((with_reducible refine k_assign ?_); refine m_assign rfl ?_) | ((with_reducible refine k_box ?_); refine m_box rfl rfl rfl ?_) | ((with_reducible refine k_pick ?_); refine m_pickt rfl (by first | rfl | assumption) rfl ?_) | ((with_reducible refine k_bin ?_); refine m_binI rfl rfl rfl ?_)  | refine e_nrm ?_ | refine x_none rfl ?_ | refine x_skip_f rfl rfl (by first | rfl | assumption) ?_ | with_reducible refine q_then ?_ | with_reducible refine q_then_ret ?_ | with_reducible refine awp_seq ?_ | with_reducible refine awp_ret ?_ | ((with_reducible refine w_region ?_ ?_); kernel_rfl) | refine w_cond_t rfl (by first | rfl | assumption) ?_)
    refine ret_v (by first | exact .inr rfl | exact .inl rfl) rfl rfl ?_
    rfl
  · have b0 : decide (d < 0) = false := by simpa using h0
    repeat (first | ((with_reducible refine k_move ?_); refine m_move rfl ?_) | ((with_reducible refine k_assign ?_); refine m_assign rfl ?_) | ((with_reducible refine k_fieldAddr ?_); refine x_fieldAddr_ptr tbOk rfl rfl rfl rfl ?_) | ((with_reducible refine k_load ?_); refine x_load_one tbOk rfl rfl rfl rfl rfl ?_) | ((with_reducible refine k_box ?_); refine m_box rfl rfl rfl ?_) | ((with_reducible refine k_pick ?_); refine m_pickf rfl (by first | rfl | assumption) rfl ?_) | ((with_reducible refine k_call ?_); refine x_len tbOk rfl rfl ?_) | ((with_reducible refine k_bin ?_); refine m_binI rfl rfl rfl ?_)  | refine e_nrm ?_ | refine x_none rfl ?_ | refine x_run_f rfl rfl (by first | rfl | assumption) ?_ | with_reducible refine q_then ?_ | with_reducible refine awp_seq ?_ | ((with_reducible refine w_region ?_ ?_); kernel_rfl))
    refine w_cond rfl (fun h => ?_) (fun h => ?_)
    · have e : earthE V d = 8 := by unfold earthE; rw [if_pos (.inr (by simpa using h))]
      rw [e]
      repeat (first | ((with_reducible refine k_assign ?_); refine m_assign rfl ?_)  | refine e_nrm ?_ | refine x_none rfl ?_ | with_reducible refine q_then ?_ | with_reducible refine q_then_ret ?_ | with_reducible refine awp_seq ?_ | with_reducible refine awp_ret ?_ | ((with_reducible refine w_region ?_ ?_); kernel_rfl))
      refine ret_v (by first | exact .inr rfl | exact .inl rfl) rfl rfl ?_
      rfl
    · have h1 : d < V.length := by simpa using h
      obtain ⟨x, hx⟩ := some_at (L := V) (k := d.toNat) (by omega)
      have hy := dv_at hx
      have e : earthE V d = if x.k ≠ 4 then 6 else 0 := by unfold earthE; rw [if_neg (by omega), hx]
      rw [e]
      repeat (first | ((with_reducible refine k_move ?_); refine m_move rfl ?_) | ((with_reducible refine k_fieldAddr ?_); refine x_fieldAddr_ptr tbOk rfl rfl rfl rfl ?_) | ((with_reducible refine k_fieldAddr ?_); refine x_fieldAddr_ep tbOk rfl rfl rfl rfl ?_) | ((with_reducible refine k_load ?_); refine x_load_one tbOk rfl rfl rfl rfl rfl ?_) | ((with_reducible refine k_load ?_); refine x_load_ep_one tbOk rfl rfl rfl ?_) | ((with_reducible refine k_indexAddr ?_); refine x_indexAddr tbOk rfl rfl rfl rfl (by omega) (by assumption) ?_) | ((with_reducible refine k_bin ?_); refine m_binI rfl rfl rfl ?_)  | refine e_nrm ?_ | refine x_none rfl ?_ | with_reducible refine q_then ?_ | with_reducible refine awp_seq ?_ | with_reducible refine awp_skip ?_ | ((with_reducible refine w_region ?_ ?_); kernel_rfl))
      refine w_cond rfl (fun h => ?_) (fun h => ?_)
      · rw [if_pos (by simpa using h)]
        repeat (first | ((with_reducible refine k_assign ?_); refine m_assign rfl ?_)  | refine e_nrm ?_ | refine x_none rfl ?_ | with_reducible refine q_then ?_ | with_reducible refine q_then_ret ?_ | with_reducible refine awp_seq ?_ | with_reducible refine awp_ret ?_ | ((with_reducible refine w_region ?_ ?_); kernel_rfl))
        refine ret_v (by first | exact .inr rfl | exact .inl rfl) rfl rfl ?_
        rfl
      · rw [if_neg (by simpa using h)]
        repeat (first | ((with_reducible refine k_assign ?_); refine m_assign rfl ?_)  | refine e_nrm ?_ | refine x_none rfl ?_ | with_reducible refine q_then ?_ | with_reducible refine awp_seq ?_ | with_reducible refine awp_skip ?_ | with_reducible refine awp_ret ?_ | ((with_reducible refine w_region ?_ ?_); kernel_rfl))
        refine ret_v (by first | exact .inr rfl | exact .inl rfl) rfl rfl ?_
        rfl
theorem lock_R (N : List Nd) (V : List Dv) (m d : Int) (hN : ∀ x ∈ N, x.n.size ≤ maxLen) (hV : ∀ x ∈ V, x.n.size ≤ maxLen) (h1 : N.length ≤ maxLen) (h2 : V.length ≤ maxLen) :
    ACalls Tryd.prog G 32 [netAV N V, .v (.int .i64 m), .v (.int .i64 d)] [] (.tu [(lockP N V m d).1.av, .v (.int .i64 (lockP N V m d).2)]) [] := by
  refine acalls_of tbOk (enter_of Tryd.func32 (by kernel_rfl) rfl) Tryd.func32 rfl _ Tryd.ntmps32 (Nat.le_of_ble_eq_true rfl) fun X hX => ?_
  subst hX
  unfold lockP
  repeat (first | ((with_reducible refine k_assign ?_); refine m_assign rfl ?_) | ((with_reducible refine k_load ?_); refine x_load_agg tbOk rfl rfl rfl rfl (Nat.le_of_ble_eq_true rfl) ?_) | ((with_reducible refine k_alloc ?_); refine x_alloc tbOk rfl rfl ?_) | ((with_reducible refine k_box ?_); refine m_box rfl rfl rfl ?_)  | refine e_nrm ?_ | refine x_none rfl ?_ | with_reducible refine q_then ?_ | with_reducible refine awp_seq ?_ | ((with_reducible refine w_region ?_ ?_); kernel_rfl))
  refine x_call0 (rnet_A N V hN hV h1 h2) (by repeat' (first | exact trivial | exact Ren.v _ | exact Ren.sl _ _ | exact Ren.ep _ | exact Ren.ptr _ _ _ _ rfl | exact Ren.nil _ | exact Ren.own _ _ _ _ ⟨_, rfl⟩ | refine ren_ag ?_ | refine ren_tu ?_ | refine ren_fn ?_ | refine ⟨?_, ?_⟩)) (by repeat' (first | exact trivial | exact RenB.v _ | exact RenB.sl _ _ | exact RenB.ep _ | exact RenB.ptr _ _ _ _ rfl | refine renb_ag ?_ | refine renb_tu ?_ | refine ⟨?_, ?_⟩)) ?_
  repeat (first | ((with_reducible refine k_move ?_); refine m_move rfl ?_) | ((with_reducible refine k_assign ?_); refine m_assign rfl ?_) | ((with_reducible refine k_bin ?_); refine m_binI rfl rfl rfl ?_)  | refine e_nrm ?_ | refine x_none rfl ?_ | with_reducible refine q_then ?_ | with_reducible refine awp_seq ?_ | ((with_reducible refine w_region ?_ ?_); kernel_rfl))
  refine w_cond rfl (fun h => ?_) (fun h => ?_)
  · rw [if_pos (by simpa using h)]
    repeat (first | ((with_reducible refine k_move ?_); refine m_move rfl ?_) | ((with_reducible refine k_assign ?_); refine m_assign rfl ?_) | ((with_reducible refine k_store ?_); refine m_store tbOk rfl rfl rfl rfl rfl rfl rfl (Nat.le_of_ble_eq_true rfl) rfl ?_) | ((with_reducible refine k_build ?_); refine m_build tbOk rfl rfl rfl rfl rfl ?_)  | refine e_nrm ?_ | refine x_none rfl ?_ | with_reducible refine q_then ?_ | with_reducible refine q_then_ret ?_ | with_reducible refine awp_seq ?_ | with_reducible refine awp_ret ?_ | ((with_reducible refine w_region ?_ ?_); kernel_rfl))
    refine ret0_ct (by first | exact .inr rfl | exact .inl rfl) rfl rfl rfl rfl rfl rfl ?_
    repeat' (first | exact trivial | exact Ren.v _ | exact Ren.sl _ _ | exact Ren.ep _ | exact Ren.ptr _ _ _ _ rfl | exact Ren.nil _ | exact Ren.own _ _ _ _ ⟨_, rfl⟩ | refine ren_ag ?_ | refine ren_tu ?_ | refine ren_fn ?_ | refine ⟨?_, ?_⟩)
  · rw [if_neg (by simpa using h)]
    repeat (first | ((with_reducible refine k_move ?_); refine m_move rfl ?_) | ((with_reducible refine k_load ?_); refine x_load_agg tbOk rfl rfl rfl rfl (Nat.le_of_ble_eq_true rfl) ?_)  | refine x_none rfl ?_ | with_reducible refine q_then ?_ | with_reducible refine awp_seq ?_ | with_reducible refine awp_skip ?_ | ((with_reducible refine w_region ?_ ?_); kernel_rfl))
    refine x_call0 (earth_R N V d) (by repeat' (first | exact trivial | exact Ren.v _ | exact Ren.sl _ _ | exact Ren.ep _ | exact Ren.ptr _ _ _ _ rfl | exact Ren.nil _ | exact Ren.own _ _ _ _ ⟨_, rfl⟩ | refine ren_ag ?_ | refine ren_tu ?_ | refine ren_fn ?_ | refine ⟨?_, ?_⟩)) (by repeat' (first | exact trivial | exact RenB.v _ | exact RenB.sl _ _ | exact RenB.ep _ | exact RenB.ptr _ _ _ _ rfl | refine renb_ag ?_ | refine renb_tu ?_ | refine ⟨?_, ?_⟩)) ?_
    repeat (first | ((with_reducible refine k_move ?_); refine m_move rfl ?_) | ((with_reducible refine k_assign ?_); refine m_assign rfl ?_) | ((with_reducible refine k_bin ?_); refine m_binI rfl rfl rfl ?_)  | refine e_nrm ?_ | refine x_none rfl ?_ | with_reducible refine q_then ?_ | with_reducible refine awp_seq ?_ | ((with_reducible refine w_region ?_ ?_); kernel_rfl))
    refine w_cond rfl (fun h => ?_) (fun h => ?_)
    · rw [if_pos (by simpa using h)]
      repeat (first | ((with_reducible refine k_move ?_); refine m_move rfl ?_) | ((with_reducible refine k_assign ?_); refine m_assign rfl ?_) | ((with_reducible refine k_store ?_); refine m_store tbOk rfl rfl rfl rfl rfl rfl rfl (Nat.le_of_ble_eq_true rfl) rfl ?_) | ((with_reducible refine k_build ?_); refine m_build tbOk rfl rfl rfl rfl rfl ?_)  | refine e_nrm ?_ | refine x_none rfl ?_ | with_reducible refine q_then ?_ | with_reducible refine q_then_ret ?_ | with_reducible refine awp_seq ?_ | with_reducible refine awp_ret ?_ | ((with_reducible refine w_region ?_ ?_); kernel_rfl))
      refine ret0_ct (by first | exact .inr rfl | exact .inl rfl) rfl rfl rfl rfl rfl rfl ?_
      repeat' (first | exact trivial | exact Ren.v _ | exact Ren.sl _ _ | exact Ren.ep _ | exact Ren.ptr _ _ _ _ rfl | exact Ren.nil _ | exact Ren.own _ _ _ _ ⟨_, rfl⟩ | refine ren_ag ?_ | refine ren_tu ?_ | refine ren_fn ?_ | refine ⟨?_, ?_⟩)
    · rw [if_neg (by simpa using h)]
      by_cases h0 : m < 0
      · have b0 : decide (m < 0) = true := by simpa using h0
        rw [if_pos (.inl h0)]
        repeat (first | ((with_reducible refine k_move ?_); refine m_move rfl ?_) | ((with_reducible refine k_assign ?_); refine m_assign rfl ?_) | ((with_reducible refine k_store ?_); refine m_store tbOk rfl rfl rfl rfl rfl rfl rfl (Nat.le_of_ble_eq_true rfl) rfl ?_) | ((with_reducible refine k_pick ?_); refine m_pickt rfl (by first | rfl | assumption) rfl ?_) | ((with_reducible refine k_build ?_); refine m_build tbOk rfl rfl rfl rfl rfl ?_) | ((with_reducible refine k_bin ?_); refine m_binI rfl rfl rfl ?_)  | refine e_nrm ?_ | refine x_none rfl ?_ | refine x_skip_f rfl rfl (by first | rfl | assumption) ?_ | with_reducible refine q_then ?_ | with_reducible refine q_then_ret ?_ | with_reducible refine awp_seq ?_ | with_reducible refine awp_skip ?_ | with_reducible refine awp_ret ?_ | ((with_reducible refine w_region ?_ ?_); kernel_rfl) | refine w_cond_t rfl (by first | rfl | assumption) ?_)
        refine ret0_ct (by first | exact .inr rfl | exact .inl rfl) rfl rfl rfl rfl rfl rfl ?_
        repeat' (first | exact trivial | exact Ren.v _ | exact Ren.sl _ _ | exact Ren.ep _ | exact Ren.ptr _ _ _ _ rfl | exact Ren.nil _ | exact Ren.own _ _ _ _ ⟨_, rfl⟩ | refine ren_ag ?_ | refine ren_tu ?_ | refine ren_fn ?_ | refine ⟨?_, ?_⟩)
      · have b0 : decide (m < 0) = false := by simpa using h0
        repeat (first | ((with_reducible refine k_move ?_); refine m_move rfl ?_) | ((with_reducible refine k_pick ?_); refine m_pickf rfl (by first | rfl | assumption) rfl ?_) | ((with_reducible refine k_bin ?_); refine m_binI rfl rfl rfl ?_)  | refine e_nrm ?_ | refine x_none rfl ?_ | refine x_run_f rfl rfl (by first | rfl | assumption) ?_ | with_reducible refine q_then ?_ | with_reducible refine awp_seq ?_ | with_reducible refine awp_skip ?_ | ((with_reducible refine w_region ?_ ?_); kernel_rfl))
        refine w_cond rfl (fun h => ?_) (fun h => ?_)
        · rw [if_pos (.inr (by simpa using h))]
          repeat (first | ((with_reducible refine k_assign ?_); refine m_assign rfl ?_) | ((with_reducible refine k_store ?_); refine m_store tbOk rfl rfl rfl rfl rfl rfl rfl (Nat.le_of_ble_eq_true rfl) rfl ?_) | ((with_reducible refine k_build ?_); refine m_build tbOk rfl rfl rfl rfl rfl ?_)  | refine e_nrm ?_ | refine x_none rfl ?_ | with_reducible refine q_then ?_ | with_reducible refine q_then_ret ?_ | with_reducible refine awp_seq ?_ | with_reducible refine awp_ret ?_ | ((with_reducible refine w_region ?_ ?_); kernel_rfl))
          refine ret0_ct (by first | exact .inr rfl | exact .inl rfl) rfl rfl rfl rfl rfl rfl ?_
          repeat' (first | exact trivial | exact Ren.v _ | exact Ren.sl _ _ | exact Ren.ep _ | exact Ren.ptr _ _ _ _ rfl | exact Ren.nil _ | exact Ren.own _ _ _ _ ⟨_, rfl⟩ | refine ren_ag ?_ | refine ren_tu ?_ | refine ren_fn ?_ | refine ⟨?_, ?_⟩)
        · have h' : m ≤ 65536 := by simpa using h
          rw [if_neg (by omega)]
          repeat (first | ((with_reducible refine k_move ?_); refine m_move rfl ?_) | ((with_reducible refine k_assign ?_); refine m_assign rfl ?_) | ((with_reducible refine k_store ?_); refine m_store tbOk rfl rfl rfl rfl rfl rfl rfl (Nat.le_of_ble_eq_true rfl) rfl ?_) | ((with_reducible refine k_build ?_); refine m_build tbOk rfl rfl rfl rfl rfl ?_)  | refine e_nrm ?_ | refine x_none rfl ?_ | with_reducible refine q_then ?_ | with_reducible refine awp_seq ?_ | with_reducible refine awp_skip ?_ | with_reducible refine awp_ret ?_ | ((with_reducible refine w_region ?_ ?_); kernel_rfl))
          refine ret0_ct (by first | exact .inr rfl | exact .inl rfl) rfl rfl rfl rfl rfl rfl ?_
          repeat' (first | exact trivial | exact Ren.v _ | exact Ren.sl _ _ | exact Ren.ep _ | exact Ren.ptr _ _ _ _ rfl | exact Ren.nil _ | exact Ren.own _ _ _ _ ⟨_, rfl⟩ | refine ren_ag ?_ | refine ren_tu ?_ | refine ren_fn ?_ | refine ⟨?_, ?_⟩)
theorem light_A (N : List Nd) (V : List Dv) (hN : ∀ x ∈ N, x.n.size ≤ maxLen) (hV : ∀ x ∈ V, x.n.size ≤ maxLen) (h1 : N.length ≤ maxLen) (h2 : V.length ≤ maxLen) :
    ACalls Tryd.prog G 27 [netAV N V] [] (.v (.bool (lightB N V))) [] := by
  have hml : (N.map Nd.av).length = N.length := by simp
  have hsl : (V.map Dv.av).length = V.length := by simp
  refine acalls_of tbOk (enter_of Tryd.func27 (by kernel_rfl) rfl) Tryd.func27 rfl _ Tryd.ntmps27 (Nat.le_of_ble_eq_true rfl) fun X hX => ?_
  subst hX
  repeat' (first | ((with_reducible refine k_move ?_); refine m_move rfl ?_) | ((with_reducible refine k_assign ?_); refine m_assign rfl ?_) | ((with_reducible refine k_fieldAddr ?_); refine x_fieldAddr_ptr tbOk rfl rfl rfl rfl ?_) | ((with_reducible refine k_load ?_); refine x_load_one tbOk rfl rfl rfl rfl rfl ?_) | ((with_reducible refine k_load ?_); refine x_load_agg tbOk rfl rfl rfl rfl (Nat.le_of_ble_eq_true rfl) ?_) | ((with_reducible refine k_box ?_); refine m_box rfl rfl rfl ?_) | ((with_reducible refine k_pick ?_); refine m_pickt rfl (by first | rfl | assumption) rfl ?_) | ((with_reducible refine k_pick ?_); refine m_pickf rfl (by first | rfl | assumption) rfl ?_) | ((with_reducible refine k_call ?_); refine x_len tbOk rfl rfl ?_) | ((with_reducible refine k_bin ?_); refine m_binI rfl rfl rfl ?_)  | refine e_nrm ?_ | refine x_none rfl ?_ | refine x_run_t rfl rfl (by first | rfl | assumption) ?_ | refine x_skip_t rfl rfl (by first | rfl | assumption) ?_ | refine x_run_f rfl rfl (by first | rfl | assumption) ?_ | refine x_skip_f rfl rfl (by first | rfl | assumption) ?_ | refine x_skip' rfl rfl rfl ?_ | with_reducible refine q_then ?_ | with_reducible refine awp_seq ?_ | with_reducible refine awp_ret ?_ | ((with_reducible refine w_region ?_ ?_); kernel_rfl) | refine x_split rfl rfl (fun _ => ?_) (fun _ => ?_) | refine w_cond rfl (fun _ => ?_) (fun _ => ?_))
  all_goals first
    | (fail_if_success with_reducible refine k_call ?_
       skip)
    | (refine x_call0 (rnet_A N V hN hV h1 h2) (by repeat' (first | exact trivial | exact Ren.v _ | exact Ren.sl _ _ | exact Ren.ep _ | exact Ren.ptr _ _ _ _ rfl | exact Ren.nil _ | exact Ren.own _ _ _ _ ⟨_, rfl⟩ | refine ren_ag ?_ | refine ren_tu ?_ | refine ren_fn ?_ | refine ⟨?_, ?_⟩)) (by repeat' (first | exact trivial | exact RenB.v _ | exact RenB.sl _ _ | exact RenB.ep _ | exact RenB.ptr _ _ _ _ rfl | refine renb_ag ?_ | refine renb_tu ?_ | refine ⟨?_, ?_⟩)) ?_
       skip)
  all_goals repeat' (first | ((with_reducible refine k_move ?_); refine m_move rfl ?_) | ((with_reducible refine k_assign ?_); refine m_assign rfl ?_) | ((with_reducible refine k_fieldAddr ?_); refine x_fieldAddr_ptr tbOk rfl rfl rfl rfl ?_) | ((with_reducible refine k_load ?_); refine x_load_one tbOk rfl rfl rfl rfl rfl ?_) | ((with_reducible refine k_pick ?_); refine m_pickt rfl (by first | rfl | assumption) rfl ?_) | ((with_reducible refine k_pick ?_); refine m_pickf rfl (by first | rfl | assumption) rfl ?_) | ((with_reducible refine k_call ?_); refine x_len tbOk rfl rfl ?_) | ((with_reducible refine k_bin ?_); refine m_binI rfl rfl rfl ?_)  | refine e_nrm ?_ | refine x_none rfl ?_ | refine x_run_t rfl rfl (by first | rfl | assumption) ?_ | refine x_skip_t rfl rfl (by first | rfl | assumption) ?_ | refine x_run_f rfl rfl (by first | rfl | assumption) ?_ | with_reducible refine q_then ?_ | with_reducible refine awp_ret ?_  | refine x_split rfl rfl (fun _ => ?_) (fun _ => ?_) | refine w_cond rfl (fun _ => ?_) (fun _ => ?_))
  all_goals refine ret_v (by first | exact .inr rfl | exact .inl rfl) rfl rfl ?_
  all_goals refine congrArg (fun b => AV.v (.bool b)) ?_
  all_goals (by_cases q1 : N.length ≤ 40 <;> by_cases q2 : V.length ≤ 14 <;> by_cases q3 : netE N V = 0 <;> by_cases q4 : N.length ≤ 100 <;> by_cases q5 : V.length ≤ 200 <;> simp_all [lightB] <;> first | omega | (rw [Bool.eq_iff_iff]; simp; omega))
theorem start_R (N : List Nd) (V : List Dv) (L : List Rw) (d : Int) (hN : ∀ x ∈ N, x.n.size ≤ maxLen) (hV : ∀ x ∈ V, x.n.size ≤ maxLen) (h1 : N.length ≤ maxLen) (h2 : V.length ≤ maxLen) (hs : ∀ r ∈ L, r.h.n.size ≤ maxLen) (hm : L.length ≤ maxLen) :
    ACalls Tryd.prog G 53 [netAV N V, .sl 4 (L.map Rw.av), .v (.int .i64 d)] [] (.v (.int .i64 (startP N V L d))) [] := by
  refine acalls_of tbOk (enter_of Tryd.func53 (by kernel_rfl) rfl) Tryd.func53 rfl _ Tryd.ntmps53 (Nat.le_of_ble_eq_true rfl) fun X hX => ?_
  subst hX
  unfold startP
  repeat (first | ((with_reducible refine k_assign ?_); refine m_assign rfl ?_) | ((with_reducible refine k_load ?_); refine x_load_agg tbOk rfl rfl rfl rfl (Nat.le_of_ble_eq_true rfl) ?_) | ((with_reducible refine k_box ?_); refine m_box rfl rfl rfl ?_)  | refine e_nrm ?_ | refine x_none rfl ?_ | with_reducible refine q_then ?_ | with_reducible refine awp_seq ?_ | ((with_reducible refine w_region ?_ ?_); kernel_rfl))
  refine x_call0 (rnet_A N V hN hV h1 h2) (by repeat' (first | exact trivial | exact Ren.v _ | exact Ren.sl _ _ | exact Ren.ep _ | exact Ren.ptr _ _ _ _ rfl | exact Ren.nil _ | exact Ren.own _ _ _ _ ⟨_, rfl⟩ | refine ren_ag ?_ | refine ren_tu ?_ | refine ren_fn ?_ | refine ⟨?_, ?_⟩)) (by repeat' (first | exact trivial | exact RenB.v _ | exact RenB.sl _ _ | exact RenB.ep _ | exact RenB.ptr _ _ _ _ rfl | refine renb_ag ?_ | refine renb_tu ?_ | refine ⟨?_, ?_⟩)) ?_
  repeat (first | ((with_reducible refine k_move ?_); refine m_move rfl ?_) | ((with_reducible refine k_assign ?_); refine m_assign rfl ?_) | ((with_reducible refine k_bin ?_); refine m_binI rfl rfl rfl ?_)  | refine e_nrm ?_ | refine x_none rfl ?_ | with_reducible refine q_then ?_ | with_reducible refine awp_seq ?_ | ((with_reducible refine w_region ?_ ?_); kernel_rfl))
  refine w_cond rfl (fun h => ?_) (fun h => ?_)
  · rw [if_pos (by simpa using h)]
    repeat (first | ((with_reducible refine k_move ?_); refine m_move rfl ?_) | ((with_reducible refine k_assign ?_); refine m_assign rfl ?_)  | refine e_nrm ?_ | refine x_none rfl ?_ | with_reducible refine q_then ?_ | with_reducible refine q_then_ret ?_ | with_reducible refine awp_seq ?_ | with_reducible refine awp_ret ?_ | ((with_reducible refine w_region ?_ ?_); kernel_rfl))
    refine ret_v (by first | exact .inr rfl | exact .inl rfl) rfl rfl ?_
    rfl
  · rw [if_neg (by simpa using h)]
    repeat (first | ((with_reducible refine k_move ?_); refine m_move rfl ?_)  | refine x_none rfl ?_ | with_reducible refine q_then ?_ | with_reducible refine awp_seq ?_ | with_reducible refine awp_skip ?_ | ((with_reducible refine w_region ?_ ?_); kernel_rfl))
    refine x_call0 (rcheck_A L hs hm) (by repeat' (first | exact trivial | exact Ren.v _ | exact Ren.sl _ _ | exact Ren.ep _ | exact Ren.ptr _ _ _ _ rfl | exact Ren.nil _ | exact Ren.own _ _ _ _ ⟨_, rfl⟩ | refine ren_ag ?_ | refine ren_tu ?_ | refine ren_fn ?_ | refine ⟨?_, ?_⟩)) (by repeat' (first | exact trivial | exact RenB.v _ | exact RenB.sl _ _ | exact RenB.ep _ | exact RenB.ptr _ _ _ _ rfl | refine renb_ag ?_ | refine renb_tu ?_ | refine ⟨?_, ?_⟩)) ?_
    repeat (first | ((with_reducible refine k_move ?_); refine m_move rfl ?_) | ((with_reducible refine k_assign ?_); refine m_assign rfl ?_) | ((with_reducible refine k_bin ?_); refine m_binI rfl rfl rfl ?_)  | refine e_nrm ?_ | refine x_none rfl ?_ | with_reducible refine q_then ?_ | with_reducible refine awp_seq ?_ | ((with_reducible refine w_region ?_ ?_); kernel_rfl))
    refine w_cond rfl (fun h => ?_) (fun h => ?_)
    · rw [if_pos (by simpa using h)]
      repeat (first | ((with_reducible refine k_move ?_); refine m_move rfl ?_) | ((with_reducible refine k_assign ?_); refine m_assign rfl ?_)  | refine e_nrm ?_ | refine x_none rfl ?_ | with_reducible refine q_then ?_ | with_reducible refine q_then_ret ?_ | with_reducible refine awp_seq ?_ | with_reducible refine awp_ret ?_ | ((with_reducible refine w_region ?_ ?_); kernel_rfl))
      refine ret_v (by first | exact .inr rfl | exact .inl rfl) rfl rfl ?_
      rfl
    · rw [if_neg (by simpa using h)]
      repeat (first | ((with_reducible refine k_move ?_); refine m_move rfl ?_) | ((with_reducible refine k_load ?_); refine x_load_agg tbOk rfl rfl rfl rfl (Nat.le_of_ble_eq_true rfl) ?_)  | refine x_none rfl ?_ | with_reducible refine q_then ?_ | with_reducible refine awp_seq ?_ | with_reducible refine awp_skip ?_ | ((with_reducible refine w_region ?_ ?_); kernel_rfl))
      refine x_call0 (earth_R N V d) (by repeat' (first | exact trivial | exact Ren.v _ | exact Ren.sl _ _ | exact Ren.ep _ | exact Ren.ptr _ _ _ _ rfl | exact Ren.nil _ | exact Ren.own _ _ _ _ ⟨_, rfl⟩ | refine ren_ag ?_ | refine ren_tu ?_ | refine ren_fn ?_ | refine ⟨?_, ?_⟩)) (by repeat' (first | exact trivial | exact RenB.v _ | exact RenB.sl _ _ | exact RenB.ep _ | exact RenB.ptr _ _ _ _ rfl | refine renb_ag ?_ | refine renb_tu ?_ | refine ⟨?_, ?_⟩)) ?_
      repeat (first | ((with_reducible refine k_assign ?_); refine m_assign rfl ?_)  | refine e_nrm ?_ | refine x_none rfl ?_ | with_reducible refine q_then ?_ | with_reducible refine awp_ret ?_ )
      refine ret_v (by first | exact .inr rfl | exact .inl rfl) rfl rfl ?_
      rfl
theorem heldG_mark {L : List Rw} (hc : chk L = 0) {d : Int} (h0 : 0 ≤ d) (h1 : d < 64) : (markL L)[d.toNat]? = some (decide (0 < (heldG L (devH d)).length)) := by
  have := markG_held L (i := d.toNat) (by omega)
  unfold markG at this
  rw [if_neg (by simp [hc])] at this
  rw [this, show ((d.toNat : Nat) : Int) = d by omega]
set_option maxHeartbeats 1000000 in
theorem apply_R (N : List Nd) (V : List Dv) (L : List Rw) (m : Int) (s : ByteArray) (d : Int) (hN : ∀ x ∈ N, x.n.size ≤ maxLen) (hV : ∀ x ∈ V, x.n.size ≤ maxLen) (h1 : N.length ≤ maxLen) (h2 : V.length ≤ maxLen) (hs : ∀ r ∈ L, r.h.n.size ≤ maxLen) (hm : L.length ≤ 1000) :
    ACalls Tryd.prog G 30 [netAV N V, .sl 4 (L.map Rw.av), .v (.int .i64 m), .v (.string s), .v (.int .i64 d)] [] (.tu [.sl 4 ((applyP N V L m s d).1.map Rw.av), .v (.int .i64 (applyP N V L m s d).2)]) [] := by
  have hmm : L.length ≤ maxLen := by unfold maxLen; omega
  refine acalls_of tbOk (enter_of Tryd.func30 (by kernel_rfl) rfl) Tryd.func30 rfl _ Tryd.ntmps30 (Nat.le_of_ble_eq_true rfl) fun X hX => ?_
  subst hX
  unfold applyP
  repeat (first | ((with_reducible refine k_move ?_); refine m_move rfl ?_) | ((with_reducible refine k_assign ?_); refine m_assign rfl ?_) | ((with_reducible refine k_load ?_); refine x_load_agg tbOk rfl rfl rfl rfl (Nat.le_of_ble_eq_true rfl) ?_) | ((with_reducible refine k_box ?_); refine m_box rfl rfl rfl ?_)  | refine e_nrm ?_ | refine x_none rfl ?_ | with_reducible refine q_then ?_ | with_reducible refine awp_seq ?_ | ((with_reducible refine w_region ?_ ?_); kernel_rfl))
  refine x_call0 (start_R N V L d hN hV h1 h2 hs hmm) (by repeat' (first | exact trivial | exact Ren.v _ | exact Ren.sl _ _ | exact Ren.ep _ | exact Ren.ptr _ _ _ _ rfl | exact Ren.nil _ | exact Ren.own _ _ _ _ ⟨_, rfl⟩ | refine ren_ag ?_ | refine ren_tu ?_ | refine ren_fn ?_ | refine ⟨?_, ?_⟩)) (by repeat' (first | exact trivial | exact RenB.v _ | exact RenB.sl _ _ | exact RenB.ep _ | exact RenB.ptr _ _ _ _ rfl | refine renb_ag ?_ | refine renb_tu ?_ | refine ⟨?_, ?_⟩)) ?_
  repeat (first | ((with_reducible refine k_move ?_); refine m_move rfl ?_) | ((with_reducible refine k_assign ?_); refine m_assign rfl ?_) | ((with_reducible refine k_bin ?_); refine m_binI rfl rfl rfl ?_)  | refine e_nrm ?_ | refine x_none rfl ?_ | with_reducible refine q_then ?_ | with_reducible refine awp_seq ?_ | ((with_reducible refine w_region ?_ ?_); kernel_rfl))
  refine w_cond rfl (fun h => ?_) (fun h => ?_)
  · rw [if_pos (by simpa using h)]
    repeat (first | ((with_reducible refine k_move ?_); refine m_move rfl ?_) | ((with_reducible refine k_assign ?_); refine m_assign rfl ?_)  | refine e_nrm ?_ | refine x_none rfl ?_ | with_reducible refine q_then ?_ | with_reducible refine q_then_ret ?_ | with_reducible refine awp_seq ?_ | with_reducible refine awp_ret ?_ | ((with_reducible refine w_region ?_ ?_); kernel_rfl))
    refine ret0_2 (by first | exact .inr rfl | exact .inl rfl) rfl rfl rfl ?_
    repeat' (first | exact trivial | exact Ren.v _ | exact Ren.sl _ _ | exact Ren.ep _ | exact Ren.ptr _ _ _ _ rfl | exact Ren.nil _ | exact Ren.own _ _ _ _ ⟨_, rfl⟩ | refine ren_ag ?_ | refine ren_tu ?_ | refine ren_fn ?_ | refine ⟨?_, ?_⟩)
  · have h0 : startP N V L d = 0 := by simpa using h
    obtain ⟨-, hc, -, hd0, hd1⟩ := start_ok h0
    rw [if_neg (by simp [h0]), heldG_mark hc hd0 hd1]
    have hH := rheld_A (G := X.G) L (devH d) hs hm
    generalize heldG L (devH d) = E at hH
    repeat (first | ((with_reducible refine k_move ?_); refine m_move rfl ?_)  | refine x_none rfl ?_ | with_reducible refine q_then ?_ | with_reducible refine awp_seq ?_ | with_reducible refine awp_skip ?_ | ((with_reducible refine w_region ?_ ?_); kernel_rfl))
    refine x_call0 (device_A d) (by repeat' (first | exact trivial | exact Ren.v _ | exact Ren.sl _ _ | exact Ren.ep _ | exact Ren.ptr _ _ _ _ rfl | exact Ren.nil _ | exact Ren.own _ _ _ _ ⟨_, rfl⟩ | refine ren_ag ?_ | refine ren_tu ?_ | refine ren_fn ?_ | refine ⟨?_, ?_⟩)) (by repeat' (first | exact trivial | exact RenB.v _ | exact RenB.sl _ _ | exact RenB.ep _ | exact RenB.ptr _ _ _ _ rfl | refine renb_ag ?_ | refine renb_tu ?_ | refine ⟨?_, ?_⟩)) ?_
    repeat (first   | refine x_none rfl ?_  )
    refine x_call0 (hH) (by repeat' (first | exact trivial | exact Ren.v _ | exact Ren.sl _ _ | exact Ren.ep _ | exact Ren.ptr _ _ _ _ rfl | exact Ren.nil _ | exact Ren.own _ _ _ _ ⟨_, rfl⟩ | refine ren_ag ?_ | refine ren_tu ?_ | refine ren_fn ?_ | refine ⟨?_, ?_⟩)) (by repeat' (first | exact trivial | exact RenB.v _ | exact RenB.sl _ _ | exact RenB.ep _ | exact RenB.ptr _ _ _ _ rfl | refine renb_ag ?_ | refine renb_tu ?_ | refine ⟨?_, ?_⟩)) ?_
    repeat (first | ((with_reducible refine k_call ?_); refine x_len tbOk rfl rfl ?_) | ((with_reducible refine k_bin ?_); refine m_binI rfl rfl rfl ?_)  | refine e_nrm ?_ | refine x_none rfl ?_ | with_reducible refine q_then ?_ )
    refine w_cond rfl (fun h => ?_) (fun h => ?_)
    · rw [if_pos (by have : 0 < E.length := by simpa using h
                     simp [this])]
      repeat (first | ((with_reducible refine k_assign ?_); refine m_assign rfl ?_)  | refine e_nrm ?_ | refine x_none rfl ?_ | with_reducible refine q_then ?_ | with_reducible refine q_then_ret ?_ | with_reducible refine awp_seq ?_ | with_reducible refine awp_ret ?_ | ((with_reducible refine w_region ?_ ?_); kernel_rfl))
      refine ret0_2 (by first | exact .inr rfl | exact .inl rfl) rfl rfl rfl ?_
      repeat' (first | exact trivial | exact Ren.v _ | exact Ren.sl _ _ | exact Ren.ep _ | exact Ren.ptr _ _ _ _ rfl | exact Ren.nil _ | exact Ren.own _ _ _ _ ⟨_, rfl⟩ | refine ren_ag ?_ | refine ren_tu ?_ | refine ren_fn ?_ | refine ⟨?_, ?_⟩)
    · rw [if_neg (by have : ¬ 0 < E.length := by simpa using h
                     simpa using this)]
      repeat (first | ((with_reducible refine k_move ?_); refine m_move rfl ?_)  | refine x_none rfl ?_ | with_reducible refine q_then ?_ | with_reducible refine awp_seq ?_ | with_reducible refine awp_skip ?_ | ((with_reducible refine w_region ?_ ?_); kernel_rfl))
      refine x_call0 (pers_A s) (by repeat' (first | exact trivial | exact Ren.v _ | exact Ren.sl _ _ | exact Ren.ep _ | exact Ren.ptr _ _ _ _ rfl | exact Ren.nil _ | exact Ren.own _ _ _ _ ⟨_, rfl⟩ | refine ren_ag ?_ | refine ren_tu ?_ | refine ren_fn ?_ | refine ⟨?_, ?_⟩)) (by repeat' (first | exact trivial | exact RenB.v _ | exact RenB.sl _ _ | exact RenB.ep _ | exact RenB.ptr _ _ _ _ rfl | refine renb_ag ?_ | refine renb_tu ?_ | refine ⟨?_, ?_⟩)) ?_
      repeat (first | ((with_reducible refine k_move ?_); refine m_move rfl ?_)  | refine x_none rfl ?_  )
      refine x_call0 (device_A d) (by repeat' (first | exact trivial | exact Ren.v _ | exact Ren.sl _ _ | exact Ren.ep _ | exact Ren.ptr _ _ _ _ rfl | exact Ren.nil _ | exact Ren.own _ _ _ _ ⟨_, rfl⟩ | refine ren_ag ?_ | refine ren_tu ?_ | refine ren_fn ?_ | refine ⟨?_, ?_⟩)) (by repeat' (first | exact trivial | exact RenB.v _ | exact RenB.sl _ _ | exact RenB.ep _ | exact RenB.ptr _ _ _ _ rfl | refine renb_ag ?_ | refine renb_tu ?_ | refine ⟨?_, ?_⟩)) ?_
      repeat (first   | refine x_none rfl ?_  )
      refine x_call0 (rgive_A L m (persH s) (devH d) hs hmm (show emptyS.size ≤ maxLen by decide)) (by repeat' (first | exact trivial | exact Ren.v _ | exact Ren.sl _ _ | exact Ren.ep _ | exact Ren.ptr _ _ _ _ rfl | exact Ren.nil _ | exact Ren.own _ _ _ _ ⟨_, rfl⟩ | refine ren_ag ?_ | refine ren_tu ?_ | refine ren_fn ?_ | refine ⟨?_, ?_⟩)) (by repeat' (first | exact trivial | exact RenB.v _ | exact RenB.sl _ _ | exact RenB.ep _ | exact RenB.ptr _ _ _ _ rfl | refine renb_ag ?_ | refine renb_tu ?_ | refine ⟨?_, ?_⟩)) ?_
      repeat (first | ((with_reducible refine k_assign ?_); refine m_assign rfl ?_) | ((with_reducible refine k_extract ?_); refine x_extract rfl rfl ?_)  | refine e_nrm ?_ | refine x_none rfl ?_ | with_reducible refine q_then ?_ | with_reducible refine awp_ret ?_ )
      refine ret0_2 (by first | exact .inr rfl | exact .inl rfl) rfl rfl rfl ?_
      repeat' (first | exact trivial | exact Ren.v _ | exact Ren.sl _ _ | exact Ren.ep _ | exact Ren.ptr _ _ _ _ rfl | exact Ren.nil _ | exact Ren.own _ _ _ _ ⟨_, rfl⟩ | refine ren_ag ?_ | refine ren_tu ?_ | refine ren_fn ?_ | refine ⟨?_, ?_⟩)
set_option maxHeartbeats 1000000 in
theorem remove_R (N : List Nd) (V : List Dv) (L : List Rw) (m : Int) (s : ByteArray) (d : Int) (hN : ∀ x ∈ N, x.n.size ≤ maxLen) (hV : ∀ x ∈ V, x.n.size ≤ maxLen) (h1 : N.length ≤ maxLen) (h2 : V.length ≤ maxLen) (hs : ∀ r ∈ L, r.h.n.size ≤ maxLen) (hm : L.length ≤ maxLen) (hsz : s.size ≤ maxLen) :
    ACalls Tryd.prog G 31 [netAV N V, .sl 4 (L.map Rw.av), .v (.int .i64 m), .v (.string s), .v (.int .i64 d)] [] (.tu [.sl 4 ((removeP N V L m s d).1.map Rw.av), .v (.int .i64 (removeP N V L m s d).2)]) [] := by
  refine acalls_of tbOk (enter_of Tryd.func31 (by kernel_rfl) rfl) Tryd.func31 rfl _ Tryd.ntmps31 (Nat.le_of_ble_eq_true rfl) fun X hX => ?_
  subst hX
  unfold removeP
  repeat (first | ((with_reducible refine k_move ?_); refine m_move rfl ?_) | ((with_reducible refine k_assign ?_); refine m_assign rfl ?_) | ((with_reducible refine k_load ?_); refine x_load_agg tbOk rfl rfl rfl rfl (Nat.le_of_ble_eq_true rfl) ?_) | ((with_reducible refine k_box ?_); refine m_box rfl rfl rfl ?_)  | refine e_nrm ?_ | refine x_none rfl ?_ | with_reducible refine q_then ?_ | with_reducible refine awp_seq ?_ | ((with_reducible refine w_region ?_ ?_); kernel_rfl))
  refine x_call0 (start_R N V L d hN hV h1 h2 hs hm) (by repeat' (first | exact trivial | exact Ren.v _ | exact Ren.sl _ _ | exact Ren.ep _ | exact Ren.ptr _ _ _ _ rfl | exact Ren.nil _ | exact Ren.own _ _ _ _ ⟨_, rfl⟩ | refine ren_ag ?_ | refine ren_tu ?_ | refine ren_fn ?_ | refine ⟨?_, ?_⟩)) (by repeat' (first | exact trivial | exact RenB.v _ | exact RenB.sl _ _ | exact RenB.ep _ | exact RenB.ptr _ _ _ _ rfl | refine renb_ag ?_ | refine renb_tu ?_ | refine ⟨?_, ?_⟩)) ?_
  repeat (first | ((with_reducible refine k_move ?_); refine m_move rfl ?_) | ((with_reducible refine k_assign ?_); refine m_assign rfl ?_) | ((with_reducible refine k_bin ?_); refine m_binI rfl rfl rfl ?_)  | refine e_nrm ?_ | refine x_none rfl ?_ | with_reducible refine q_then ?_ | with_reducible refine awp_seq ?_ | ((with_reducible refine w_region ?_ ?_); kernel_rfl))
  refine w_cond rfl (fun h => ?_) (fun h => ?_)
  · rw [if_pos (by simpa using h)]
    repeat (first | ((with_reducible refine k_move ?_); refine m_move rfl ?_) | ((with_reducible refine k_assign ?_); refine m_assign rfl ?_)  | refine e_nrm ?_ | refine x_none rfl ?_ | with_reducible refine q_then ?_ | with_reducible refine q_then_ret ?_ | with_reducible refine awp_seq ?_ | with_reducible refine awp_ret ?_ | ((with_reducible refine w_region ?_ ?_); kernel_rfl))
    refine ret0_2 (by first | exact .inr rfl | exact .inl rfl) rfl rfl rfl ?_
    repeat' (first | exact trivial | exact Ren.v _ | exact Ren.sl _ _ | exact Ren.ep _ | exact Ren.ptr _ _ _ _ rfl | exact Ren.nil _ | exact Ren.own _ _ _ _ ⟨_, rfl⟩ | refine ren_ag ?_ | refine ren_tu ?_ | refine ren_fn ?_ | refine ⟨?_, ?_⟩)
  · rw [if_neg (by simpa using h)]
    repeat (first | ((with_reducible refine k_move ?_); refine m_move rfl ?_)  | refine x_none rfl ?_ | with_reducible refine q_then ?_ | with_reducible refine awp_seq ?_ | with_reducible refine awp_skip ?_ | ((with_reducible refine w_region ?_ ?_); kernel_rfl))
    refine x_call0 (device_A d) (by repeat' (first | exact trivial | exact Ren.v _ | exact Ren.sl _ _ | exact Ren.ep _ | exact Ren.ptr _ _ _ _ rfl | exact Ren.nil _ | exact Ren.own _ _ _ _ ⟨_, rfl⟩ | refine ren_ag ?_ | refine ren_tu ?_ | refine ren_fn ?_ | refine ⟨?_, ?_⟩)) (by repeat' (first | exact trivial | exact RenB.v _ | exact RenB.sl _ _ | exact RenB.ep _ | exact RenB.ptr _ _ _ _ rfl | refine renb_ag ?_ | refine renb_tu ?_ | refine ⟨?_, ?_⟩)) ?_
    repeat (first | ((with_reducible refine k_move ?_); refine m_move rfl ?_)  | refine x_none rfl ?_  )
    refine x_call0 (pers_A s) (by repeat' (first | exact trivial | exact Ren.v _ | exact Ren.sl _ _ | exact Ren.ep _ | exact Ren.ptr _ _ _ _ rfl | exact Ren.nil _ | exact Ren.own _ _ _ _ ⟨_, rfl⟩ | refine ren_ag ?_ | refine ren_tu ?_ | refine ren_fn ?_ | refine ⟨?_, ?_⟩)) (by repeat' (first | exact trivial | exact RenB.v _ | exact RenB.sl _ _ | exact RenB.ep _ | exact RenB.ptr _ _ _ _ rfl | refine renb_ag ?_ | refine renb_tu ?_ | refine ⟨?_, ?_⟩)) ?_
    repeat (first   | refine x_none rfl ?_  )
    refine x_call0 (rgive_A L m (devH d) (persH s) hs hm hsz) (by repeat' (first | exact trivial | exact Ren.v _ | exact Ren.sl _ _ | exact Ren.ep _ | exact Ren.ptr _ _ _ _ rfl | exact Ren.nil _ | exact Ren.own _ _ _ _ ⟨_, rfl⟩ | refine ren_ag ?_ | refine ren_tu ?_ | refine ren_fn ?_ | refine ⟨?_, ?_⟩)) (by repeat' (first | exact trivial | exact RenB.v _ | exact RenB.sl _ _ | exact RenB.ep _ | exact RenB.ptr _ _ _ _ rfl | refine renb_ag ?_ | refine renb_tu ?_ | refine ⟨?_, ?_⟩)) ?_
    repeat (first | ((with_reducible refine k_assign ?_); refine m_assign rfl ?_) | ((with_reducible refine k_extract ?_); refine x_extract rfl rfl ?_)  | refine e_nrm ?_ | refine x_none rfl ?_ | with_reducible refine q_then ?_ | with_reducible refine awp_ret ?_ )
    refine ret0_2 (by first | exact .inr rfl | exact .inl rfl) rfl rfl rfl ?_
    repeat' (first | exact trivial | exact Ren.v _ | exact Ren.sl _ _ | exact Ren.ep _ | exact Ren.ptr _ _ _ _ rfl | exact Ren.nil _ | exact Ren.own _ _ _ _ ⟨_, rfl⟩ | refine ren_ag ?_ | refine ren_tu ?_ | refine ren_fn ?_ | refine ⟨?_, ?_⟩)
theorem place_R25 (L : List Rw) (m : Int) (hs : ∀ r ∈ L, r.h.n.size ≤ maxLen) (hm : L.length ≤ maxLen) :
    ACalls Tryd.prog G 33 [.sl 4 (L.map Rw.av), .v (.int .i64 m)] [] (.tu [.v (.int .i64 (placeP L m).1), .v (.bool (placeP L m).2)]) [] := by
  refine acalls_of tbOk (enter_of Tryd.func33 (by kernel_rfl) rfl) Tryd.func33 rfl _ Tryd.ntmps33 (Nat.le_of_ble_eq_true rfl) fun X hX => ?_
  subst hX
  unfold placeP
  repeat (first | ((with_reducible refine k_move ?_); refine m_move rfl ?_) | ((with_reducible refine k_assign ?_); refine m_assign rfl ?_)  | refine e_nrm ?_ | refine x_none rfl ?_ | with_reducible refine q_then ?_ | with_reducible refine awp_seq ?_ | ((with_reducible refine w_region ?_ ?_); kernel_rfl))
  refine x_call0 (rfind_A L m hs hm) (by repeat' (first | exact trivial | exact Ren.v _ | exact Ren.sl _ _ | exact Ren.ep _ | exact Ren.ptr _ _ _ _ rfl | exact Ren.nil _ | exact Ren.own _ _ _ _ ⟨_, rfl⟩ | refine ren_ag ?_ | refine ren_tu ?_ | refine ren_fn ?_ | refine ⟨?_, ?_⟩)) (by repeat' (first | exact trivial | exact RenB.v _ | exact RenB.sl _ _ | exact RenB.ep _ | exact RenB.ptr _ _ _ _ rfl | refine renb_ag ?_ | refine renb_tu ?_ | refine ⟨?_, ?_⟩)) ?_
  repeat (first | ((with_reducible refine k_move ?_); refine m_move rfl ?_) | ((with_reducible refine k_assign ?_); refine m_assign rfl ?_) | ((with_reducible refine k_store ?_); refine m_store tbOk rfl rfl rfl rfl rfl rfl rfl (Nat.le_of_ble_eq_true rfl) rfl ?_) | ((with_reducible refine k_alloc ?_); refine x_alloc tbOk rfl rfl ?_) | ((with_reducible refine k_un ?_); refine x_not rfl ?_) | ((with_reducible refine k_extract ?_); refine x_extract rfl rfl ?_)  | refine e_nrm ?_ | refine x_none rfl ?_ | with_reducible refine q_then ?_ | with_reducible refine awp_seq ?_ | ((with_reducible refine w_region ?_ ?_); kernel_rfl))
  cases hb : (findP L m).2 with
  | false =>
    rw [if_pos (.inl rfl)]
    repeat (first | ((with_reducible refine k_assign ?_); refine m_assign rfl ?_) | ((with_reducible refine k_pick ?_); refine m_pickt rfl (by first | rfl | assumption) rfl ?_)  | refine e_nrm ?_ | refine x_none rfl ?_ | refine x_skip_f rfl rfl (by first | rfl | assumption) ?_ | with_reducible refine q_then ?_ | with_reducible refine q_then_ret ?_ | with_reducible refine awp_seq ?_ | with_reducible refine awp_ret ?_ | ((with_reducible refine w_region ?_ ?_); kernel_rfl) | refine w_cond_t rfl (by first | rfl | assumption) ?_)
    refine ret0_2 (by first | exact .inr rfl | exact .inl rfl) rfl rfl rfl ?_
    repeat' (first | exact trivial | exact Ren.v _ | exact Ren.sl _ _ | exact Ren.ep _ | exact Ren.ptr _ _ _ _ rfl | exact Ren.nil _ | exact Ren.own _ _ _ _ ⟨_, rfl⟩ | refine ren_ag ?_ | refine ren_tu ?_ | refine ren_fn ?_ | refine ⟨?_, ?_⟩)
  | true =>
    repeat (first | ((with_reducible refine k_fieldAddr ?_); refine x_fieldAddr_ptr tbOk rfl rfl rfl rfl ?_) | ((with_reducible refine k_load ?_); refine x_load_one tbOk rfl rfl rfl rfl rfl ?_) | ((with_reducible refine k_pick ?_); refine m_pickf rfl (by first | rfl | assumption) rfl ?_) | ((with_reducible refine k_bin ?_); refine m_binI rfl rfl rfl ?_)  | refine e_nrm ?_ | refine x_none rfl ?_ | refine x_run_f rfl rfl (by first | rfl | assumption) ?_ | with_reducible refine q_then ?_ )
    refine w_cond rfl (fun h => ?_) (fun h => ?_)
    · rw [if_pos (.inr (by simpa using h))]
      repeat (first | ((with_reducible refine k_assign ?_); refine m_assign rfl ?_)  | refine e_nrm ?_ | refine x_none rfl ?_ | with_reducible refine q_then ?_ | with_reducible refine q_then_ret ?_ | with_reducible refine awp_seq ?_ | with_reducible refine awp_ret ?_ | ((with_reducible refine w_region ?_ ?_); kernel_rfl))
      refine ret0_2 (by first | exact .inr rfl | exact .inl rfl) rfl rfl rfl ?_
      repeat' (first | exact trivial | exact Ren.v _ | exact Ren.sl _ _ | exact Ren.ep _ | exact Ren.ptr _ _ _ _ rfl | exact Ren.nil _ | exact Ren.own _ _ _ _ ⟨_, rfl⟩ | refine ren_ag ?_ | refine ren_tu ?_ | refine ren_fn ?_ | refine ⟨?_, ?_⟩)
    · have h4 : (findP L m).1.k = 4 := by simpa using h
      rw [if_neg (by simp [h4])]
      repeat (first | ((with_reducible refine k_assign ?_); refine m_assign rfl ?_) | ((with_reducible refine k_fieldAddr ?_); refine x_fieldAddr_ptr tbOk rfl rfl rfl rfl ?_) | ((with_reducible refine k_load ?_); refine x_load_one tbOk rfl rfl rfl rfl rfl ?_)  | refine e_nrm ?_ | refine x_none rfl ?_ | with_reducible refine q_then ?_ | with_reducible refine awp_seq ?_ | with_reducible refine awp_skip ?_ | with_reducible refine awp_ret ?_ | ((with_reducible refine w_region ?_ ?_); kernel_rfl))
      refine ret0_2 (by first | exact .inr rfl | exact .inl rfl) rfl rfl rfl ?_
      repeat' (first | exact trivial | exact Ren.v _ | exact Ren.sl _ _ | exact Ren.ep _ | exact Ren.ptr _ _ _ _ rfl | exact Ren.nil _ | exact Ren.own _ _ _ _ ⟨_, rfl⟩ | refine ren_ag ?_ | refine ren_tu ?_ | refine ren_fn ?_ | refine ⟨?_, ?_⟩)
set_option maxHeartbeats 2000000 in
theorem applied_A (L : List Rw) (hG : GCls G) (hs : ∀ r ∈ L, r.h.n.size ≤ maxLen) (hm : L.length ≤ maxLen) : ACalls Tryd.prog G 21 [.sl 4 (L.map Rw.av)] [] (.sl 1 ((appliedP L).map iv)) [] := by
  refine acalls_of tbOk (enter_of Tryd.func21 (by kernel_rfl) rfl) Tryd.func21 rfl _ Tryd.ntmps21 (Nat.le_of_ble_eq_true rfl) fun X hX => ?_
  subst hX
  repeat (first | ((with_reducible refine k_move ?_); refine m_move rfl ?_) | ((with_reducible refine k_assign ?_); refine m_assign rfl ?_)  | refine e_nrm ?_ | refine x_none rfl ?_ | with_reducible refine q_then ?_ | with_reducible refine awp_seq ?_ | ((with_reducible refine w_region ?_ ?_); kernel_rfl))
  refine x_call0 (kcheck_A L hG hs hm) (by repeat' (first | exact trivial | exact Ren.v _ | exact Ren.sl _ _ | exact Ren.ep _ | exact Ren.ptr _ _ _ _ rfl | exact Ren.nil _ | exact Ren.own _ _ _ _ ⟨_, rfl⟩ | refine ren_ag ?_ | refine ren_tu ?_ | refine ren_fn ?_ | refine ⟨?_, ?_⟩)) (by repeat' (first | exact trivial | exact RenB.v _ | exact RenB.sl _ _ | exact RenB.ep _ | exact RenB.ptr _ _ _ _ rfl | refine renb_ag ?_ | refine renb_tu ?_ | refine ⟨?_, ?_⟩)) ?_
  repeat (first | ((with_reducible refine k_bin ?_); refine m_binI rfl rfl rfl ?_)  | refine e_nrm ?_ | refine x_none rfl ?_ | with_reducible refine q_then ?_ )
  refine w_cond rfl (fun h => ?_) (fun h => ?_)
  · rw [appliedP_bad (by simpa using h)]
    repeat (first | ((with_reducible refine k_assign ?_); refine m_assign rfl ?_)  | refine e_nrm ?_ | refine x_none rfl ?_ | with_reducible refine q_then ?_ | with_reducible refine q_then_ret ?_ | with_reducible refine awp_seq ?_ | with_reducible refine awp_ret ?_ | ((with_reducible refine w_region ?_ ?_); kernel_rfl))
    refine ret0_1 (by first | exact .inr rfl | exact .inl rfl) rfl rfl ?_
    repeat' (first | exact trivial | exact Ren.v _ | exact Ren.sl _ _ | exact Ren.ep _ | exact Ren.ptr _ _ _ _ rfl | exact Ren.nil _ | exact Ren.own _ _ _ _ ⟨_, rfl⟩ | refine ren_ag ?_ | refine ren_tu ?_ | refine ren_fn ?_ | refine ⟨?_, ?_⟩)
  have hc : chk L = 0 := by simpa using h
  have e0 : appliedP L = onesG 0 (markL L) := by unfold appliedP markG; rw [if_neg (by simp [hc])]
  rw [e0]
  have hM := markL_len L
  repeat (first | ((with_reducible refine k_move ?_); refine m_move rfl ?_) | ((with_reducible refine k_assign ?_); refine m_assign rfl ?_)  | refine e_nrm ?_ | refine x_none rfl ?_ | with_reducible refine q_then ?_ | with_reducible refine awp_seq ?_ | with_reducible refine awp_skip ?_ | ((with_reducible refine w_region ?_ ?_); kernel_rfl))
  refine x_call0 (marked_A L hc) (by repeat' (first | exact trivial | exact Ren.v _ | exact Ren.sl _ _ | exact Ren.ep _ | exact Ren.ptr _ _ _ _ rfl | exact Ren.nil _ | exact Ren.own _ _ _ _ ⟨_, rfl⟩ | refine ren_ag ?_ | refine ren_tu ?_ | refine ren_fn ?_ | refine ⟨?_, ?_⟩)) (renb_ag (renbl_self (bsv_pure _))) ?_
  generalize markL L = M at hM
  repeat (first | ((with_reducible refine k_move ?_); refine m_move rfl ?_)  | refine e_nrm ?_ | refine x_none rfl ?_ | with_reducible refine q_then ?_ | with_reducible refine awp_block ?_ )
  refine awp_own (t := 3) (s := 19) 3 1 rfl rfl ?_
  refine awp_loop (ι := Nat × List Int) (fun i => i.1 ≤ 64 ∧ i.2.length ≤ i.1 ∧ i.2 ++ onesG i.1 (M.drop i.1) = onesG 0 M) (fun i => 64 - i.1) (fun v i => [(3, .own 19 (v 19)), (10, .ag (bsv M)), (11, .v (.int .i64 (i.1 : Nat)))]) (fun v i => [(19, .buf 3 1 (i.2.map iv))]) ?_ ?_
  · exact ⟨(0, []), ⟨Nat.zero_le _, Nat.le_refl _, rfl⟩, trivial, ⟨rfl, rfl, rfl, trivial⟩, ⟨rfl, trivial⟩⟩
  rintro v ⟨i, E⟩ ⟨hi, hE, hf⟩
  simp only at hi hE hf
  dsimp only
  repeat (first | ((with_reducible refine k_bin ?_); refine m_binI rfl rfl rfl ?_)  | refine e_nrm ?_ | refine x_none rfl ?_ | with_reducible refine q_then ?_ | with_reducible refine awp_seq ?_ | ((with_reducible refine w_region ?_ ?_); kernel_rfl))
  refine w_cond rfl (fun h => ?_) (fun h => ?_)
  · have hlt : i < 64 := by simp at h; omega
    obtain ⟨b, hb⟩ := some_at (L := M) (k := i) (by omega)
    rw [onesG_at hb] at hf
    repeat (first | ((with_reducible refine k_move ?_); refine m_move rfl ?_)  | refine x_none rfl ?_ | with_reducible refine q_then ?_ | with_reducible refine awp_seq ?_ | with_reducible refine awp_block ?_ | with_reducible refine awp_skip ?_ | ((with_reducible refine w_region ?_ ?_); kernel_rfl))
    with_reducible refine k_index ?_
    refine x_index_arr tbOk arr64 rfl rfl rfl ⟨by omega, by omega⟩ (by rw [bsv_length, hM]) (bsv_at (by rw [Int.toNat_natCast]; exact hb)) ?_
    repeat (first | ((with_reducible refine k_move ?_); refine m_move rfl ?_) | ((with_reducible refine k_assign ?_); refine m_assign rfl ?_)  | refine e_nrm ?_ | refine x_none rfl ?_ | with_reducible refine q_then ?_ | with_reducible refine awp_seq ?_ | ((with_reducible refine w_region ?_ ?_); kernel_rfl))
    refine w_cond rfl (fun c3 => ?_) (fun c3 => ?_)
    · rw [if_pos c3] at hf
      repeat (first | ((with_reducible refine k_move ?_); refine m_move rfl ?_) | ((with_reducible refine k_buildSlice ?_); refine m_buildSlice tbOk rfl rfl rfl rfl rfl (by omega) rfl rfl rfl ?_) | refine x_none rfl ?_  | ((with_reducible refine w_region ?_ ?_); kernel_rfl))
      refine x_append_own tbOk rfl rfl rfl rfl rfl (by decide) rfl rfl rfl rfl rfl (fun x hx => by simp at hx; subst hx; rfl) (by simp only [List.length_map, List.length_cons, List.length_nil]; omega) (by simp only [List.length_map, List.length_cons, List.length_nil]; omega) ?_
      repeat (first | ((with_reducible refine k_move ?_); refine m_move rfl ?_) | ((with_reducible refine k_assign ?_); refine m_assign rfl ?_) | ((with_reducible refine k_bin ?_); refine x_add_in rfl rfl (by omega) ?_)  | refine e_nrm ?_ | refine x_none rfl ?_ | with_reducible refine q_then ?_ | with_reducible refine q_block ?_ | ((with_reducible refine w_region ?_ ?_); kernel_rfl))
      refine ⟨(i + 1, E ++ [(i : Int)]), ⟨by show i + 1 ≤ 64; omega, by show (E ++ [(i : Int)]).length ≤ i + 1; rw [List.length_append]; simp; omega, by rw [← hf]; simp⟩, by show 64 - (i + 1) < 64 - i; omega, ⟨rfl, rfl, rfl, trivial⟩, ⟨?_, trivial⟩⟩
      rw [List.map_append]
      rfl
    · rw [if_neg (by rw [c3]; decide)] at hf
      repeat (first | ((with_reducible refine k_move ?_); refine m_move rfl ?_) | ((with_reducible refine k_bin ?_); refine x_add_in rfl rfl (by omega) ?_)  | refine e_nrm ?_ | refine x_none rfl ?_ | with_reducible refine q_then ?_ | with_reducible refine q_block ?_ | with_reducible refine awp_skip ?_ | ((with_reducible refine w_region ?_ ?_); kernel_rfl))
      exact ⟨(i + 1, E), ⟨by show i + 1 ≤ 64; omega, by show E.length ≤ i + 1; omega, hf⟩, by show 64 - (i + 1) < 64 - i; omega, ⟨rfl, rfl, rfl, trivial⟩, ⟨rfl, trivial⟩⟩
  · have hlt : i = 64 := by simp at h; omega
    rw [List.drop_of_length_le (by omega)] at hf
    have hf' : onesG 0 M = E := by rw [← hf]; simp [onesG]
    rw [hf']
    repeat (first | ((with_reducible refine k_move ?_); refine m_move rfl ?_) | ((with_reducible refine k_assign ?_); refine m_assign rfl ?_)  | refine e_nrm ?_ | refine x_none rfl ?_ | with_reducible refine q_then ?_ | with_reducible refine q_then_exit ?_ | with_reducible refine awp_seq ?_ | with_reducible refine awp_exit ?_ | with_reducible refine awp_ret ?_ | ((with_reducible refine q_block_exit ?_ ?_); rfl) | ((with_reducible refine w_region ?_ ?_); kernel_rfl))
    refine ret0_1 (by first | exact .inr rfl | exact .inl rfl) rfl rfl ?_
    repeat' (first | exact trivial | exact Ren.v _ | exact Ren.sl _ _ | exact Ren.ep _ | exact Ren.ptr _ _ _ _ rfl | exact Ren.nil _ | exact Ren.own _ _ _ _ ⟨_, rfl⟩ | refine ren_ag ?_ | refine ren_tu ?_ | refine ren_fn ?_ | refine ⟨?_, ?_⟩)
set_option maxHeartbeats 2000000 in
theorem applied_R (L : List Rw) (hs : ∀ r ∈ L, r.h.n.size ≤ maxLen) (hm : L.length ≤ 1000) : ACalls Tryd.prog G 35 [.sl 4 (L.map Rw.av)] [] (.sl 1 ((appliedP L).map iv)) [] := by
  have hM := markG_len L
  have hH := fun (i : Nat) (hi : i < 64) => markG_held L hi
  refine acalls_of tbOk (enter_of Tryd.func35 (by kernel_rfl) rfl) Tryd.func35 rfl _ Tryd.ntmps35 (Nat.le_of_ble_eq_true rfl) fun X hX => ?_
  subst hX
  unfold appliedP
  generalize markG L = M at hM hH
  repeat (first | ((with_reducible refine k_assign ?_); refine m_assign rfl ?_)  | refine e_nrm ?_ | refine x_none rfl ?_ | with_reducible refine q_then ?_ | with_reducible refine awp_seq ?_ | with_reducible refine awp_block ?_ | ((with_reducible refine w_region ?_ ?_); kernel_rfl))
  refine awp_own (t := 3) (s := 18) 3 1 rfl rfl ?_
  refine awp_loop (ι := Nat × List Int) (fun i => i.1 ≤ 64 ∧ i.2.length ≤ i.1 ∧ i.2 ++ onesG i.1 (M.drop i.1) = onesG 0 M) (fun i => 64 - i.1) (fun v i => [(0, .sl 4 (L.map Rw.av)), (3, .own 18 (v 18)), (4, .v (.int .i64 (i.1 : Nat)))]) (fun v i => [(18, .buf 3 1 (i.2.map iv))]) ?_ ?_
  · exact ⟨(0, []), ⟨Nat.zero_le _, Nat.le_refl _, rfl⟩, trivial, ⟨rfl, rfl, rfl, trivial⟩, ⟨rfl, trivial⟩⟩
  rintro v ⟨i, E⟩ ⟨hi, hE, hf⟩
  simp only at hi hE hf
  dsimp only
  repeat (first | ((with_reducible refine k_move ?_); refine m_move rfl ?_) | ((with_reducible refine k_bin ?_); refine m_binI rfl rfl rfl ?_)  | refine e_nrm ?_ | refine x_none rfl ?_ | with_reducible refine q_then ?_ | with_reducible refine awp_seq ?_ | ((with_reducible refine w_region ?_ ?_); kernel_rfl))
  refine w_cond rfl (fun h => ?_) (fun h => ?_)
  · have hlt : i < 64 := by simp at h; omega
    have hb := hH i hlt
    have hA := rheld_A (G := X.G) L (devH i) hs hm
    generalize heldG L (devH i) = B at hA hb
    rw [onesG_at hb] at hf
    repeat (first | ((with_reducible refine k_move ?_); refine m_move rfl ?_)  | refine x_none rfl ?_ | with_reducible refine q_then ?_ | with_reducible refine awp_seq ?_ | with_reducible refine awp_block ?_ | with_reducible refine awp_skip ?_ | ((with_reducible refine w_region ?_ ?_); kernel_rfl))
    refine x_call0 (device_A i) (by repeat' (first | exact trivial | exact Ren.v _ | exact Ren.sl _ _ | exact Ren.ep _ | exact Ren.ptr _ _ _ _ rfl | exact Ren.nil _ | exact Ren.own _ _ _ _ ⟨_, rfl⟩ | refine ren_ag ?_ | refine ren_tu ?_ | refine ren_fn ?_ | refine ⟨?_, ?_⟩)) (by repeat' (first | exact trivial | exact RenB.v _ | exact RenB.sl _ _ | exact RenB.ep _ | exact RenB.ptr _ _ _ _ rfl | refine renb_ag ?_ | refine renb_tu ?_ | refine ⟨?_, ?_⟩)) ?_
    repeat (first   | refine x_none rfl ?_  )
    refine x_call0 (hA) (by repeat' (first | exact trivial | exact Ren.v _ | exact Ren.sl _ _ | exact Ren.ep _ | exact Ren.ptr _ _ _ _ rfl | exact Ren.nil _ | exact Ren.own _ _ _ _ ⟨_, rfl⟩ | refine ren_ag ?_ | refine ren_tu ?_ | refine ren_fn ?_ | refine ⟨?_, ?_⟩)) (by repeat' (first | exact trivial | exact RenB.v _ | exact RenB.sl _ _ | exact RenB.ep _ | exact RenB.ptr _ _ _ _ rfl | refine renb_ag ?_ | refine renb_tu ?_ | refine ⟨?_, ?_⟩)) ?_
    repeat (first | ((with_reducible refine k_call ?_); refine x_len tbOk rfl rfl ?_) | ((with_reducible refine k_bin ?_); refine m_binI rfl rfl rfl ?_)  | refine e_nrm ?_ | refine x_none rfl ?_ | with_reducible refine q_then ?_ )
    refine w_cond rfl (fun c3 => ?_) (fun c3 => ?_)
    · rw [if_pos (by have : 0 < B.length := by simpa using c3
                     simp [this])] at hf
      repeat (first | ((with_reducible refine k_move ?_); refine m_move rfl ?_) | ((with_reducible refine k_buildSlice ?_); refine m_buildSlice tbOk rfl rfl rfl rfl rfl (by omega) rfl rfl rfl ?_) | refine x_none rfl ?_  | ((with_reducible refine w_region ?_ ?_); kernel_rfl))
      refine x_append_own tbOk rfl rfl rfl rfl rfl (by decide) rfl rfl rfl rfl rfl (fun x hx => by simp at hx; subst hx; rfl) (by simp only [List.length_map, List.length_cons, List.length_nil]; omega) (by simp only [List.length_map, List.length_cons, List.length_nil]; omega) ?_
      repeat (first | ((with_reducible refine k_move ?_); refine m_move rfl ?_) | ((with_reducible refine k_assign ?_); refine m_assign rfl ?_) | ((with_reducible refine k_bin ?_); refine x_add_in rfl rfl (by omega) ?_)  | refine e_nrm ?_ | refine x_none rfl ?_ | with_reducible refine q_then ?_ | with_reducible refine q_block ?_ | ((with_reducible refine w_region ?_ ?_); kernel_rfl))
      refine ⟨(i + 1, E ++ [(i : Int)]), ⟨by show i + 1 ≤ 64; omega, by show (E ++ [(i : Int)]).length ≤ i + 1; rw [List.length_append]; simp; omega, by rw [← hf]; simp⟩, by show 64 - (i + 1) < 64 - i; omega, ⟨rfl, rfl, rfl, trivial⟩, ⟨?_, trivial⟩⟩
      rw [List.map_append]
      rfl
    · rw [if_neg (by have : ¬ 0 < B.length := by simpa using c3
                     simpa using this)] at hf
      repeat (first | ((with_reducible refine k_move ?_); refine m_move rfl ?_) | ((with_reducible refine k_assign ?_); refine m_assign rfl ?_) | ((with_reducible refine k_bin ?_); refine x_add_in rfl rfl (by omega) ?_)  | refine e_nrm ?_ | refine x_none rfl ?_ | with_reducible refine q_then ?_ | with_reducible refine q_block ?_ | with_reducible refine awp_skip ?_ | ((with_reducible refine w_region ?_ ?_); kernel_rfl))
      exact ⟨(i + 1, E), ⟨by show i + 1 ≤ 64; omega, by show E.length ≤ i + 1; omega, hf⟩, by show 64 - (i + 1) < 64 - i; omega, ⟨rfl, rfl, rfl, trivial⟩, ⟨rfl, trivial⟩⟩
  · have hlt : i = 64 := by simp at h; omega
    rw [List.drop_of_length_le (by omega)] at hf
    have hf' : onesG 0 M = E := by rw [← hf]; simp [onesG]
    rw [hf']
    repeat (first | ((with_reducible refine k_move ?_); refine m_move rfl ?_) | ((with_reducible refine k_assign ?_); refine m_assign rfl ?_)  | refine e_nrm ?_ | refine x_none rfl ?_ | with_reducible refine q_then ?_ | with_reducible refine q_then_exit ?_ | with_reducible refine awp_seq ?_ | with_reducible refine awp_exit ?_ | with_reducible refine awp_ret ?_ | ((with_reducible refine q_block_exit ?_ ?_); rfl) | ((with_reducible refine w_region ?_ ?_); kernel_rfl))
    refine ret0_1 (by first | exact .inr rfl | exact .inl rfl) rfl rfl ?_
    repeat' (first | exact trivial | exact Ren.v _ | exact Ren.sl _ _ | exact Ren.ep _ | exact Ren.ptr _ _ _ _ rfl | exact Ren.nil _ | exact Ren.own _ _ _ _ ⟨_, rfl⟩ | refine ren_ag ?_ | refine ren_tu ?_ | refine ren_fn ?_ | refine ⟨?_, ?_⟩)
set_option maxHeartbeats 4000000 in
theorem spare_R (N : List Nd) (V : List Dv) (L : List Rw) (K : List Lk) (hN : ∀ x ∈ N, x.n.size ≤ maxLen) (hV : ∀ x ∈ V, x.n.size ≤ maxLen) (h1 : N.length ≤ maxLen) (h2 : V.length ≤ maxLen) (hs : ∀ r ∈ L, r.h.n.size ≤ maxLen) (hm : L.length ≤ 1000) :
    ACalls Tryd.prog G 34 [netAV N V, .sl 4 (L.map Rw.av), .sl 3 (K.map Lk.av)] [] (.tu [.sl 1 ((spareP N V L K).1.map iv), .v (.int .i64 (spareP N V L K).2)]) [] := by
  have hmm : L.length ≤ maxLen := by unfold maxLen; omega
  refine acalls_of tbOk (enter_of Tryd.func34 (by kernel_rfl) rfl) Tryd.func34 rfl _ Tryd.ntmps34 (Nat.le_of_ble_eq_true rfl) fun X hX => ?_
  subst hX
  unfold spareP
  repeat (first | ((with_reducible refine k_move ?_); refine m_move rfl ?_) | ((with_reducible refine k_assign ?_); refine m_assign rfl ?_) | ((with_reducible refine k_box ?_); refine m_box rfl rfl rfl ?_)  | refine e_nrm ?_ | refine x_none rfl ?_ | with_reducible refine q_then ?_ | with_reducible refine awp_seq ?_ | ((with_reducible refine w_region ?_ ?_); kernel_rfl))
  refine x_call0 (rcheck_A L hs hmm) (by repeat' (first | exact trivial | exact Ren.v _ | exact Ren.sl _ _ | exact Ren.ep _ | exact Ren.ptr _ _ _ _ rfl | exact Ren.nil _ | exact Ren.own _ _ _ _ ⟨_, rfl⟩ | refine ren_ag ?_ | refine ren_tu ?_ | refine ren_fn ?_ | refine ⟨?_, ?_⟩)) (by repeat' (first | exact trivial | exact RenB.v _ | exact RenB.sl _ _ | exact RenB.ep _ | exact RenB.ptr _ _ _ _ rfl | refine renb_ag ?_ | refine renb_tu ?_ | refine ⟨?_, ?_⟩)) ?_
  repeat (first | ((with_reducible refine k_move ?_); refine m_move rfl ?_) | ((with_reducible refine k_assign ?_); refine m_assign rfl ?_) | ((with_reducible refine k_bin ?_); refine m_binI rfl rfl rfl ?_)  | refine e_nrm ?_ | refine x_none rfl ?_ | with_reducible refine q_then ?_ | with_reducible refine awp_seq ?_ | ((with_reducible refine w_region ?_ ?_); kernel_rfl))
  refine w_cond rfl (fun h => ?_) (fun h => ?_)
  · rw [if_pos (by simpa using h)]
    repeat (first | ((with_reducible refine k_move ?_); refine m_move rfl ?_) | ((with_reducible refine k_assign ?_); refine m_assign rfl ?_)  | refine e_nrm ?_ | refine x_none rfl ?_ | with_reducible refine q_then ?_ | with_reducible refine q_then_ret ?_ | with_reducible refine awp_seq ?_ | with_reducible refine awp_ret ?_ | ((with_reducible refine w_region ?_ ?_); kernel_rfl))
    refine ret0_2 (by first | exact .inr rfl | exact .inl rfl) rfl rfl rfl ?_
    repeat' (first | exact trivial | exact Ren.v _ | exact Ren.sl _ _ | exact Ren.ep _ | exact Ren.ptr _ _ _ _ rfl | exact Ren.nil _ | exact Ren.own _ _ _ _ ⟨_, rfl⟩ | refine ren_ag ?_ | refine ren_tu ?_ | refine ren_fn ?_ | refine ⟨?_, ?_⟩)
  have hc : chk L = 0 := by simpa using h
  rw [if_neg (by simpa using h)]
  repeat (first | ((with_reducible refine k_move ?_); refine m_move rfl ?_) | ((with_reducible refine k_load ?_); refine x_load_agg tbOk rfl rfl rfl rfl (Nat.le_of_ble_eq_true rfl) ?_)  | refine x_none rfl ?_ | with_reducible refine q_then ?_ | with_reducible refine awp_seq ?_ | with_reducible refine awp_skip ?_ | ((with_reducible refine w_region ?_ ?_); kernel_rfl))
  refine x_call0 (rlocks_A N V K hN hV h1 h2) (by repeat' (first | exact trivial | exact Ren.v _ | exact Ren.sl _ _ | exact Ren.ep _ | exact Ren.ptr _ _ _ _ rfl | exact Ren.nil _ | exact Ren.own _ _ _ _ ⟨_, rfl⟩ | refine ren_ag ?_ | refine ren_tu ?_ | refine ren_fn ?_ | refine ⟨?_, ?_⟩)) (by repeat' (first | exact trivial | exact RenB.v _ | exact RenB.sl _ _ | exact RenB.ep _ | exact RenB.ptr _ _ _ _ rfl | refine renb_ag ?_ | refine renb_tu ?_ | refine ⟨?_, ?_⟩)) ?_
  repeat (first | ((with_reducible refine k_move ?_); refine m_move rfl ?_) | ((with_reducible refine k_assign ?_); refine m_assign rfl ?_) | ((with_reducible refine k_bin ?_); refine m_binI rfl rfl rfl ?_)  | refine e_nrm ?_ | refine x_none rfl ?_ | with_reducible refine q_then ?_ | with_reducible refine awp_seq ?_ | ((with_reducible refine w_region ?_ ?_); kernel_rfl))
  refine w_cond rfl (fun h => ?_) (fun h => ?_)
  · rw [if_pos (by simpa using h)]
    repeat (first | ((with_reducible refine k_move ?_); refine m_move rfl ?_) | ((with_reducible refine k_assign ?_); refine m_assign rfl ?_)  | refine e_nrm ?_ | refine x_none rfl ?_ | with_reducible refine q_then ?_ | with_reducible refine q_then_ret ?_ | with_reducible refine awp_seq ?_ | with_reducible refine awp_ret ?_ | ((with_reducible refine w_region ?_ ?_); kernel_rfl))
    refine ret0_2 (by first | exact .inr rfl | exact .inl rfl) rfl rfl rfl ?_
    repeat' (first | exact trivial | exact Ren.v _ | exact Ren.sl _ _ | exact Ren.ep _ | exact Ren.ptr _ _ _ _ rfl | exact Ren.nil _ | exact Ren.own _ _ _ _ ⟨_, rfl⟩ | refine ren_ag ?_ | refine ren_tu ?_ | refine ren_fn ?_ | refine ⟨?_, ?_⟩)
  have hK : lksE N V K = 0 := by simpa using h
  rw [if_neg (by simpa using h)]
  obtain ⟨hn, hkl, hgo⟩ := lksE_rng hK
  have hv64 := (netE_len hn).2
  have hT := fun (i : Nat) (hi : i < 64) => taken_at K (markL L) _ (fun k hk => (fault_rng (lkGo_rng K [] hgo k hk)).1) (i := i) (by have := heldG_mark hc (d := i) (by omega) (by omega); rw [Int.toNat_natCast] at this; exact this)
  generalize takenP (markL L) K = T at hT
  have hkm : K.length ≤ maxLen := by unfold maxLen; omega
  repeat (first | ((with_reducible refine k_assign ?_); refine m_assign rfl ?_)  | refine e_nrm ?_ | refine x_none rfl ?_ | with_reducible refine q_then ?_ | with_reducible refine awp_seq ?_ | with_reducible refine awp_block ?_ | with_reducible refine awp_skip ?_ | ((with_reducible refine w_region ?_ ?_); kernel_rfl))
  refine awp_own (t := 10) (s := 60) 3 1 rfl rfl ?_
  refine awp_loop (ι := Nat × List Int) (fun i => i.1 ≤ V.length ∧ i.2.length ≤ i.1 ∧ i.2 ++ spGo T i.1 (V.drop i.1) = spGo T 0 V) (fun i => V.length - i.1) (fun v i => [(1, .sl 4 (L.map Rw.av)), (2, .sl 3 (K.map Lk.av)), (3, .ptr 3 (v 3) 0), (10, .own 60 (v 60)), (11, .v (.int .i64 (i.1 : Nat)))]) (fun v i => [(3, .box [.sl 3 (N.map Nd.av), .sl 5 (V.map Dv.av)]), (60, .buf 3 1 (i.2.map iv))]) ?_ ?_
  · exact ⟨(0, []), ⟨Nat.zero_le _, Nat.le_refl _, rfl⟩, trivial, ⟨rfl, rfl, rfl, rfl, rfl, trivial⟩, ⟨rfl, rfl, trivial⟩⟩
  rintro v ⟨i, E⟩ ⟨hi, hE, hf⟩
  simp only at hi hE hf
  dsimp only
  repeat (first | ((with_reducible refine k_move ?_); refine m_move rfl ?_) | ((with_reducible refine k_fieldAddr ?_); refine x_fieldAddr_ptr tbOk rfl rfl rfl rfl ?_) | ((with_reducible refine k_load ?_); refine x_load_one tbOk rfl rfl rfl rfl rfl ?_) | ((with_reducible refine k_call ?_); refine x_len tbOk rfl rfl ?_) | ((with_reducible refine k_bin ?_); refine m_binI rfl rfl rfl ?_)  | refine e_nrm ?_ | refine x_none rfl ?_ | with_reducible refine q_then ?_ | with_reducible refine awp_seq ?_ | ((with_reducible refine w_region ?_ ?_); kernel_rfl))
  refine w_cond rfl (fun h => ?_) (fun h => ?_)
  · have hlt : i < V.length := by simpa using h
    obtain ⟨x, hx⟩ := some_at hlt
    have hy := dv_at hx
    have hb := hT i (by omega)
    have hA := rheld_A (G := X.G) L (devH i) hs hm
    have hLk := locked_A (G := X.G) K i hkm
    generalize heldG L (devH i) = B at hA hb
    generalize lockedP K i = Q at hLk hb
    obtain ⟨p, tt⟩ := Q
    simp only at hLk hb
    rw [spGo_at hx] at hf
    have key : ∀ c : Prop, [Decidable c] → ((x.k = 4 ∧ T[i]? = some false) ↔ c) → E ++ (if c then (i : Int) :: spGo T (i + 1) (V.drop (i + 1)) else spGo T (i + 1) (V.drop (i + 1))) = spGo T 0 V := fun c _ hcc => by
      rw [← hf]
      by_cases h9 : c
      · rw [if_pos h9, if_pos (hcc.2 h9)]
      · rw [if_neg h9, if_neg (fun e => h9 (hcc.1 e))]
    have key2 := key (x.k = 4 ∧ tt = false ∧ B.length = 0) (by
      rw [hb]
      cases tt <;> simp)
    clear key hf
    repeat (first | ((with_reducible refine k_move ?_); refine m_move rfl ?_)  | refine x_none rfl ?_ | with_reducible refine q_then ?_ | with_reducible refine awp_seq ?_ | with_reducible refine awp_block ?_ | with_reducible refine awp_skip ?_ | ((with_reducible refine w_region ?_ ?_); kernel_rfl))
    refine x_call0 (hLk) (by repeat' (first | exact trivial | exact Ren.v _ | exact Ren.sl _ _ | exact Ren.ep _ | exact Ren.ptr _ _ _ _ rfl | exact Ren.nil _ | exact Ren.own _ _ _ _ ⟨_, rfl⟩ | refine ren_ag ?_ | refine ren_tu ?_ | refine ren_fn ?_ | refine ⟨?_, ?_⟩)) (by repeat' (first | exact trivial | exact RenB.v _ | exact RenB.sl _ _ | exact RenB.ep _ | exact RenB.ptr _ _ _ _ rfl | refine renb_ag ?_ | refine renb_tu ?_ | refine ⟨?_, ?_⟩)) ?_
    repeat (first | ((with_reducible refine k_move ?_); refine m_move rfl ?_) | ((with_reducible refine k_assign ?_); refine m_assign rfl ?_) | ((with_reducible refine k_fieldAddr ?_); refine x_fieldAddr_ptr tbOk rfl rfl rfl rfl ?_) | ((with_reducible refine k_fieldAddr ?_); refine x_fieldAddr_ep tbOk rfl rfl rfl rfl ?_) | ((with_reducible refine k_load ?_); refine x_load_one tbOk rfl rfl rfl rfl rfl ?_) | ((with_reducible refine k_load ?_); refine x_load_ep_one tbOk rfl rfl rfl ?_) | ((with_reducible refine k_extract ?_); refine x_extract rfl rfl ?_) | ((with_reducible refine k_indexAddr ?_); refine x_indexAddr_n tbOk rfl rfl rfl rfl (by assumption) ?_) | ((with_reducible refine k_bin ?_); refine m_binI rfl rfl rfl ?_)  | refine e_nrm ?_ | refine x_none rfl ?_ | with_reducible refine q_then ?_ | with_reducible refine awp_seq ?_ | ((with_reducible refine w_region ?_ ?_); kernel_rfl))
    refine x_split rfl rfl (fun c1 => ?_) (fun c1 => ?_)
    rotate_left
    · rw [if_neg (by rintro ⟨a, -⟩; rw [a] at c1; revert c1; decide)] at key2
      repeat (first | ((with_reducible refine k_move ?_); refine m_move rfl ?_) | ((with_reducible refine k_assign ?_); refine m_assign rfl ?_) | ((with_reducible refine k_pick ?_); refine m_pickf rfl (by first | rfl | assumption) rfl ?_) | ((with_reducible refine k_bin ?_); refine x_add_in rfl rfl (by omega) ?_)  | refine e_nrm ?_ | refine x_none rfl ?_ | refine x_skip_t rfl rfl (by first | rfl | assumption) ?_ | with_reducible refine q_then ?_ | with_reducible refine q_block ?_ | with_reducible refine awp_skip ?_ | ((with_reducible refine w_region ?_ ?_); kernel_rfl) | refine w_cond_f rfl (by first | rfl | assumption) ?_)
      exact ⟨(i + 1, E), ⟨by show i + 1 ≤ V.length; omega, by show E.length ≤ i + 1; omega, key2⟩, by show V.length - (i + 1) < V.length - i; omega, ⟨rfl, rfl, rfl, rfl, rfl, trivial⟩, ⟨rfl, rfl, trivial⟩⟩
    cases tt with
    | true =>
      rw [if_neg (by rintro ⟨-, a, -⟩; cases a)] at key2
      repeat (first | ((with_reducible refine k_move ?_); refine m_move rfl ?_) | ((with_reducible refine k_assign ?_); refine m_assign rfl ?_) | ((with_reducible refine k_un ?_); refine x_not rfl ?_) | ((with_reducible refine k_pick ?_); refine m_pickt rfl (by first | rfl | assumption) rfl ?_) | ((with_reducible refine k_pick ?_); refine m_pickf rfl (by first | rfl | assumption) rfl ?_) | ((with_reducible refine k_bin ?_); refine x_add_in rfl rfl (by omega) ?_)  | refine e_nrm ?_ | refine x_none rfl ?_ | refine x_run_t rfl rfl (by first | rfl | assumption) ?_ | refine x_skip_t rfl rfl (by first | rfl | assumption) ?_ | with_reducible refine q_then ?_ | with_reducible refine q_block ?_ | with_reducible refine awp_skip ?_ | ((with_reducible refine w_region ?_ ?_); kernel_rfl) | refine w_cond_f rfl (by first | rfl | assumption) ?_)
      exact ⟨(i + 1, E), ⟨by show i + 1 ≤ V.length; omega, by show E.length ≤ i + 1; omega, key2⟩, by show V.length - (i + 1) < V.length - i; omega, ⟨rfl, rfl, rfl, rfl, rfl, trivial⟩, ⟨rfl, rfl, trivial⟩⟩
    | false =>
      repeat (first | ((with_reducible refine k_move ?_); refine m_move rfl ?_) | ((with_reducible refine k_un ?_); refine x_not rfl ?_) | ((with_reducible refine k_pick ?_); refine m_pickt rfl (by first | rfl | assumption) rfl ?_)  | refine x_none rfl ?_ | refine x_run_t rfl rfl (by first | rfl | assumption) ?_  )
      refine x_call0 (device_A i) (by repeat' (first | exact trivial | exact Ren.v _ | exact Ren.sl _ _ | exact Ren.ep _ | exact Ren.ptr _ _ _ _ rfl | exact Ren.nil _ | exact Ren.own _ _ _ _ ⟨_, rfl⟩ | refine ren_ag ?_ | refine ren_tu ?_ | refine ren_fn ?_ | refine ⟨?_, ?_⟩)) (by repeat' (first | exact trivial | exact RenB.v _ | exact RenB.sl _ _ | exact RenB.ep _ | exact RenB.ptr _ _ _ _ rfl | refine renb_ag ?_ | refine renb_tu ?_ | refine ⟨?_, ?_⟩)) ?_
      repeat (first   | refine x_run_t rfl rfl (by first | rfl | assumption) ?_  )
      refine x_call0 (hA) (by repeat' (first | exact trivial | exact Ren.v _ | exact Ren.sl _ _ | exact Ren.ep _ | exact Ren.ptr _ _ _ _ rfl | exact Ren.nil _ | exact Ren.own _ _ _ _ ⟨_, rfl⟩ | refine ren_ag ?_ | refine ren_tu ?_ | refine ren_fn ?_ | refine ⟨?_, ?_⟩)) (by repeat' (first | exact trivial | exact RenB.v _ | exact RenB.sl _ _ | exact RenB.ep _ | exact RenB.ptr _ _ _ _ rfl | refine renb_ag ?_ | refine renb_tu ?_ | refine ⟨?_, ?_⟩)) ?_
      repeat (first | ((with_reducible refine k_pick ?_); refine m_pickt rfl (by first | rfl | assumption) rfl ?_) | ((with_reducible refine k_call ?_); refine x_len tbOk rfl rfl ?_) | ((with_reducible refine k_bin ?_); refine m_binI rfl rfl rfl ?_)  | refine e_nrm ?_ | refine x_none rfl ?_ | refine x_run_t rfl rfl (by first | rfl | assumption) ?_ | with_reducible refine q_then ?_ )
      refine w_cond rfl (fun c3 => ?_) (fun c3 => ?_)
      · rw [if_pos ⟨by simpa using c1, rfl, by simpa using c3⟩] at key2
        repeat (first | ((with_reducible refine k_move ?_); refine m_move rfl ?_) | ((with_reducible refine k_buildSlice ?_); refine m_buildSlice tbOk rfl rfl rfl rfl rfl (by omega) rfl rfl rfl ?_) | refine x_none rfl ?_  | ((with_reducible refine w_region ?_ ?_); kernel_rfl))
        refine x_append_own tbOk rfl rfl rfl rfl rfl (by decide) rfl rfl rfl rfl rfl (fun x hx => by simp at hx; subst hx; rfl) (by simp only [List.length_map, List.length_cons, List.length_nil]; omega) (by simp only [List.length_map, List.length_cons, List.length_nil]; omega) ?_
        repeat (first | ((with_reducible refine k_move ?_); refine m_move rfl ?_) | ((with_reducible refine k_assign ?_); refine m_assign rfl ?_) | ((with_reducible refine k_bin ?_); refine x_add_in rfl rfl (by omega) ?_)  | refine e_nrm ?_ | refine x_none rfl ?_ | with_reducible refine q_then ?_ | with_reducible refine q_block ?_ | ((with_reducible refine w_region ?_ ?_); kernel_rfl))
        refine ⟨(i + 1, E ++ [(i : Int)]), ⟨by show i + 1 ≤ V.length; omega, by show (E ++ [(i : Int)]).length ≤ i + 1; rw [List.length_append]; simp; omega, by rw [← key2]; simp⟩, by show V.length - (i + 1) < V.length - i; omega, ⟨rfl, rfl, rfl, rfl, rfl, trivial⟩, ⟨rfl, ?_, trivial⟩⟩
        rw [List.map_append]
        rfl
      · rw [if_neg (by rintro ⟨-, -, a⟩; exact (show ¬ B.length = 0 by simpa using c3) a)] at key2
        repeat (first | ((with_reducible refine k_move ?_); refine m_move rfl ?_) | ((with_reducible refine k_assign ?_); refine m_assign rfl ?_) | ((with_reducible refine k_bin ?_); refine x_add_in rfl rfl (by omega) ?_)  | refine e_nrm ?_ | refine x_none rfl ?_ | with_reducible refine q_then ?_ | with_reducible refine q_block ?_ | with_reducible refine awp_skip ?_ | ((with_reducible refine w_region ?_ ?_); kernel_rfl))
        exact ⟨(i + 1, E), ⟨by show i + 1 ≤ V.length; omega, by show E.length ≤ i + 1; omega, key2⟩, by show V.length - (i + 1) < V.length - i; omega, ⟨rfl, rfl, rfl, rfl, rfl, trivial⟩, ⟨rfl, rfl, trivial⟩⟩
  · have hlt : ¬ i < V.length := by simpa using h
    rw [List.drop_of_length_le (by omega)] at hf
    have hf' : spGo T 0 V = E := by rw [← hf]; simp [spGo]
    rw [hf']
    repeat (first | ((with_reducible refine k_move ?_); refine m_move rfl ?_) | ((with_reducible refine k_assign ?_); refine m_assign rfl ?_)  | refine e_nrm ?_ | refine x_none rfl ?_ | with_reducible refine q_then ?_ | with_reducible refine q_then_exit ?_ | with_reducible refine awp_seq ?_ | with_reducible refine awp_exit ?_ | with_reducible refine awp_ret ?_ | ((with_reducible refine q_block_exit ?_ ?_); rfl) | ((with_reducible refine w_region ?_ ?_); kernel_rfl))
    refine ret0_2 (by first | exact .inr rfl | exact .inl rfl) rfl rfl rfl ?_
    repeat' (first | exact trivial | exact Ren.v _ | exact Ren.sl _ _ | exact Ren.ep _ | exact Ren.ptr _ _ _ _ rfl | exact Ren.nil _ | exact Ren.own _ _ _ _ ⟨_, rfl⟩ | refine ren_ag ?_ | refine ren_tu ?_ | refine ren_fn ?_ | refine ⟨?_, ?_⟩)
end Go.Proofs.YtaoegbmgombhdaaDoor
