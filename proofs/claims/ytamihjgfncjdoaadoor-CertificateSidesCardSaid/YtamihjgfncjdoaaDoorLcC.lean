/- permitofficeref14.Add and permitofficemake.Locks, by the abstract machine: the locks that it makes are valid; conditions: none. -/
import Derived.Test.YtamihjgfncjdoaaDoorLcA
import Derived.Test.YtamihjgfncjdoaaDoorAbsY
import Derived.Test.YtamihjgfncjdoaaDoorDkB
set_option linter.unusedVariables false
set_option linter.unusedSimpArgs false
namespace Go.Proofs.YtamihjgfncjdoaaDoor
open Go Go.RowKit
set_option maxRecDepth 10000
variable {G : Nat → Option (List Value)}
theorem lowK_at {L : List Lk} {a : Nat} {x k : Lk} (h : L[a]? = some x) : lowK k (L.drop a) = if befB x k = true then lowK k (L.drop (a + 1)) + 1 else 0 := by rw [drop_at h]; rfl
theorem lk_one (L : List Lk) : ∀ x ∈ L.map Lk.av, allOne x.cells = true := by
  intro x hx
  obtain ⟨r, _, rfl⟩ := List.mem_map.1 hx
  rfl
set_option maxHeartbeats 4000000 in
theorem radd_A (N : List Nd) (V : List Dv) (L : List Lk) (k : Lk) (hN : ∀ x ∈ N, x.n.size ≤ maxLen) (hV : ∀ x ∈ V, x.n.size ≤ maxLen) (h1 : N.length ≤ maxLen) (h2 : V.length ≤ maxLen) (h3 : L.length ≤ maxLen) :
    ACalls Tryd.prog G 31 [netAV N V, .sl 3 (L.map Lk.av), k.av] [] (.tu [.sl 3 ((addK N V L k).1.map Lk.av), .v (.int .i64 (addK N V L k).2)]) [] := by
  have hml : (L.map Lk.av).length = L.length := by simp
  have hm9 : L.length ≤ 9223372036854775807 := by unfold maxLen at h3; omega
  refine acalls_of tbOk (enter_of Tryd.func31 (by kernel_rfl) rfl) Tryd.func31 rfl _ Tryd.ntmps31 (Nat.le_of_ble_eq_true rfl) fun X hX => ?_
  subst hX
  unfold addK
  repeat (first | ((with_reducible refine k_move ?_); refine m_move rfl ?_) | ((with_reducible refine k_assign ?_); refine m_assign rfl ?_) | ((with_reducible refine k_load ?_); refine x_load_agg tbOk rfl rfl rfl rfl (Nat.le_of_ble_eq_true rfl) ?_) | ((with_reducible refine k_box ?_); refine m_box rfl rfl rfl ?_)  | refine e_nrm ?_ | refine x_none rfl ?_ | with_reducible (first | refine q_then ?_ | refine awp_seq ?_) | ((with_reducible refine w_region ?_ ?_); kernel_rfl))
  refine zC (rlocks_A N V L hN hV h1 h2) ?_
  repeat (first | ((with_reducible refine k_move ?_); refine m_move rfl ?_) | ((with_reducible refine k_assign ?_); refine m_assign rfl ?_) | ((with_reducible refine k_bin ?_); refine m_binI rfl rfl rfl ?_)  | refine e_nrm ?_ | refine x_none rfl ?_ | with_reducible (first | refine q_then ?_ | refine awp_seq ?_) | ((with_reducible refine w_region ?_ ?_); kernel_rfl))
  refine w_cond rfl (fun h => ?_) (fun h => ?_)
  · rw [if_pos (by simpa using h)]
    repeat (first | ((with_reducible refine k_move ?_); refine m_move rfl ?_) | ((with_reducible refine k_assign ?_); refine m_assign rfl ?_)  | refine e_nrm ?_ | refine x_none rfl ?_ | with_reducible (first | refine q_then ?_ | refine q_then_ret ?_ | refine awp_seq ?_ | refine awp_ret ?_) | ((with_reducible refine w_region ?_ ?_); kernel_rfl))
    refine ret0_2 (by first | exact .inr rfl | exact .inl rfl) rfl rfl rfl ?_
    repeat' (first | exact trivial | exact Ren.v _ | exact Ren.sl _ _ | exact Ren.ep _ | exact Ren.ptr _ _ _ _ rfl | exact Ren.bs _ _ _ _ _ rfl | exact Ren.nil _ | exact Ren.own _ _ _ _ ⟨_, rfl⟩ | refine ren_ag ?_ | refine ren_tu ?_ | refine ren_fn ?_ | refine ⟨?_, ?_⟩)
  rw [if_neg (by simpa using h)]
  repeat (first | ((with_reducible refine k_load ?_); refine x_load_agg tbOk rfl rfl rfl rfl (Nat.le_of_ble_eq_true rfl) ?_)  | refine x_none rfl ?_ | with_reducible (first | refine q_then ?_ | refine awp_seq ?_ | refine awp_skip ?_) | ((with_reducible refine w_region ?_ ?_); kernel_rfl))
  refine zC (fault_A N V k) ?_
  repeat (first | ((with_reducible refine k_move ?_); refine m_move rfl ?_) | ((with_reducible refine k_assign ?_); refine m_assign rfl ?_) | ((with_reducible refine k_bin ?_); refine m_binI rfl rfl rfl ?_)  | refine e_nrm ?_ | refine x_none rfl ?_ | with_reducible (first | refine q_then ?_ | refine awp_seq ?_) | ((with_reducible refine w_region ?_ ?_); kernel_rfl))
  refine w_cond rfl (fun h => ?_) (fun h => ?_)
  · rw [if_pos (by simpa using h)]
    repeat (first | ((with_reducible refine k_move ?_); refine m_move rfl ?_) | ((with_reducible refine k_assign ?_); refine m_assign rfl ?_)  | refine e_nrm ?_ | refine x_none rfl ?_ | with_reducible (first | refine q_then ?_ | refine q_then_ret ?_ | refine awp_seq ?_ | refine awp_ret ?_) | ((with_reducible refine w_region ?_ ?_); kernel_rfl))
    refine ret0_2 (by first | exact .inr rfl | exact .inl rfl) rfl rfl rfl ?_
    repeat' (first | exact trivial | exact Ren.v _ | exact Ren.sl _ _ | exact Ren.ep _ | exact Ren.ptr _ _ _ _ rfl | exact Ren.bs _ _ _ _ _ rfl | exact Ren.nil _ | exact Ren.own _ _ _ _ ⟨_, rfl⟩ | refine ren_ag ?_ | refine ren_tu ?_ | refine ren_fn ?_ | refine ⟨?_, ?_⟩)
  rw [if_neg (by simpa using h)]
  repeat (first | ((with_reducible refine k_assign ?_); refine m_assign rfl ?_)  | refine e_nrm ?_ | refine x_none rfl ?_ | with_reducible (first | refine q_then ?_ | refine awp_seq ?_ | refine awp_block ?_ | refine awp_skip ?_) | ((with_reducible refine w_region ?_ ?_); kernel_rfl))
  refine awp_loop (ι := Nat) (fun i => i ≤ L.length ∧ keyB (L.take i) k.k = false) (fun i => L.length - i) (fun v i => [(1, .sl 3 (L.map Lk.av)), (3, .ptr 3 (v 3) 0), (5, .ptr 5 (v 5) 0), (10, .v (.int .i64 i))]) (fun v i => [(3, .box [.sl 3 (N.map Nd.av), .sl 5 (V.map Dv.av)]), (5, .box [.v (.int .i64 k.d), .v (.int .i64 k.p), .v (.int .i64 k.k)])]) ?_ ?_
  · exact ⟨0, ⟨Nat.zero_le _, rfl⟩, trivial, ⟨rfl, rfl, rfl, rfl, trivial⟩, ⟨rfl, rfl, trivial⟩⟩
  rintro v i ⟨hi, hu⟩
  repeat (first | ((with_reducible refine k_move ?_); refine m_move rfl ?_) | ((with_reducible refine k_call ?_); refine x_len tbOk rfl rfl ?_) | ((with_reducible refine k_bin ?_); refine m_binI rfl rfl rfl ?_)  | refine e_nrm ?_ | refine x_none rfl ?_ | with_reducible (first | refine q_then ?_ | refine awp_seq ?_) | ((with_reducible refine w_region ?_ ?_); kernel_rfl))
  refine w_cond rfl (fun h => ?_) (fun h => ?_)
  · have hlt : i < L.length := by simpa using h
    obtain ⟨x, hx⟩ := some_at hlt
    have hy := lk_at hx
    repeat (first | ((with_reducible refine k_move ?_); refine m_move rfl ?_) | ((with_reducible refine k_fieldAddr ?_); (first | refine x_fieldAddr_ptr tbOk rfl rfl rfl rfl ?_ | refine x_fieldAddr_ep tbOk rfl rfl rfl rfl ?_)) | ((with_reducible refine k_load ?_); (first | refine x_load_one tbOk rfl rfl rfl rfl rfl ?_ | refine x_load_ep_one tbOk rfl rfl rfl ?_)) | ((with_reducible refine k_indexAddr ?_); refine x_indexAddr_n tbOk rfl rfl rfl rfl (by assumption) ?_) | ((with_reducible refine k_bin ?_); refine m_binI rfl rfl rfl ?_)  | refine e_drw (by kernel_rfl) ?_ | refine x_none rfl ?_ | with_reducible (first | refine q_then ?_ | refine awp_seq ?_ | refine awp_block ?_ | refine awp_skip ?_) | ((with_reducible refine w_draw mixd ?_ ?_); kernel_rfl))
    refine w_cond rfl (fun h => ?_) (fun h => ?_)
    · rw [if_pos (keyB_mem (i := L.length) hx hlt (by simpa using h) |> fun e => by rwa [List.take_length] at e)]
      repeat (first | ((with_reducible refine k_assign ?_); refine m_assign rfl ?_)  | refine e_nrm ?_ | refine x_none rfl ?_ | with_reducible (first | refine q_then ?_ | refine q_then_ret ?_ | refine q_block_ret ?_ | refine awp_seq ?_ | refine awp_ret ?_) | ((with_reducible refine w_region ?_ ?_); kernel_rfl))
      refine ret0_2 (by first | exact .inr rfl | exact .inl rfl) rfl rfl rfl ?_
      repeat' (first | exact trivial | exact Ren.v _ | exact Ren.sl _ _ | exact Ren.ep _ | exact Ren.ptr _ _ _ _ rfl | exact Ren.bs _ _ _ _ _ rfl | exact Ren.nil _ | exact Ren.own _ _ _ _ ⟨_, rfl⟩ | refine ren_ag ?_ | refine ren_tu ?_ | refine ren_fn ?_ | refine ⟨?_, ?_⟩)
    · have c1' : ¬ x.k = k.k := by simpa using h
      repeat (first | ((with_reducible refine k_move ?_); refine m_move rfl ?_) | ((with_reducible refine k_assign ?_); refine m_assign rfl ?_) | ((with_reducible refine k_bin ?_); refine x_add_in rfl rfl (by omega) ?_)  | refine e_nrm ?_ | refine x_none rfl ?_ | with_reducible (first | refine q_then ?_ | refine q_block ?_ | refine awp_skip ?_) | ((with_reducible refine w_region ?_ ?_); kernel_rfl))
      exact ⟨i + 1, ⟨by omega, by rw [keyB_next hx, hu, decide_eq_false c1']; rfl⟩, by omega, ⟨rfl, rfl, rfl, rfl, trivial⟩, ⟨rfl, rfl, trivial⟩⟩
  obtain rfl : i = L.length := by simp at h; omega
  rw [List.take_length] at hu
  rw [if_neg (by rw [hu]; decide)]
  repeat (first | ((with_reducible refine k_move ?_); refine m_move rfl ?_) | ((with_reducible refine k_fieldAddr ?_); refine x_fieldAddr_ptr tbOk rfl rfl rfl rfl ?_) | ((with_reducible refine k_load ?_); refine x_load_one tbOk rfl rfl rfl rfl rfl ?_)  | refine x_none rfl ?_ | with_reducible (first | refine q_then ?_ | refine q_then_exit ?_ | refine awp_seq ?_ | refine awp_exit ?_) | ((with_reducible refine q_block_exit ?_ ?_); rfl) | ((with_reducible refine w_region ?_ ?_); kernel_rfl))
  refine zC (locked_A L k.d h3) ?_
  repeat (first | ((with_reducible refine k_move ?_); refine m_move rfl ?_) | ((with_reducible refine k_assign ?_); refine m_assign rfl ?_) | ((with_reducible refine k_extract ?_); refine x_extract rfl rfl ?_)  | refine e_nrm ?_ | refine x_none rfl ?_ | with_reducible (first | refine q_then ?_ | refine awp_seq ?_) | ((with_reducible refine w_region ?_ ?_); kernel_rfl))
  refine x_split rfl rfl (fun b1 => ?_) (fun b1 => ?_)
  repeat (first | ((with_reducible refine k_move ?_); refine m_move rfl ?_) | ((with_reducible refine k_fieldAddr ?_); refine x_fieldAddr_ptr tbOk rfl rfl rfl rfl ?_) | ((with_reducible refine k_load ?_); refine x_load_one tbOk rfl rfl rfl rfl rfl ?_) | ((with_reducible refine k_pick ?_); refine m_pickt rfl (by first | rfl | assumption) rfl ?_) | ((with_reducible refine k_bin ?_); refine m_binI rfl rfl rfl ?_)  | refine e_nrm ?_ | refine x_none rfl ?_ | refine x_run_t rfl rfl (by first | rfl | assumption) ?_ | with_reducible refine q_then ?_ )
  refine w_cond rfl (fun h => ?_) (fun h => ?_)
  · rw [if_pos ⟨b1, by simpa using h⟩]
    repeat (first | ((with_reducible refine k_assign ?_); refine m_assign rfl ?_)  | refine e_nrm ?_ | refine x_none rfl ?_ | with_reducible (first | refine q_then ?_ | refine q_then_ret ?_ | refine awp_seq ?_ | refine awp_ret ?_) | ((with_reducible refine w_region ?_ ?_); kernel_rfl))
    refine ret0_2 (by first | exact .inr rfl | exact .inl rfl) rfl rfl rfl ?_
    repeat' (first | exact trivial | exact Ren.v _ | exact Ren.sl _ _ | exact Ren.ep _ | exact Ren.ptr _ _ _ _ rfl | exact Ren.bs _ _ _ _ _ rfl | exact Ren.nil _ | exact Ren.own _ _ _ _ ⟨_, rfl⟩ | refine ren_ag ?_ | refine ren_tu ?_ | refine ren_fn ?_ | refine ⟨?_, ?_⟩)
  have hB : ¬((lockedP L k.d).2 = true ∧ (lockedP L k.d).1 ≠ k.p) := fun e => e.2 (by simpa using h)
  rotate_left
  have hB : ¬((lockedP L k.d).2 = true ∧ (lockedP L k.d).1 ≠ k.p) := fun e => by rw [b1] at e; cases e.1
  all_goals
    rw [if_neg hB]
    repeat (first | ((with_reducible refine k_move ?_); refine m_move rfl ?_) | ((with_reducible refine k_pick ?_); refine m_pickf rfl (by first | rfl | assumption) rfl ?_) | ((with_reducible refine k_call ?_); refine x_len tbOk rfl rfl ?_) | ((with_reducible refine k_bin ?_); refine m_binI rfl rfl rfl ?_)  | refine e_nrm ?_ | refine x_none rfl ?_ | refine x_skip_t rfl rfl (by first | rfl | assumption) ?_ | with_reducible (first | refine q_then ?_ | refine awp_seq ?_ | refine awp_skip ?_) | ((with_reducible refine w_region ?_ ?_); kernel_rfl) | refine w_cond_f rfl (by first | rfl | assumption) ?_)
    refine w_cond rfl (fun h => ?_) (fun h => ?_)
    · rw [if_pos (by simp at h; omega)]
      repeat (first | ((with_reducible refine k_assign ?_); refine m_assign rfl ?_)  | refine e_nrm ?_ | refine x_none rfl ?_ | with_reducible (first | refine q_then ?_ | refine q_then_ret ?_ | refine awp_seq ?_ | refine awp_ret ?_) | ((with_reducible refine w_region ?_ ?_); kernel_rfl))
      refine ret0_2 (by first | exact .inr rfl | exact .inl rfl) rfl rfl rfl ?_
      repeat' (first | exact trivial | exact Ren.v _ | exact Ren.sl _ _ | exact Ren.ep _ | exact Ren.ptr _ _ _ _ rfl | exact Ren.bs _ _ _ _ _ rfl | exact Ren.nil _ | exact Ren.own _ _ _ _ ⟨_, rfl⟩ | refine ren_ag ?_ | refine ren_tu ?_ | refine ren_fn ?_ | refine ⟨?_, ?_⟩)
    have h128 : L.length < 128 := by simp at h; omega
    rw [if_neg (by omega)]
    repeat (first | ((with_reducible refine k_assign ?_); refine m_assign rfl ?_)  | refine e_nrm ?_ | refine x_none rfl ?_ | with_reducible (first | refine q_then ?_ | refine awp_seq ?_ | refine awp_block ?_ | refine awp_skip ?_) | ((with_reducible refine w_region ?_ ?_); kernel_rfl))
    refine awp_loop (ι := Nat) (fun a => a ≤ L.length ∧ lowK k (L.drop a) + a = lowK k L) (fun a => L.length - a) (fun v a => [(1, .sl 3 (L.map Lk.av)), (5, .ptr 5 (v 5) 0), (13, .v (.int .i64 a))]) (fun v a => [(5, .box [.v (.int .i64 k.d), .v (.int .i64 k.p), .v (.int .i64 k.k)])]) ?_ ?_
    · exact ⟨0, ⟨Nat.zero_le _, rfl⟩, trivial, ⟨rfl, rfl, rfl, trivial⟩, ⟨rfl, trivial⟩⟩
    rintro v a ⟨ha, hlo⟩
    repeat (first | ((with_reducible refine k_move ?_); refine m_move rfl ?_) | ((with_reducible refine k_call ?_); refine x_len tbOk rfl rfl ?_) | ((with_reducible refine k_bin ?_); refine m_binI rfl rfl rfl ?_)  | refine x_none rfl ?_ | with_reducible refine awp_seq ?_ | ((with_reducible refine w_draw mixd ?_ ?_); kernel_rfl))
    refine x_split rfl rfl (fun b2 => ?_) (fun b2 => ?_)
    have hlt : a < L.length := by simpa using b2
    obtain ⟨x, hx⟩ := some_at hlt
    have hy := lk_at hx
    rw [lowK_at hx] at hlo
    repeat (first | ((with_reducible refine k_move ?_); refine m_move rfl ?_) | ((with_reducible refine k_load ?_); (first | refine x_load_agg tbOk rfl rfl rfl rfl (Nat.le_of_ble_eq_true rfl) ?_ | refine x_load_ep_agg tbOk rfl rfl (Nat.le_of_ble_eq_true rfl) ?_)) | ((with_reducible refine k_indexAddr ?_); refine x_indexAddr_n tbOk rfl rfl rfl rfl (by assumption) ?_)  | refine x_run_t rfl rfl (by first | rfl | assumption) ?_  )
    refine zC (before_A x k) ?_
    repeat (first | ((with_reducible refine k_pick ?_); refine m_pickt rfl (by first | rfl | assumption) rfl ?_)  | refine e_drw (by kernel_rfl) ?_ | refine x_none rfl ?_ | with_reducible refine q_then ?_ )
    refine w_cond rfl (fun h => ?_) (fun h => ?_)
    · rw [if_pos h] at hlo
      repeat (first | ((with_reducible refine k_move ?_); refine m_move rfl ?_) | ((with_reducible refine k_assign ?_); refine m_assign rfl ?_) | ((with_reducible refine k_bin ?_); refine x_add_in rfl rfl (by omega) ?_)  | refine e_nrm ?_ | refine x_none rfl ?_ | with_reducible (first | refine q_then ?_ | refine q_block ?_ | refine awp_block ?_ | refine awp_skip ?_) | ((with_reducible refine w_region ?_ ?_); kernel_rfl))
      exact ⟨a + 1, ⟨by omega, by omega⟩, by omega, ⟨rfl, rfl, rfl, trivial⟩, ⟨rfl, trivial⟩⟩
    rw [if_neg (by rw [h]; decide)] at hlo
    have hA : a = lowK k L := by omega
    rotate_left
    have hlt : ¬ a < L.length := by simpa using b2
    rw [List.drop_of_length_le (by omega)] at hlo
    have hA : a = lowK k L := by simp only [lowK] at hlo; omega
    all_goals
      rw [← hA]
      have e1 : ((L.map Lk.av).take ((a : Int)).toNat).drop (0 : Int).toNat = (L.take a).map Lk.av := by rw [List.map_take]; rfl
      have e2 : ((L.map Lk.av).take (((L.map Lk.av).length : Int)).toNat).drop ((a : Int)).toNat = (L.drop a).map Lk.av := by
        show ((L.map Lk.av).take (L.map Lk.av).length).drop a = _
        rw [List.take_length, List.map_drop]
      have e3 : (L.take a ++ k :: L.drop a).map Lk.av = (L.take a).map Lk.av ++ [k.av] ++ (L.drop a).map Lk.av := by simp
      rw [e3]
      repeat (first | ((with_reducible refine k_move ?_); refine m_move rfl ?_) | ((with_reducible refine k_pick ?_); refine m_pickf rfl (by first | rfl | assumption) rfl ?_) | ((with_reducible refine k_slice ?_); refine x_slice tbOk rfl rfl rfl rfl rfl (by refine ⟨?_, ?_, ?_⟩ <;> omega) ?_)  | refine e_drw (by kernel_rfl) ?_ | refine x_none rfl ?_ | refine x_skip_t rfl rfl (by first | rfl | assumption) ?_ | with_reducible (first | refine q_then ?_ | refine q_then_exit ?_ | refine awp_seq ?_ | refine awp_exit ?_) | ((with_reducible refine q_block_exit ?_ ?_); rfl) | ((with_reducible refine w_draw mixd ?_ ?_); kernel_rfl) | refine w_cond_f rfl (by first | rfl | assumption) ?_)
      refine x_append_nil (N := (L.take a).map Lk.av) tbOk rfl rfl rfl rfl rfl (by decide) rfl (congrArg (AV.sl 3) e1) rfl (lk_one _) (by simp only [List.length_map, List.length_take]; omega) ?_
      repeat (first | ((with_reducible refine k_load ?_); refine x_load_agg tbOk rfl rfl rfl rfl (Nat.le_of_ble_eq_true rfl) ?_) | ((with_reducible refine k_buildSlice ?_); refine m_buildSlice tbOk rfl rfl rfl rfl rfl (by omega) rfl rfl rfl ?_) | refine x_none rfl ?_  )
      refine x_append_own (N := [k.av]) tbOk rfl rfl rfl rfl rfl (by decide) rfl rfl rfl rfl rfl (lk_one [k]) (by simp only [List.length_map, List.length_take, List.length_cons, List.length_nil]; omega) (by simp only [List.length_map, List.length_take, List.length_cons, List.length_nil]; omega) ?_
      repeat (first | ((with_reducible refine k_move ?_); refine m_move rfl ?_) | ((with_reducible refine k_assign ?_); refine m_assign rfl ?_) | ((with_reducible refine k_slice ?_); refine x_slice tbOk rfl rfl rfl rfl rfl (by refine ⟨?_, ?_, ?_⟩ <;> omega) ?_)  | refine e_drw (by kernel_rfl) ?_ | refine x_none rfl ?_ | with_reducible (first | refine q_then ?_ | refine awp_seq ?_) | ((with_reducible refine w_region ?_ ?_); kernel_rfl))
      refine x_append_own (N := (L.drop a).map Lk.av) tbOk rfl rfl rfl rfl rfl (by decide) rfl rfl rfl (congrArg (AV.sl 3) e2) rfl (lk_one _) (by simp only [List.length_map, List.length_take, List.length_drop, List.length_append, List.length_cons, List.length_nil]; omega) (by simp only [List.length_map, List.length_take, List.length_drop, List.length_append, List.length_cons, List.length_nil]; omega) ?_
      repeat (first | ((with_reducible refine k_assign ?_); refine m_assign rfl ?_)  | refine e_nrm ?_ | refine x_none rfl ?_ | with_reducible (first | refine q_then ?_ | refine awp_ret ?_) )
      refine ret0_2 (by first | exact .inr rfl | exact .inl rfl) rfl rfl rfl ?_
      repeat' (first | exact trivial | exact Ren.v _ | exact Ren.sl _ _ | exact Ren.ep _ | exact Ren.ptr _ _ _ _ rfl | exact Ren.bs _ _ _ _ _ rfl | exact Ren.nil _ | exact Ren.own _ _ _ _ ⟨_, rfl⟩ | refine ren_ag ?_ | refine ren_tu ?_ | refine ren_fn ?_ | refine ⟨?_, ?_⟩)
theorem ret1_1 {TB : Tabs} {σ : AS} {fn : Func} {r : AV} {e : Exit} {t1 k : Nat} {y : AV} {c c' : List AV} (he : e = .normal ∨ e = .ret) (hfn : fn.results = #[.tmp t1]) (h1 : vf (σ.T t1) = some y) (hr : Ren (bufs σ) (frameπ 1 []) r y) (hH : σ.H (refB + 0) = ⟨k, .box c'⟩) (hk : k = 0) (hc : RenL (bufs σ) (frameπ 1 []) c c') : RetQ TB fn 1 r [c] e σ := by
  refine ret1 he (xs := [σ.T t1]) ?_ (by rw [vf_eq h1]; exact hr) hH hk hc
  rw [hfn]
  exact ⟨.tmp t1, trivial⟩
def posS (S : List Int) (d : Int) : Int := match S[d.toNat]? with
  | some p => p
  | none => 1
def lkN (S : List Int) (i : Nat) (D : Dk) (n : Int) : Lk := ⟨D.next.val n, posS S (D.next.val n), 10 + 3 * (i : Int) + D.next.next.val 3⟩
def lockS (N : List Nd) (V : List Dv) (S : List Int) (i : Nat) (D : Dk) (L : List Lk) : Dk × List Lk :=
  if D.val 3 = 0 then (D.next, L) else (D.next.next.next, if (addK N V L (lkN S i D V.length)).2 = 0 then (addK N V L (lkN S i D V.length)).1 else L)
def locksP (N : List Nd) (V : List Dv) (S : List Int) : Nat → Nat → Dk → List Lk → Dk × List Lk
  | 0, _, D, L => (D, L)
  | m + 1, i, D, L => locksP N V S m (i + 1) (lockS N V S i D L).1 (lockS N V S i D L).2
theorem addK_len (N : List Nd) (V : List Dv) (L : List Lk) (k : Lk) : (addK N V L k).1.length ≤ L.length + 1 := by
  unfold addK
  split
  · simp
  split
  · simp
  split
  · simp
  split
  · simp
  split
  · simp
  · have := lowK_le k L
    simp; omega
theorem lockS_ok {N : List Nd} {V : List Dv} {S : List Int} {i : Nat} {D : Dk} {L : List Lk} (h : LkOk V L) : LkOk V (lockS N V S i D L).2 ∧ (lockS N V S i D L).2.length ≤ L.length + 1 := by
  unfold lockS
  split
  · exact ⟨h, by show L.length ≤ _; omega⟩
  · dsimp only
    split
    · rename_i c
      exact ⟨(addK_ok h c).1, addK_len _ _ _ _⟩
    · exact ⟨h, by omega⟩
theorem locksP_ok {N : List Nd} {V : List Dv} {S : List Int} : ∀ (m i : Nat) (D : Dk) (L : List Lk), LkOk V L → LkOk V (locksP N V S m i D L).2 ∧ (locksP N V S m i D L).2.length ≤ L.length + m
  | 0, _, _, L, h => ⟨h, Nat.le_refl _⟩
  | m + 1, i, D, L, h => by
    obtain ⟨a, b⟩ := lockS_ok (N := N) (S := S) (i := i) (D := D) h
    obtain ⟨c, d⟩ := locksP_ok (N := N) (S := S) m (i + 1) (lockS N V S i D L).1 _ a
    exact ⟨c, by show (locksP N V S m (i + 1) (lockS N V S i D L).1 (lockS N V S i D L).2).2.length ≤ _; omega⟩
end Go.Proofs.YtamihjgfncjdoaaDoor
