/- register.Find, register.Can and their references, by the abstract machine; conditions: the table of classes stands. -/
import Derived.Test.YtggagmafkdhjcaaGreatDoorRgB
set_option linter.unusedVariables false
set_option linter.unusedSimpArgs false
namespace Go.Proofs.YtggagmafkdhjcaaGreatDoor
open Go Go.RowKit
set_option maxRecDepth 10000
variable {G : Nat → Option (List Value)}
theorem check_len {E : Per → Int} {L : List Per} (h : pcheckE E L = 0) : L.length ≤ 64 := by
  unfold pcheckE at h
  split at h
  · cases h
  · omega
theorem find_A (L : List Per) (nm : ByteArray) (hG : GCls G) (hs : ∀ p ∈ L, p.n.size ≤ maxLen) (hm : L.length ≤ maxLen) :
    ACalls Tryz.prog G 18 [.ag [.sl 5 (L.map Per.av)], .v (.string nm)] [] (.v (.int .i64 (findI pvalidE L nm))) [] := by
  refine acalls_of tbOk (enter_of Tryz.func18 (by kernel_rfl) rfl) Tryz.func18 rfl _ Tryz.ntmps18 (Nat.le_of_ble_eq_true rfl) fun X hX => ?_
  subst hX
  repeat (first | ((with_reducible refine k_assign ?_); refine m_assign rfl ?_) | ((with_reducible refine k_load ?_); refine x_load_agg tbOk rfl rfl rfl rfl (Nat.le_of_ble_eq_true rfl) ?_) | ((with_reducible refine k_box ?_); refine m_box rfl rfl rfl ?_)  | refine e_nrm ?_ | refine x_none rfl ?_ | with_reducible (first | refine q_then ?_ | refine awp_seq ?_) | ((with_reducible refine w_region ?_ ?_); kernel_rfl))
  with_reducible refine k_call ?_
  refine zC (check_A L hG hs hm) ?_
  repeat (first | ((with_reducible refine k_bin ?_); refine m_binI rfl rfl rfl ?_)  | refine e_nrm ?_ | refine x_none rfl ?_ | with_reducible refine q_then ?_ )
  refine w_cond rfl (fun h => ?_) (fun h => ?_)
  · repeat (first | ((with_reducible refine k_assign ?_); refine m_assign rfl ?_)  | refine e_nrm ?_ | refine x_none rfl ?_ | with_reducible (first | refine q_then ?_ | refine q_then_ret ?_ | refine awp_seq ?_ | refine awp_ret ?_) | ((with_reducible refine w_region ?_ ?_); kernel_rfl))
    refine ret_v (by first | exact .inr rfl | exact .inl rfl) rfl rfl ?_
    unfold findI
    rw [if_neg (by simpa using h)]
  · have h0 : pcheckE pvalidE L = 0 := by simpa using h
    have hl := check_len h0
    repeat (first | ((with_reducible refine k_move ?_); refine m_move rfl ?_) | ((with_reducible refine k_load ?_); refine x_load_agg tbOk rfl rfl rfl rfl (Nat.le_of_ble_eq_true rfl) ?_)  | refine x_none rfl ?_ | with_reducible (first | refine q_then ?_ | refine awp_seq ?_ | refine awp_skip ?_) | ((with_reducible refine w_region ?_ ?_); kernel_rfl))
    with_reducible refine k_call ?_
    refine zC (index_A L nm (by omega)) ?_
    repeat (first | ((with_reducible refine k_assign ?_); refine m_assign rfl ?_)  | refine e_nrm ?_ | refine x_none rfl ?_ | with_reducible (first | refine q_then ?_ | refine awp_ret ?_) )
    refine ret_v (by first | exact .inr rfl | exact .inl rfl) rfl rfl ?_
    unfold findI
    rw [if_pos h0]
set_option maxHeartbeats 1000000 in
theorem rfind_A (L : List Per) (nm : ByteArray) (hG : GCls G) (hs : ∀ p ∈ L, p.n.size ≤ maxLen) (hm : L.length ≤ maxLen) :
    ACalls Tryz.prog G 19 [.ag [.sl 5 (L.map Per.av)], .v (.string nm)] [] (.v (.int .i64 (findI pfaultE L nm))) [] := by
  refine acalls_of tbOk (enter_of Tryz.func19 (by kernel_rfl) rfl) Tryz.func19 rfl _ Tryz.ntmps19 (Nat.le_of_ble_eq_true rfl) fun X hX => ?_
  subst hX
  repeat (first | ((with_reducible refine k_assign ?_); refine m_assign rfl ?_) | ((with_reducible refine k_load ?_); refine x_load_agg tbOk rfl rfl rfl rfl (Nat.le_of_ble_eq_true rfl) ?_) | ((with_reducible refine k_box ?_); refine m_box rfl rfl rfl ?_)  | refine e_nrm ?_ | refine x_none rfl ?_ | with_reducible (first | refine q_then ?_ | refine awp_seq ?_) | ((with_reducible refine w_region ?_ ?_); kernel_rfl))
  with_reducible refine k_call ?_
  refine zC (rcheck_A L hG hs hm) ?_
  repeat (first | ((with_reducible refine k_bin ?_); refine m_binI rfl rfl rfl ?_)  | refine e_nrm ?_ | refine x_none rfl ?_ | with_reducible refine q_then ?_ )
  refine w_cond rfl (fun h => ?_) (fun h => ?_)
  · repeat (first | ((with_reducible refine k_assign ?_); refine m_assign rfl ?_)  | refine e_nrm ?_ | refine x_none rfl ?_ | with_reducible (first | refine q_then ?_ | refine q_then_ret ?_ | refine awp_seq ?_ | refine awp_ret ?_) | ((with_reducible refine w_region ?_ ?_); kernel_rfl))
    refine ret_v (by first | exact .inr rfl | exact .inl rfl) rfl rfl ?_
    unfold findI
    rw [if_neg (by simpa using h)]
  · have h0 : pcheckE pfaultE L = 0 := by simpa using h
    have hl := check_len h0
    unfold findI
    rw [if_pos h0]
    repeat (first | ((with_reducible refine k_assign ?_); refine m_assign rfl ?_)  | refine e_nrm ?_ | refine x_none rfl ?_ | with_reducible (first | refine q_then ?_ | refine awp_seq ?_ | refine awp_block ?_ | refine awp_skip ?_) | ((with_reducible refine w_region ?_ ?_); kernel_rfl))
    refine awp_loop (ι := Nat) (fun k => k ≤ L.length ∧ idxP nm (L.drop k) k = idxP nm L 0) (fun k => L.length - k) (fun v k => [(1, .v (.string nm)), (2, .ptr 2 (v 2) 0), (5, .v (.int .i64 k))]) (fun v k => [(2, .box [.sl 5 (L.map Per.av)])]) ?_ ?_
    · exact ⟨0, ⟨Nat.zero_le _, rfl⟩, trivial, ⟨rfl, rfl, rfl, trivial⟩, ⟨rfl, trivial⟩⟩
    · rintro v k ⟨hk, hf⟩
      repeat (first | ((with_reducible refine k_move ?_); refine m_move rfl ?_) | ((with_reducible refine k_fieldAddr ?_); refine x_fieldAddr_ptr tbOk rfl rfl rfl rfl ?_) | ((with_reducible refine k_load ?_); refine x_load_one tbOk rfl rfl rfl rfl rfl ?_) | ((with_reducible refine k_call ?_); refine x_len tbOk rfl rfl ?_) | ((with_reducible refine k_bin ?_); refine m_binI rfl rfl rfl ?_)  | refine e_nrm ?_ | refine x_none rfl ?_ | with_reducible (first | refine q_then ?_ | refine awp_seq ?_) | ((with_reducible refine w_region ?_ ?_); kernel_rfl))
      refine w_cond rfl (fun h => ?_) (fun h => ?_)
      · have hlt : k < L.length := by simpa using h
        obtain ⟨p, hx⟩ := some_at hlt
        have hy : (L.map Per.av)[k]? = some p.av := by rw [List.getElem?_map, hx]; rfl
        rw [idx_at hx] at hf
        repeat (first | ((with_reducible refine k_move ?_); refine m_move rfl ?_) | ((with_reducible refine k_fieldAddr ?_); (first | refine x_fieldAddr_ptr tbOk rfl rfl rfl rfl ?_ | refine x_fieldAddr_ep tbOk rfl rfl rfl rfl ?_)) | ((with_reducible refine k_load ?_); (first | refine x_load_one tbOk rfl rfl rfl rfl rfl ?_ | refine x_load_ep_one tbOk rfl rfl rfl ?_)) | ((with_reducible refine k_indexAddr ?_); refine x_indexAddr_n tbOk rfl rfl rfl rfl (by assumption) ?_) | ((with_reducible refine k_bin ?_); refine m_binS rfl rfl rfl ?_)  | refine e_nrm ?_ | refine x_none rfl ?_ | with_reducible (first | refine q_then ?_ | refine awp_seq ?_ | refine awp_block ?_ | refine awp_skip ?_) | ((with_reducible refine w_region ?_ ?_); kernel_rfl))
        refine w_cond rfl (fun hc => ?_) (fun hc => ?_)
        · repeat (first | ((with_reducible refine k_move ?_); refine m_move rfl ?_) | ((with_reducible refine k_assign ?_); refine m_assign rfl ?_)  | refine e_nrm ?_ | refine x_none rfl ?_ | with_reducible (first | refine q_then ?_ | refine q_then_ret ?_ | refine q_block_ret ?_ | refine awp_seq ?_ | refine awp_ret ?_) | ((with_reducible refine w_region ?_ ?_); kernel_rfl))
          refine ret_v (by first | exact .inr rfl | exact .inl rfl) rfl rfl ?_
          have hc' : nameIs nm p = true := hc
          rw [if_pos hc'] at hf
          rw [← hf]
        · repeat (first | ((with_reducible refine k_move ?_); refine m_move rfl ?_) | ((with_reducible refine k_assign ?_); refine m_assign rfl ?_) | ((with_reducible refine k_bin ?_); refine x_add_in rfl rfl (by omega) ?_)  | refine e_nrm ?_ | refine x_none rfl ?_ | with_reducible (first | refine q_then ?_ | refine q_block ?_ | refine awp_skip ?_) | ((with_reducible refine w_region ?_ ?_); kernel_rfl))
          have hc' : nameIs nm p = false := hc
          rw [if_neg (by simp [hc'])] at hf
          exact ⟨k + 1, ⟨by omega, hf⟩, by omega, ⟨rfl, rfl, rfl, trivial⟩, ⟨rfl, trivial⟩⟩
      · have hlt : ¬ k < L.length := by simpa using h
        repeat (first | ((with_reducible refine k_assign ?_); refine m_assign rfl ?_)  | refine e_nrm ?_ | refine x_none rfl ?_ | with_reducible (first | refine q_then ?_ | refine q_then_exit ?_ | refine awp_seq ?_ | refine awp_exit ?_ | refine awp_ret ?_) | ((with_reducible refine q_block_exit ?_ ?_); rfl) | ((with_reducible refine w_region ?_ ?_); kernel_rfl))
        refine ret_v (by first | exact .inr rfl | exact .inl rfl) rfl rfl ?_
        rw [List.drop_of_length_le (by omega)] at hf
        rw [← hf]; rfl
set_option maxHeartbeats 1000000 in
theorem can_A (L : List Per) (nm : ByteArray) (sk t : Int) (hG : GCls G) (hs : ∀ p ∈ L, p.n.size ≤ maxLen) (hm : L.length ≤ maxLen) (hsk : I64 sk) :
    ACalls Tryz.prog G 20 [.ag [.sl 5 (L.map Per.av)], .v (.string nm), .v (.int .i64 sk), .v (.int .i64 t)] [] (.v (.bool (canB pvalidE L nm sk t))) [] := by
  have hm2 : L.length ≤ 9223372036854775807 := by unfold maxLen at hm; omega
  have hc := find_A (G := G) L nm hG hs hm
  unfold canB
  rcases find_range pvalidE L nm with hr | ⟨j, hr, hj⟩
  · rw [hr] at hc
    rw [hr, if_pos (.inl (by omega))]
    refine acalls_of tbOk (enter_of Tryz.func20 (by kernel_rfl) rfl) Tryz.func20 rfl _ Tryz.ntmps20 (Nat.le_of_ble_eq_true rfl) fun X hX => ?_
    subst hX
    repeat (first | ((with_reducible refine k_move ?_); refine m_move rfl ?_) | ((with_reducible refine k_assign ?_); refine m_assign rfl ?_) | ((with_reducible refine k_load ?_); refine x_load_agg tbOk rfl rfl rfl rfl (Nat.le_of_ble_eq_true rfl) ?_) | ((with_reducible refine k_box ?_); refine m_box rfl rfl rfl ?_)  | refine e_nrm ?_ | refine x_none rfl ?_ | with_reducible (first | refine q_then ?_ | refine awp_seq ?_) | ((with_reducible refine w_region ?_ ?_); kernel_rfl))
    with_reducible refine k_call ?_
    refine zC (hc) ?_
    repeat' (first | ((with_reducible refine k_move ?_); refine m_move rfl ?_) | ((with_reducible refine k_assign ?_); refine m_assign rfl ?_) | ((with_reducible refine k_pick ?_); refine m_pickt rfl (by first | rfl | assumption) rfl ?_) | ((with_reducible refine k_bin ?_); refine m_binI rfl rfl rfl ?_)  | refine e_nrm ?_ | refine x_none rfl ?_ | refine x_skip_f rfl rfl (by first | rfl | assumption) ?_ | with_reducible (first | refine q_then ?_ | refine q_then_ret ?_ | refine awp_seq ?_ | refine awp_ret ?_) | ((with_reducible refine w_region ?_ ?_); kernel_rfl) | refine w_cond_t rfl (by first | rfl | assumption) ?_ | refine x_split rfl rfl (fun _ => ?_) (fun _ => ?_) | refine w_cond rfl (fun _ => ?_) (fun _ => ?_))
    all_goals first
      | (exfalso; rename_i h; simp at h; done)
      | (refine ret_v (by first | exact .inr rfl | exact .inl rfl) rfl rfl ?_; rfl)
  · rw [hr] at hc
    obtain ⟨p, hx⟩ := some_at hj
    have hy : (L.map Per.av)[j]? = some p.av := by rw [List.getElem?_map, hx]; rfl
    have ej : ((j : Nat) : Int).toNat = j := by omega
    rw [hr, ej, hx]
    simp only
    have ha := andNot31_iff hsk
    refine acalls_of tbOk (enter_of Tryz.func20 (by kernel_rfl) rfl) Tryz.func20 rfl _ Tryz.ntmps20 (Nat.le_of_ble_eq_true rfl) fun X hX => ?_
    subst hX
    repeat (first | ((with_reducible refine k_move ?_); refine m_move rfl ?_) | ((with_reducible refine k_assign ?_); refine m_assign rfl ?_) | ((with_reducible refine k_load ?_); refine x_load_agg tbOk rfl rfl rfl rfl (Nat.le_of_ble_eq_true rfl) ?_) | ((with_reducible refine k_box ?_); refine m_box rfl rfl rfl ?_)  | refine e_nrm ?_ | refine x_none rfl ?_ | with_reducible (first | refine q_then ?_ | refine awp_seq ?_) | ((with_reducible refine w_region ?_ ?_); kernel_rfl))
    with_reducible refine k_call ?_
    refine zC (hc) ?_
    repeat' (first | ((with_reducible refine k_move ?_); refine m_move rfl ?_) | ((with_reducible refine k_assign ?_); refine m_assign rfl ?_) | ((with_reducible refine k_fieldAddr ?_); refine x_fieldAddr_ptr tbOk rfl rfl rfl rfl ?_) | ((with_reducible refine k_load ?_); (first | refine x_load_one tbOk rfl rfl rfl rfl rfl ?_ | refine x_load_ep_agg tbOk rfl rfl (Nat.le_of_ble_eq_true rfl) ?_)) | ((with_reducible refine k_store ?_); refine m_store tbOk rfl rfl rfl rfl rfl rfl rfl (Nat.le_of_ble_eq_true rfl) rfl ?_) | ((with_reducible refine k_alloc ?_); refine x_alloc tbOk rfl rfl ?_) | ((with_reducible refine k_pick ?_); (first | refine m_pickt rfl (by first | rfl | assumption) rfl ?_ | refine m_pickf rfl (by first | rfl | assumption) rfl ?_)) | ((with_reducible refine k_indexAddr ?_); refine x_indexAddr_n tbOk rfl rfl rfl rfl (by assumption) ?_) | ((with_reducible refine k_bin ?_); refine m_binI rfl rfl rfl ?_)  | refine e_nrm ?_ | refine x_none rfl ?_ | refine x_run_t rfl rfl (by first | rfl | assumption) ?_ | refine x_skip_t rfl rfl (by first | rfl | assumption) ?_ | refine x_run_f rfl rfl (by first | rfl | assumption) ?_ | refine x_skip_f rfl rfl (by first | rfl | assumption) ?_ | with_reducible (first | refine q_then ?_ | refine q_then_ret ?_ | refine awp_seq ?_ | refine awp_skip ?_ | refine awp_ret ?_) | ((with_reducible refine w_region ?_ ?_); kernel_rfl) | refine w_cond_t rfl (by first | rfl | assumption) ?_ | refine x_split rfl rfl (fun _ => ?_) (fun _ => ?_) | refine w_cond rfl (fun _ => ?_) (fun _ => ?_))
    all_goals refine ret_v (by first | exact .inr rfl | exact .inl rfl) rfl rfl ?_
    all_goals refine congrArg (fun b => AV.v (.bool b)) ?_
    all_goals clear hc hx hy hr ej
    all_goals split
    all_goals first
      | rfl
      | (simp_all; done)
      | (simp_all; omega)
      | (simp_all; intros; omega)
      | (exfalso; simp_all; omega)
set_option maxHeartbeats 1000000 in
theorem rcan_A (L : List Per) (nm : ByteArray) (sk t : Int) (hG : GCls G) (hs : ∀ p ∈ L, p.n.size ≤ maxLen) (hm : L.length ≤ maxLen) (hsk : I64 sk) :
    ACalls Tryz.prog G 21 [.ag [.sl 5 (L.map Per.av)], .v (.string nm), .v (.int .i64 sk), .v (.int .i64 t)] [] (.v (.bool (canB pfaultE L nm sk t))) [] := by
  have hm2 : L.length ≤ 9223372036854775807 := by unfold maxLen at hm; omega
  have hc := rfind_A (G := G) L nm hG hs hm
  unfold canB
  rcases find_range pfaultE L nm with hr | ⟨j, hr, hj⟩
  · rw [hr] at hc
    rw [hr, if_pos (.inl (by omega))]
    refine acalls_of tbOk (enter_of Tryz.func21 (by kernel_rfl) rfl) Tryz.func21 rfl _ Tryz.ntmps21 (Nat.le_of_ble_eq_true rfl) fun X hX => ?_
    subst hX
    repeat (first | ((with_reducible refine k_move ?_); refine m_move rfl ?_) | ((with_reducible refine k_assign ?_); refine m_assign rfl ?_) | ((with_reducible refine k_load ?_); refine x_load_agg tbOk rfl rfl rfl rfl (Nat.le_of_ble_eq_true rfl) ?_) | ((with_reducible refine k_box ?_); refine m_box rfl rfl rfl ?_)  | refine e_nrm ?_ | refine x_none rfl ?_ | with_reducible (first | refine q_then ?_ | refine awp_seq ?_) | ((with_reducible refine w_region ?_ ?_); kernel_rfl))
    with_reducible refine k_call ?_
    refine zC (hc) ?_
    repeat' (first | ((with_reducible refine k_move ?_); refine m_move rfl ?_) | ((with_reducible refine k_assign ?_); refine m_assign rfl ?_) | ((with_reducible refine k_pick ?_); refine m_pickt rfl (by first | rfl | assumption) rfl ?_) | ((with_reducible refine k_bin ?_); refine m_binI rfl rfl rfl ?_)  | refine e_nrm ?_ | refine x_none rfl ?_ | refine x_skip_f rfl rfl (by first | rfl | assumption) ?_ | with_reducible (first | refine q_then ?_ | refine q_then_ret ?_ | refine awp_seq ?_ | refine awp_ret ?_) | ((with_reducible refine w_region ?_ ?_); kernel_rfl) | refine w_cond_t rfl (by first | rfl | assumption) ?_ | refine x_split rfl rfl (fun _ => ?_) (fun _ => ?_) | refine w_cond rfl (fun _ => ?_) (fun _ => ?_))
    all_goals first
      | (exfalso; rename_i h; simp at h; done)
      | (refine ret_v (by first | exact .inr rfl | exact .inl rfl) rfl rfl ?_; rfl)
  · rw [hr] at hc
    obtain ⟨p, hx⟩ := some_at hj
    have hy : (L.map Per.av)[j]? = some p.av := by rw [List.getElem?_map, hx]; rfl
    have ej : ((j : Nat) : Int).toNat = j := by omega
    rw [hr, ej, hx]
    simp only
    skip
    refine acalls_of tbOk (enter_of Tryz.func21 (by kernel_rfl) rfl) Tryz.func21 rfl _ Tryz.ntmps21 (Nat.le_of_ble_eq_true rfl) fun X hX => ?_
    subst hX
    repeat (first | ((with_reducible refine k_move ?_); refine m_move rfl ?_) | ((with_reducible refine k_assign ?_); refine m_assign rfl ?_) | ((with_reducible refine k_load ?_); refine x_load_agg tbOk rfl rfl rfl rfl (Nat.le_of_ble_eq_true rfl) ?_) | ((with_reducible refine k_box ?_); refine m_box rfl rfl rfl ?_)  | refine e_nrm ?_ | refine x_none rfl ?_ | with_reducible (first | refine q_then ?_ | refine awp_seq ?_) | ((with_reducible refine w_region ?_ ?_); kernel_rfl))
    with_reducible refine k_call ?_
    refine zC (hc) ?_
    repeat' (first | ((with_reducible refine k_move ?_); refine m_move rfl ?_) | ((with_reducible refine k_assign ?_); refine m_assign rfl ?_) | ((with_reducible refine k_fieldAddr ?_); refine x_fieldAddr_ptr tbOk rfl rfl rfl rfl ?_) | ((with_reducible refine k_load ?_); (first | refine x_load_one tbOk rfl rfl rfl rfl rfl ?_ | refine x_load_ep_agg tbOk rfl rfl (Nat.le_of_ble_eq_true rfl) ?_)) | ((with_reducible refine k_store ?_); refine m_store tbOk rfl rfl rfl rfl rfl rfl rfl (Nat.le_of_ble_eq_true rfl) rfl ?_) | ((with_reducible refine k_alloc ?_); refine x_alloc tbOk rfl rfl ?_) | ((with_reducible refine k_pick ?_); (first | refine m_pickt rfl (by first | rfl | assumption) rfl ?_ | refine m_pickf rfl (by first | rfl | assumption) rfl ?_)) | ((with_reducible refine k_indexAddr ?_); refine x_indexAddr_n tbOk rfl rfl rfl rfl (by assumption) ?_) | ((with_reducible refine k_bin ?_); refine m_binI rfl rfl rfl ?_)  | refine e_nrm ?_ | refine x_none rfl ?_ | refine x_run_t rfl rfl (by first | rfl | assumption) ?_ | refine x_skip_t rfl rfl (by first | rfl | assumption) ?_ | refine x_run_f rfl rfl (by first | rfl | assumption) ?_ | refine x_skip_f rfl rfl (by first | rfl | assumption) ?_ | with_reducible (first | refine q_then ?_ | refine q_then_ret ?_ | refine awp_seq ?_ | refine awp_skip ?_ | refine awp_ret ?_) | ((with_reducible refine w_region ?_ ?_); kernel_rfl) | refine w_cond_t rfl (by first | rfl | assumption) ?_ | refine x_split rfl rfl (fun _ => ?_) (fun _ => ?_) | refine w_cond rfl (fun _ => ?_) (fun _ => ?_))
    all_goals refine ret_v (by first | exact .inr rfl | exact .inl rfl) rfl rfl ?_
    all_goals refine congrArg (fun b => AV.v (.bool b)) ?_
    all_goals clear hc hx hy hr ej
    all_goals split
    all_goals first
      | rfl
      | (simp_all; done)
      | (simp_all; omega)
      | (simp_all; intros; omega)
      | (exfalso; simp_all; omega)
end Go.Proofs.YtggagmafkdhjcaaGreatDoor
