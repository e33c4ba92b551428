/- permitofficeref14: fault, before, Check, Locked, by the abstract machine; conditions: none. -/
import Derived.Test.YtamihjgfncjdoaaDoorAbsX
import Derived.Test.YtamihjgfncjdoaaDoorNetB
import Derived.Test.YtamihjgfncjdoaaDoorNetC
import Derived.Test.YtamihjgfncjdoaaDoorLcP
import Derived.Test.YtamihjgfncjdoaaDoorDkA
set_option linter.unusedVariables false
set_option linter.unusedSimpArgs false
namespace Go.Proofs.YtamihjgfncjdoaaDoor
open Go Go.RowKit
set_option maxRecDepth 10000
variable {G : Nat → Option (List Value)}
def Lk.av (k : Lk) : AV := .ag [.v (.int .i64 k.d), .v (.int .i64 k.p), .v (.int .i64 k.k)]
def netAV (N : List Nd) (V : List Dv) : AV := .ag [.sl 3 (N.map Nd.av), .sl 5 (V.map Dv.av)]
theorem dv_at {V : List Dv} {k : Nat} {x : Dv} (h : V[k]? = some x) : (V.map Dv.av)[k]? = some x.av := by rw [List.getElem?_map, h]; rfl
theorem lk_at {L : List Lk} {k : Nat} {x : Lk} (h : L[k]? = some x) : (L.map Lk.av)[k]? = some x.av := by rw [List.getElem?_map, h]; rfl
set_option maxHeartbeats 1000000 in
theorem fault_A (N : List Nd) (V : List Dv) (k : Lk) : ACalls Tryd.prog G 44 [netAV N V, k.av] [] (.v (.int .i64 (faultE V k))) [] := by
  refine acalls_of tbOk (enter_of Tryd.func44 (by kernel_rfl) rfl) Tryd.func44 rfl _ Tryd.ntmps44 (Nat.le_of_ble_eq_true rfl) fun X hX => ?_
  subst hX
  repeat (first | ((with_reducible refine k_move ?_); refine m_move rfl ?_) | ((with_reducible refine k_assign ?_); refine m_assign rfl ?_) | ((with_reducible refine k_fieldAddr ?_); refine x_fieldAddr_ptr tbOk rfl rfl rfl rfl ?_) | ((with_reducible refine k_load ?_); refine x_load_one tbOk rfl rfl rfl rfl rfl ?_) | ((with_reducible refine k_box ?_); refine m_box rfl rfl rfl ?_) | ((with_reducible refine k_bin ?_); refine m_binI rfl rfl rfl ?_)  | refine e_nrm ?_ | refine x_none rfl ?_ | with_reducible (first | refine q_then ?_ | refine awp_seq ?_) | ((with_reducible refine w_region ?_ ?_); kernel_rfl))
  refine x_split rfl rfl (fun h => ?_) (fun h => ?_)
  · have h0 : k.d < 0 := by simpa using h
    have e : faultE V k = 8 := by unfold faultE; rw [if_pos (.inl h0)]
    rw [e]
    repeat (first | ((with_reducible refine k_assign ?_); refine m_assign rfl ?_) | ((with_reducible refine k_pick ?_); refine m_pickt rfl (by first | rfl | assumption) rfl ?_)  | refine e_nrm ?_ | refine x_none rfl ?_ | refine x_skip_f rfl rfl (by first | rfl | assumption) ?_ | with_reducible (first | refine q_then ?_ | refine q_then_ret ?_ | refine awp_seq ?_ | refine awp_ret ?_) | ((with_reducible refine w_region ?_ ?_); kernel_rfl) | refine w_cond_t rfl (by first | rfl | assumption) ?_)
    refine ret_v (by first | exact .inr rfl | exact .inl rfl) rfl rfl ?_
    rfl
  have h0 : ¬ k.d < 0 := by simpa using h
  repeat (first | ((with_reducible refine k_fieldAddr ?_); refine x_fieldAddr_ptr tbOk rfl rfl rfl rfl ?_) | ((with_reducible refine k_load ?_); refine x_load_one tbOk rfl rfl rfl rfl rfl ?_) | ((with_reducible refine k_pick ?_); refine m_pickf rfl (by first | rfl | assumption) rfl ?_) | ((with_reducible refine k_call ?_); refine x_len tbOk rfl rfl ?_) | ((with_reducible refine k_bin ?_); refine m_binI rfl rfl rfl ?_)  | refine e_nrm ?_ | refine x_none rfl ?_ | refine x_run_f rfl rfl (by first | rfl | assumption) ?_ | with_reducible refine q_then ?_ )
  refine w_cond rfl (fun h => ?_) (fun h => ?_)
  · have h1 : (V.length : Int) ≤ k.d := by simpa using h
    have e : faultE V k = 8 := by unfold faultE; rw [if_pos (.inr h1)]
    rw [e]
    repeat (first | ((with_reducible refine k_assign ?_); refine m_assign rfl ?_)  | refine e_nrm ?_ | refine x_none rfl ?_ | with_reducible (first | refine q_then ?_ | refine q_then_ret ?_ | refine awp_seq ?_ | refine awp_ret ?_) | ((with_reducible refine w_region ?_ ?_); kernel_rfl))
    refine ret_v (by first | exact .inr rfl | exact .inl rfl) rfl rfl ?_
    rfl
  · have h1 : ¬ (V.length : Int) ≤ k.d := by simpa using h
    obtain ⟨x, hx⟩ := some_at (L := V) (k := k.d.toNat) (by omega)
    have hy := dv_at hx
    have eK : kindAt V k.d = x.k := by unfold kindAt; rw [hx]
    have e : faultE V k = if x.k = 5 then 6 else if k.p ≠ 1 ∧ k.p ≠ 2 then 10 else if k.k < 0 ∨ 65536 < k.k then 5 else 0 := by unfold faultE; rw [if_neg (by omega), eK]
    rw [e]
    repeat (first | ((with_reducible refine k_fieldAddr ?_); (first | refine x_fieldAddr_ptr tbOk rfl rfl rfl rfl ?_ | refine x_fieldAddr_ep tbOk rfl rfl rfl rfl ?_)) | ((with_reducible refine k_load ?_); (first | refine x_load_one tbOk rfl rfl rfl rfl rfl ?_ | refine x_load_ep_one tbOk rfl rfl rfl ?_)) | ((with_reducible refine k_indexAddr ?_); refine x_indexAddr tbOk rfl rfl rfl rfl (by omega) (by assumption) ?_) | ((with_reducible refine k_bin ?_); refine m_binI rfl rfl rfl ?_)  | refine e_nrm ?_ | refine x_none rfl ?_ | with_reducible (first | refine q_then ?_ | refine awp_seq ?_ | refine awp_skip ?_) | ((with_reducible refine w_region ?_ ?_); kernel_rfl))
    refine w_cond rfl (fun h => ?_) (fun h => ?_)
    · rw [if_pos (by simpa using h)]
      repeat (first | ((with_reducible refine k_assign ?_); refine m_assign rfl ?_)  | refine e_nrm ?_ | refine x_none rfl ?_ | with_reducible (first | refine q_then ?_ | refine q_then_ret ?_ | refine awp_seq ?_ | refine awp_ret ?_) | ((with_reducible refine w_region ?_ ?_); kernel_rfl))
      refine ret_v (by first | exact .inr rfl | exact .inl rfl) rfl rfl ?_
      rfl
    · rw [if_neg (by simpa using h)]
      by_cases p1 : k.p = 1
      · have b1 : (k.p != 1) = false := by simpa using p1
        rw [if_neg (by omega)]
        repeat (first | ((with_reducible refine k_move ?_); refine m_move rfl ?_) | ((with_reducible refine k_fieldAddr ?_); refine x_fieldAddr_ptr tbOk rfl rfl rfl rfl ?_) | ((with_reducible refine k_load ?_); refine x_load_one tbOk rfl rfl rfl rfl rfl ?_) | ((with_reducible refine k_pick ?_); refine m_pickf rfl (by first | rfl | assumption) rfl ?_) | ((with_reducible refine k_bin ?_); refine m_binI rfl rfl rfl ?_)  | refine e_nrm ?_ | refine x_none rfl ?_ | refine x_skip_t rfl rfl (by first | rfl | assumption) ?_ | with_reducible (first | refine q_then ?_ | refine awp_seq ?_ | refine awp_skip ?_) | ((with_reducible refine w_region ?_ ?_); kernel_rfl) | refine w_cond_f rfl (by first | rfl | assumption) ?_)
        by_cases k0 : k.k < 0
        · have b2 : decide (k.k < 0) = true := by simpa using k0
          rw [if_pos (.inl k0)]
          repeat (first | ((with_reducible refine k_assign ?_); refine m_assign rfl ?_) | ((with_reducible refine k_pick ?_); refine m_pickt rfl (by first | rfl | assumption) rfl ?_)  | refine e_nrm ?_ | refine x_none rfl ?_ | refine x_skip_f rfl rfl (by first | rfl | assumption) ?_ | with_reducible (first | refine q_then ?_ | refine q_then_ret ?_ | refine awp_seq ?_ | refine awp_ret ?_) | ((with_reducible refine w_region ?_ ?_); kernel_rfl) | refine w_cond_t rfl (by first | rfl | assumption) ?_)
          refine ret_v (by first | exact .inr rfl | exact .inl rfl) rfl rfl ?_
          rfl
        · have b2 : decide (k.k < 0) = false := by simpa using k0
          repeat (first | ((with_reducible refine k_fieldAddr ?_); refine x_fieldAddr_ptr tbOk rfl rfl rfl rfl ?_) | ((with_reducible refine k_load ?_); refine x_load_one tbOk rfl rfl rfl rfl rfl ?_) | ((with_reducible refine k_pick ?_); refine m_pickf rfl (by first | rfl | assumption) rfl ?_) | ((with_reducible refine k_bin ?_); refine m_binI rfl rfl rfl ?_)  | refine e_nrm ?_ | refine x_none rfl ?_ | refine x_run_f rfl rfl (by first | rfl | assumption) ?_ | with_reducible refine q_then ?_ )
          refine w_cond rfl (fun h => ?_) (fun h => ?_)
          · rw [if_pos (.inr (by simpa using h))]
            repeat (first | ((with_reducible refine k_assign ?_); refine m_assign rfl ?_)  | refine e_nrm ?_ | refine x_none rfl ?_ | with_reducible (first | refine q_then ?_ | refine q_then_ret ?_ | refine awp_seq ?_ | refine awp_ret ?_) | ((with_reducible refine w_region ?_ ?_); kernel_rfl))
            refine ret_v (by first | exact .inr rfl | exact .inl rfl) rfl rfl ?_
            rfl
          · have h' : ¬ 65536 < k.k := by simpa using h
            rw [if_neg (by omega)]
            repeat (first | ((with_reducible refine k_assign ?_); refine m_assign rfl ?_)  | refine e_nrm ?_ | refine x_none rfl ?_ | with_reducible (first | refine q_then ?_ | refine awp_seq ?_ | refine awp_skip ?_ | refine awp_ret ?_) | ((with_reducible refine w_region ?_ ?_); kernel_rfl))
            refine ret_v (by first | exact .inr rfl | exact .inl rfl) rfl rfl ?_
            rfl
      · have b1 : (k.p != 1) = true := by simpa using p1
        repeat (first | ((with_reducible refine k_move ?_); refine m_move rfl ?_) | ((with_reducible refine k_fieldAddr ?_); refine x_fieldAddr_ptr tbOk rfl rfl rfl rfl ?_) | ((with_reducible refine k_load ?_); refine x_load_one tbOk rfl rfl rfl rfl rfl ?_) | ((with_reducible refine k_pick ?_); refine m_pickt rfl (by first | rfl | assumption) rfl ?_) | ((with_reducible refine k_bin ?_); refine m_binI rfl rfl rfl ?_)  | refine e_nrm ?_ | refine x_none rfl ?_ | refine x_run_t rfl rfl (by first | rfl | assumption) ?_ | with_reducible (first | refine q_then ?_ | refine awp_seq ?_ | refine awp_skip ?_) | ((with_reducible refine w_region ?_ ?_); kernel_rfl))
        refine w_cond rfl (fun h => ?_) (fun h => ?_)
        · have p2 : k.p ≠ 2 := by simpa using h
          rw [if_pos ⟨p1, p2⟩]
          repeat (first | ((with_reducible refine k_assign ?_); refine m_assign rfl ?_)  | refine e_nrm ?_ | refine x_none rfl ?_ | with_reducible (first | refine q_then ?_ | refine q_then_ret ?_ | refine awp_seq ?_ | refine awp_ret ?_) | ((with_reducible refine w_region ?_ ?_); kernel_rfl))
          refine ret_v (by first | exact .inr rfl | exact .inl rfl) rfl rfl ?_
          rfl
        · have p2 : k.p = 2 := by simpa using h
          rw [if_neg (by omega)]
          by_cases k0 : k.k < 0
          · have b2 : decide (k.k < 0) = true := by simpa using k0
            rw [if_pos (.inl k0)]
            repeat (first | ((with_reducible refine k_move ?_); refine m_move rfl ?_) | ((with_reducible refine k_assign ?_); refine m_assign rfl ?_) | ((with_reducible refine k_fieldAddr ?_); refine x_fieldAddr_ptr tbOk rfl rfl rfl rfl ?_) | ((with_reducible refine k_load ?_); refine x_load_one tbOk rfl rfl rfl rfl rfl ?_) | ((with_reducible refine k_pick ?_); refine m_pickt rfl (by first | rfl | assumption) rfl ?_) | ((with_reducible refine k_bin ?_); refine m_binI rfl rfl rfl ?_)  | refine e_nrm ?_ | refine x_none rfl ?_ | refine x_skip_f rfl rfl (by first | rfl | assumption) ?_ | with_reducible (first | refine q_then ?_ | refine q_then_ret ?_ | refine awp_seq ?_ | refine awp_skip ?_ | refine awp_ret ?_) | ((with_reducible refine w_region ?_ ?_); kernel_rfl) | refine w_cond_t rfl (by first | rfl | assumption) ?_)
            refine ret_v (by first | exact .inr rfl | exact .inl rfl) rfl rfl ?_
            rfl
          · have b2 : decide (k.k < 0) = false := by simpa using k0
            repeat (first | ((with_reducible refine k_move ?_); refine m_move rfl ?_) | ((with_reducible refine k_fieldAddr ?_); refine x_fieldAddr_ptr tbOk rfl rfl rfl rfl ?_) | ((with_reducible refine k_load ?_); refine x_load_one tbOk rfl rfl rfl rfl rfl ?_) | ((with_reducible refine k_pick ?_); refine m_pickf rfl (by first | rfl | assumption) rfl ?_) | ((with_reducible refine k_bin ?_); refine m_binI rfl rfl rfl ?_)  | refine e_nrm ?_ | refine x_none rfl ?_ | refine x_run_f rfl rfl (by first | rfl | assumption) ?_ | with_reducible (first | refine q_then ?_ | refine awp_seq ?_ | refine awp_skip ?_) | ((with_reducible refine w_region ?_ ?_); kernel_rfl))
            refine w_cond rfl (fun h => ?_) (fun h => ?_)
            · rw [if_pos (.inr (by simpa using h))]
              repeat (first | ((with_reducible refine k_assign ?_); refine m_assign rfl ?_)  | refine e_nrm ?_ | refine x_none rfl ?_ | with_reducible (first | refine q_then ?_ | refine q_then_ret ?_ | refine awp_seq ?_ | refine awp_ret ?_) | ((with_reducible refine w_region ?_ ?_); kernel_rfl))
              refine ret_v (by first | exact .inr rfl | exact .inl rfl) rfl rfl ?_
              rfl
            · have h' : ¬ 65536 < k.k := by simpa using h
              rw [if_neg (by omega)]
              repeat (first | ((with_reducible refine k_assign ?_); refine m_assign rfl ?_)  | refine e_nrm ?_ | refine x_none rfl ?_ | with_reducible (first | refine q_then ?_ | refine awp_seq ?_ | refine awp_skip ?_ | refine awp_ret ?_) | ((with_reducible refine w_region ?_ ?_); kernel_rfl))
              refine ret_v (by first | exact .inr rfl | exact .inl rfl) rfl rfl ?_
              rfl
theorem before_A (a b : Lk) : ACalls Tryd.prog G 45 [a.av, b.av] [] (.v (.bool (befB a b))) [] := by
  unfold befB
  refine acalls_of tbOk (enter_of Tryd.func45 (by kernel_rfl) rfl) Tryd.func45 rfl _ Tryd.ntmps45 (Nat.le_of_ble_eq_true rfl) fun X hX => ?_
  subst hX
  repeat' (first | ((with_reducible refine k_move ?_); refine m_move rfl ?_) | ((with_reducible refine k_assign ?_); refine m_assign rfl ?_) | ((with_reducible refine k_fieldAddr ?_); refine x_fieldAddr_ptr tbOk rfl rfl rfl rfl ?_) | ((with_reducible refine k_load ?_); refine x_load_one tbOk rfl rfl rfl rfl rfl ?_) | ((with_reducible refine k_box ?_); refine m_box rfl rfl rfl ?_) | ((with_reducible refine k_pick ?_); (first | refine m_pickt rfl (by first | rfl | assumption) rfl ?_ | refine m_pickf rfl (by first | rfl | assumption) rfl ?_)) | ((with_reducible refine k_bin ?_); refine m_binI rfl rfl rfl ?_)  | refine e_nrm ?_ | refine x_none rfl ?_ | refine x_run_t rfl rfl (by first | rfl | assumption) ?_ | refine x_skip_t rfl rfl (by first | rfl | assumption) ?_ | refine x_run_f rfl rfl (by first | rfl | assumption) ?_ | refine x_skip_f rfl rfl (by first | rfl | assumption) ?_ | refine x_skip' rfl rfl rfl ?_ | with_reducible (first | refine q_then ?_ | refine awp_seq ?_ | refine awp_ret ?_) | ((with_reducible refine w_region ?_ ?_); kernel_rfl) | refine x_split rfl rfl (fun _ => ?_) (fun _ => ?_) | refine w_cond rfl (fun _ => ?_) (fun _ => ?_))
  all_goals refine ret_v (by first | exact .inr rfl | exact .inl rfl) rfl rfl ?_
  all_goals refine congrArg (fun b => AV.v (.bool b)) ?_
  all_goals simp_all
  all_goals (by_cases h9 : a.d = b.d <;> simp_all)
set_option maxHeartbeats 4000000 in
theorem rlocks_A (N : List Nd) (V : List Dv) (L : List Lk) (hN : ∀ x ∈ N, x.n.size ≤ maxLen) (hV : ∀ x ∈ V, x.n.size ≤ maxLen) (h1 : N.length ≤ maxLen) (h2 : V.length ≤ maxLen) :
    ACalls Tryd.prog G 27 [netAV N V, .sl 3 (L.map Lk.av)] [] (.v (.int .i64 (lksE N V L))) [] := by
  refine acalls_of tbOk (enter_of Tryd.func27 (by kernel_rfl) rfl) Tryd.func27 rfl _ Tryd.ntmps27 (Nat.le_of_ble_eq_true rfl) fun X hX => ?_
  subst hX
  unfold lksE
  repeat (first | ((with_reducible refine k_assign ?_); refine m_assign rfl ?_) | ((with_reducible refine k_load ?_); refine x_load_agg tbOk rfl rfl rfl rfl (Nat.le_of_ble_eq_true rfl) ?_) | ((with_reducible refine k_box ?_); refine m_box rfl rfl rfl ?_)  | refine e_nrm ?_ | refine x_none rfl ?_ | with_reducible (first | refine q_then ?_ | refine awp_seq ?_) | ((with_reducible refine w_region ?_ ?_); kernel_rfl))
  refine zC (rnet_A N V hN hV h1 h2) ?_
  repeat (first | ((with_reducible refine k_move ?_); refine m_move rfl ?_) | ((with_reducible refine k_assign ?_); refine m_assign rfl ?_) | ((with_reducible refine k_bin ?_); refine m_binI rfl rfl rfl ?_)  | refine e_nrm ?_ | refine x_none rfl ?_ | with_reducible (first | refine q_then ?_ | refine awp_seq ?_) | ((with_reducible refine w_region ?_ ?_); kernel_rfl))
  refine w_cond rfl (fun h => ?_) (fun h => ?_)
  · rw [if_pos (by simpa using h)]
    repeat (first | ((with_reducible refine k_move ?_); refine m_move rfl ?_) | ((with_reducible refine k_assign ?_); refine m_assign rfl ?_)  | refine e_nrm ?_ | refine x_none rfl ?_ | with_reducible (first | refine q_then ?_ | refine q_then_ret ?_ | refine awp_seq ?_ | refine awp_ret ?_) | ((with_reducible refine w_region ?_ ?_); kernel_rfl))
    refine ret_v (by first | exact .inr rfl | exact .inl rfl) rfl rfl ?_
    rfl
  rw [if_neg (by simpa using h)]
  repeat (first | ((with_reducible refine k_move ?_); refine m_move rfl ?_) | ((with_reducible refine k_call ?_); refine x_len tbOk rfl rfl ?_) | ((with_reducible refine k_bin ?_); refine m_binI rfl rfl rfl ?_)  | refine e_nrm ?_ | refine x_none rfl ?_ | with_reducible (first | refine q_then ?_ | refine awp_seq ?_ | refine awp_skip ?_) | ((with_reducible refine w_region ?_ ?_); kernel_rfl))
  refine w_cond rfl (fun h => ?_) (fun h => ?_)
  · have h128 : 128 < L.length := by simp at h; omega
    rw [if_pos h128]
    repeat (first | ((with_reducible refine k_assign ?_); refine m_assign rfl ?_)  | refine e_nrm ?_ | refine x_none rfl ?_ | with_reducible (first | refine q_then ?_ | refine q_then_ret ?_ | refine awp_seq ?_ | refine awp_ret ?_) | ((with_reducible refine w_region ?_ ?_); kernel_rfl))
    refine ret_v (by first | exact .inr rfl | exact .inl rfl) rfl rfl ?_
    rfl
  have h128 : ¬ 128 < L.length := by simp at h; omega
  rw [if_neg h128]
  repeat (first | ((with_reducible refine k_assign ?_); refine m_assign rfl ?_)  | refine e_nrm ?_ | refine x_none rfl ?_ | with_reducible (first | refine q_then ?_ | refine awp_seq ?_ | refine awp_block ?_ | refine awp_skip ?_) | ((with_reducible refine w_region ?_ ?_); kernel_rfl))
  refine awp_loop (ι := Nat) (fun i => i ≤ L.length ∧ lkGo V (L.take i) (L.drop i) = lkGo V [] L) (fun i => L.length - i) (fun v i => [(1, .sl 3 (L.map Lk.av)), (2, .ptr 2 (v 2) 0), (6, .v (.int .i64 i))]) (fun v i => [(2, .box [.sl 3 (N.map Nd.av), .sl 5 (V.map Dv.av)])]) ?_ ?_
  · exact ⟨0, ⟨Nat.zero_le _, rfl⟩, trivial, ⟨rfl, rfl, rfl, trivial⟩, ⟨rfl, trivial⟩⟩
  · rintro v i ⟨hi, hf⟩
    repeat (first | ((with_reducible refine k_move ?_); refine m_move rfl ?_) | ((with_reducible refine k_call ?_); refine x_len tbOk rfl rfl ?_) | ((with_reducible refine k_bin ?_); refine m_binI rfl rfl rfl ?_)  | refine e_nrm ?_ | refine x_none rfl ?_ | with_reducible (first | refine q_then ?_ | refine awp_seq ?_) | ((with_reducible refine w_region ?_ ?_); kernel_rfl))
    refine w_cond rfl (fun h => ?_) (fun h => ?_)
    · have hlt : i < L.length := by simpa using h
      obtain ⟨k, hx⟩ := some_at hlt
      have hy := lk_at hx
      rw [lkGo_at hx] at hf
      repeat (first | ((with_reducible refine k_move ?_); refine m_move rfl ?_) | ((with_reducible refine k_load ?_); (first | refine x_load_agg tbOk rfl rfl rfl rfl (Nat.le_of_ble_eq_true rfl) ?_ | refine x_load_ep_agg tbOk rfl rfl (Nat.le_of_ble_eq_true rfl) ?_)) | ((with_reducible refine k_indexAddr ?_); refine x_indexAddr_n tbOk rfl rfl rfl rfl (by assumption) ?_)  | refine x_none rfl ?_ | with_reducible (first | refine q_then ?_ | refine awp_seq ?_ | refine awp_block ?_ | refine awp_skip ?_) | ((with_reducible refine w_draw mixd ?_ ?_); kernel_rfl))
      refine zC (fault_A N V k) ?_
      repeat (first | ((with_reducible refine k_move ?_); refine m_move rfl ?_) | ((with_reducible refine k_assign ?_); refine m_assign rfl ?_) | ((with_reducible refine k_bin ?_); refine m_binI rfl rfl rfl ?_)  | refine e_nrm ?_ | refine e_drw (by kernel_rfl) ?_ | refine x_none rfl ?_ | with_reducible (first | refine q_then ?_ | refine awp_seq ?_) | ((with_reducible refine w_region ?_ ?_); kernel_rfl))
      refine w_cond rfl (fun h => ?_) (fun h => ?_)
      · have hF : faultE V k ≠ 0 := by simpa using h
        rw [lkE_f hF, if_pos hF] at hf
        repeat (first | ((with_reducible refine k_move ?_); refine m_move rfl ?_) | ((with_reducible refine k_assign ?_); refine m_assign rfl ?_)  | refine e_nrm ?_ | refine x_none rfl ?_ | with_reducible (first | refine q_then ?_ | refine q_then_ret ?_ | refine q_block_ret ?_ | refine awp_seq ?_ | refine awp_ret ?_) | ((with_reducible refine w_region ?_ ?_); kernel_rfl))
        refine ret_v (by first | exact .inr rfl | exact .inl rfl) rfl rfl ?_
        rw [hf]
      have hF : faultE V k = 0 := by simpa using h
      rcases Nat.eq_zero_or_pos i with i0 | i0
      rotate_left
      obtain ⟨q, hq⟩ := some_at (L := L) (k := i - 1) (by omega)
      have hqy := lk_at hq
      have ei : ((i : Nat) : Int) - 1 = ((i - 1 : Nat) : Int) := by omega
      have b0 : decide ((i : Int) > 0) = true := by simpa using i0
      repeat (first | ((with_reducible refine k_move ?_); refine m_move rfl ?_) | ((with_reducible refine k_bin ?_); (first | refine x_sub_in rfl rfl (by omega) ?_ | refine m_binI rfl rfl rfl ?_))  | refine x_none rfl ?_ | refine x_run_t rfl rfl (by first | rfl | assumption) ?_ | with_reducible (first | refine q_then ?_ | refine awp_seq ?_ | refine awp_skip ?_) | ((with_reducible refine w_draw mixd ?_ ?_); kernel_rfl))
      with_reducible refine k_indexAddr ?_
      refine x_indexAddr tbOk rfl rfl rfl rfl (by omega) (by rw [ei, Int.toNat_natCast]; exact hqy) ?_
      repeat (first | ((with_reducible refine k_move ?_); refine m_move rfl ?_) | ((with_reducible refine k_load ?_); refine x_load_ep_agg tbOk rfl rfl (Nat.le_of_ble_eq_true rfl) ?_) | ((with_reducible refine k_indexAddr ?_); refine x_indexAddr_n tbOk rfl rfl rfl rfl (by assumption) ?_)  | refine x_run_t rfl rfl (by first | rfl | assumption) ?_  )
      refine zC (before_A q k) ?_
      repeat (first | ((with_reducible refine k_un ?_); refine x_not rfl ?_) | ((with_reducible refine k_pick ?_); refine m_pickt rfl (by first | rfl | assumption) rfl ?_)  | refine e_drw (by kernel_rfl) ?_ | refine x_none rfl ?_ | refine x_run_t rfl rfl (by first | rfl | assumption) ?_ | with_reducible refine q_then ?_ )
      refine w_cond rfl (fun h => ?_) (fun h => ?_)
      · have hP : prevB (L.take i) k = false := by unfold prevB; rw [take_last i0 hq]; simpa using h
        rw [lkE_14 hF hP, if_pos (by decide)] at hf
        repeat (first | ((with_reducible refine k_assign ?_); refine m_assign rfl ?_)  | refine e_nrm ?_ | refine x_none rfl ?_ | with_reducible (first | refine q_then ?_ | refine q_then_ret ?_ | refine q_block_ret ?_ | refine awp_seq ?_ | refine awp_ret ?_) | ((with_reducible refine w_region ?_ ?_); kernel_rfl))
        refine ret_v (by first | exact .inr rfl | exact .inl rfl) rfl rfl ?_
        rw [← hf]
      have hP : prevB (L.take i) k = true := by unfold prevB; rw [take_last i0 hq]; simpa using h
      repeat (first | ((with_reducible refine k_assign ?_); refine m_assign rfl ?_)  | refine e_nrm ?_ | refine x_none rfl ?_ | with_reducible (first | refine q_then ?_ | refine awp_seq ?_ | refine awp_block ?_ | refine awp_skip ?_) | ((with_reducible refine w_region ?_ ?_); kernel_rfl))
      rotate_left
      have b0 : decide ((i : Int) > 0) = false := by simp [i0]
      have hP : prevB (L.take i) k = true := by subst i0; rfl
      repeat (first | ((with_reducible refine k_move ?_); refine m_move rfl ?_) | ((with_reducible refine k_assign ?_); refine m_assign rfl ?_) | ((with_reducible refine k_pick ?_); refine m_pickf rfl (by first | rfl | assumption) rfl ?_) | ((with_reducible refine k_bin ?_); refine m_binI rfl rfl rfl ?_)  | refine e_nrm ?_ | refine e_drw (by kernel_rfl) ?_ | refine x_none rfl ?_ | refine x_skip_t rfl rfl (by first | rfl | assumption) ?_ | with_reducible (first | refine q_then ?_ | refine awp_seq ?_ | refine awp_block ?_ | refine awp_skip ?_) | ((with_reducible refine w_region ?_ ?_); kernel_rfl) | ((with_reducible refine w_draw mixd ?_ ?_); kernel_rfl) | refine w_cond_f rfl (by first | rfl | assumption) ?_)
      all_goals
        refine awp_loop (ι := Nat) (fun j => j ≤ i ∧ otherB (L.take j) k = false) (fun j => i - j) (fun v j => [(1, .sl 3 (L.map Lk.av)), (2, .ptr 2 (v 2) 0), (6, .v (.int .i64 i)), (8, .v (.int .i64 j))]) (fun v j => [(2, .box [.sl 3 (N.map Nd.av), .sl 5 (V.map Dv.av)])]) ?_ ?_
        · exact ⟨0, ⟨Nat.zero_le _, rfl⟩, trivial, ⟨rfl, rfl, rfl, rfl, trivial⟩, ⟨rfl, trivial⟩⟩
        · rintro v j ⟨hj, hu⟩
          repeat (first | ((with_reducible refine k_move ?_); refine m_move rfl ?_) | ((with_reducible refine k_bin ?_); refine m_binI rfl rfl rfl ?_)  | refine e_nrm ?_ | refine x_none rfl ?_ | with_reducible (first | refine q_then ?_ | refine awp_seq ?_) | ((with_reducible refine w_region ?_ ?_); kernel_rfl))
          refine w_cond rfl (fun h => ?_) (fun h => ?_)
          · have hji : j < i := by simpa using h
            obtain ⟨y, hjy⟩ := some_at (L := L) (k := j) (by omega)
            have hz := lk_at hjy
            repeat (first | ((with_reducible refine k_move ?_); refine m_move rfl ?_) | ((with_reducible refine k_fieldAddr ?_); refine x_fieldAddr_ep tbOk rfl rfl rfl rfl ?_) | ((with_reducible refine k_load ?_); refine x_load_ep_one tbOk rfl rfl rfl ?_) | ((with_reducible refine k_indexAddr ?_); refine x_indexAddr_n tbOk rfl rfl rfl rfl (by assumption) ?_) | ((with_reducible refine k_bin ?_); refine m_binI rfl rfl rfl ?_)  | refine x_none rfl ?_ | with_reducible (first | refine q_then ?_ | refine awp_seq ?_ | refine awp_block ?_ | refine awp_skip ?_) | ((with_reducible refine w_draw mixd ?_ ?_); kernel_rfl))
            refine x_split rfl rfl (fun c1 => ?_) (fun c1 => ?_)
            · have c1' : y.d = k.d := by simpa using c1
              repeat (first | ((with_reducible refine k_move ?_); refine m_move rfl ?_) | ((with_reducible refine k_fieldAddr ?_); refine x_fieldAddr_ep tbOk rfl rfl rfl rfl ?_) | ((with_reducible refine k_load ?_); refine x_load_ep_one tbOk rfl rfl rfl ?_) | ((with_reducible refine k_pick ?_); refine m_pickt rfl (by first | rfl | assumption) rfl ?_) | ((with_reducible refine k_indexAddr ?_); refine x_indexAddr_n tbOk rfl rfl rfl rfl (by assumption) ?_) | ((with_reducible refine k_bin ?_); refine m_binI rfl rfl rfl ?_)  | refine e_drw (by kernel_rfl) ?_ | refine x_none rfl ?_ | refine x_run_t rfl rfl (by first | rfl | assumption) ?_ | with_reducible refine q_then ?_ )
              refine w_cond rfl (fun c2 => ?_) (fun c2 => ?_)
              · have c2' : ¬ y.p = k.p := by simpa using c2
                rw [lkE_18 hF hP (otherB_mem hjy hji c1' c2'), if_pos (by decide)] at hf
                repeat (first | ((with_reducible refine k_assign ?_); refine m_assign rfl ?_)  | refine e_nrm ?_ | refine x_none rfl ?_ | with_reducible (first | refine q_then ?_ | refine q_then_ret ?_ | refine q_block_ret ?_ | refine awp_seq ?_ | refine awp_ret ?_) | ((with_reducible refine w_region ?_ ?_); kernel_rfl))
                refine ret_v (by first | exact .inr rfl | exact .inl rfl) rfl rfl ?_
                rw [← hf]
              · have c2' : y.p = k.p := by simpa using c2
                repeat (first | ((with_reducible refine k_move ?_); refine m_move rfl ?_) | ((with_reducible refine k_assign ?_); refine m_assign rfl ?_) | ((with_reducible refine k_bin ?_); refine x_add_in rfl rfl (by omega) ?_)  | refine e_nrm ?_ | refine x_none rfl ?_ | with_reducible (first | refine q_then ?_ | refine q_block ?_ | refine awp_skip ?_) | ((with_reducible refine w_region ?_ ?_); kernel_rfl))
                exact ⟨j + 1, ⟨by omega, by rw [otherB_next hjy, hu, decide_eq_true c2']; simp⟩, by omega, ⟨rfl, rfl, rfl, rfl, trivial⟩, ⟨rfl, trivial⟩⟩
            · have c1' : ¬ y.d = k.d := by simpa using c1
              repeat (first | ((with_reducible refine k_move ?_); refine m_move rfl ?_) | ((with_reducible refine k_assign ?_); refine m_assign rfl ?_) | ((with_reducible refine k_pick ?_); refine m_pickf rfl (by first | rfl | assumption) rfl ?_) | ((with_reducible refine k_bin ?_); refine x_add_in rfl rfl (by omega) ?_)  | refine e_nrm ?_ | refine e_drw (by kernel_rfl) ?_ | refine x_none rfl ?_ | refine x_skip_t rfl rfl (by first | rfl | assumption) ?_ | with_reducible (first | refine q_then ?_ | refine q_block ?_ | refine awp_skip ?_) | ((with_reducible refine w_region ?_ ?_); kernel_rfl) | refine w_cond_f rfl (by first | rfl | assumption) ?_)
              exact ⟨j + 1, ⟨by omega, by rw [otherB_next hjy, hu, decide_eq_false c1']; simp⟩, by omega, ⟨rfl, rfl, rfl, rfl, trivial⟩, ⟨rfl, trivial⟩⟩
          · obtain rfl : j = i := by simp at h; omega
            have hO := hu
            repeat (first | ((with_reducible refine k_assign ?_); refine m_assign rfl ?_)  | refine e_nrm ?_ | refine x_none rfl ?_ | with_reducible (first | refine q_then ?_ | refine q_then_exit ?_ | refine awp_seq ?_ | refine awp_block ?_ | refine awp_exit ?_) | ((with_reducible refine q_block_exit ?_ ?_); rfl) | ((with_reducible refine w_region ?_ ?_); kernel_rfl))
            refine awp_loop (ι := Nat) (fun m => m ≤ j ∧ keyB (L.take m) k.k = false) (fun m => j - m) (fun v m => [(1, .sl 3 (L.map Lk.av)), (2, .ptr 2 (v 2) 0), (6, .v (.int .i64 j)), (9, .v (.int .i64 m))]) (fun v m => [(2, .box [.sl 3 (N.map Nd.av), .sl 5 (V.map Dv.av)])]) ?_ ?_
            · exact ⟨0, ⟨Nat.zero_le _, rfl⟩, trivial, ⟨rfl, rfl, rfl, rfl, trivial⟩, ⟨rfl, trivial⟩⟩
            · rintro v m ⟨hm, hw⟩
              repeat (first | ((with_reducible refine k_move ?_); refine m_move rfl ?_) | ((with_reducible refine k_bin ?_); refine m_binI rfl rfl rfl ?_)  | refine e_nrm ?_ | refine x_none rfl ?_ | with_reducible (first | refine q_then ?_ | refine awp_seq ?_) | ((with_reducible refine w_region ?_ ?_); kernel_rfl))
              refine w_cond rfl (fun h => ?_) (fun h => ?_)
              · have hmj : m < j := by simpa using h
                obtain ⟨y, hjy⟩ := some_at (L := L) (k := m) (by omega)
                have hz := lk_at hjy
                repeat (first | ((with_reducible refine k_move ?_); refine m_move rfl ?_) | ((with_reducible refine k_fieldAddr ?_); refine x_fieldAddr_ep tbOk rfl rfl rfl rfl ?_) | ((with_reducible refine k_load ?_); refine x_load_ep_one tbOk rfl rfl rfl ?_) | ((with_reducible refine k_indexAddr ?_); refine x_indexAddr_n tbOk rfl rfl rfl rfl (by assumption) ?_) | ((with_reducible refine k_bin ?_); refine m_binI rfl rfl rfl ?_)  | refine e_drw (by kernel_rfl) ?_ | refine x_none rfl ?_ | with_reducible (first | refine q_then ?_ | refine awp_seq ?_ | refine awp_block ?_ | refine awp_skip ?_) | ((with_reducible refine w_draw mixd ?_ ?_); kernel_rfl))
                refine w_cond rfl (fun c1 => ?_) (fun c1 => ?_)
                · have c1' : y.k = k.k := by simpa using c1
                  rw [lkE_4 hF hP hO (keyB_mem hjy hmj c1'), if_pos (by decide)] at hf
                  repeat (first | ((with_reducible refine k_assign ?_); refine m_assign rfl ?_)  | refine e_nrm ?_ | refine x_none rfl ?_ | with_reducible (first | refine q_then ?_ | refine q_then_ret ?_ | refine q_block_ret ?_ | refine awp_seq ?_ | refine awp_ret ?_) | ((with_reducible refine w_region ?_ ?_); kernel_rfl))
                  refine ret_v (by first | exact .inr rfl | exact .inl rfl) rfl rfl ?_
                  rw [← hf]
                · have c1' : ¬ y.k = k.k := by simpa using c1
                  repeat (first | ((with_reducible refine k_move ?_); refine m_move rfl ?_) | ((with_reducible refine k_assign ?_); refine m_assign rfl ?_) | ((with_reducible refine k_bin ?_); refine x_add_in rfl rfl (by omega) ?_)  | refine e_nrm ?_ | refine x_none rfl ?_ | with_reducible (first | refine q_then ?_ | refine q_block ?_ | refine awp_skip ?_) | ((with_reducible refine w_region ?_ ?_); kernel_rfl))
                  exact ⟨m + 1, ⟨by omega, by rw [keyB_next hjy, hw, decide_eq_false c1']; rfl⟩, by omega, ⟨rfl, rfl, rfl, rfl, trivial⟩, ⟨rfl, trivial⟩⟩
              · obtain rfl : m = j := by simp at h; omega
                rw [lkE_0 hF hP hO hw, if_neg (by decide)] at hf
                repeat (first | ((with_reducible refine k_move ?_); refine m_move rfl ?_) | ((with_reducible refine k_assign ?_); refine m_assign rfl ?_) | ((with_reducible refine k_bin ?_); refine x_add_in rfl rfl (by omega) ?_)  | refine e_nrm ?_ | refine x_none rfl ?_ | with_reducible (first | refine q_then ?_ | refine q_then_exit ?_ | refine q_block ?_ | refine awp_exit ?_) | ((with_reducible refine q_block_exit ?_ ?_); rfl) | ((with_reducible refine w_region ?_ ?_); kernel_rfl))
                exact ⟨m + 1, ⟨by omega, hf⟩, by omega, ⟨rfl, rfl, rfl, trivial⟩, ⟨rfl, trivial⟩⟩
    · have hlt : ¬ i < L.length := by simpa using h
      rw [List.drop_of_length_le (by omega)] at hf
      repeat (first | ((with_reducible refine k_assign ?_); refine m_assign rfl ?_)  | refine e_nrm ?_ | refine x_none rfl ?_ | with_reducible (first | refine q_then ?_ | refine q_then_exit ?_ | refine awp_seq ?_ | refine awp_exit ?_ | refine awp_ret ?_) | ((with_reducible refine q_block_exit ?_ ?_); rfl) | ((with_reducible refine w_region ?_ ?_); kernel_rfl))
      refine ret_v (by first | exact .inr rfl | exact .inl rfl) rfl rfl ?_
      rw [← hf]; rfl
theorem locked_next {L : List Lk} {d : Int} {j : Nat} {x : Lk} (h : L[j]? = some x) (h1 : ¬ x.d = d) : lockedP (L.drop j) d = lockedP (L.drop (j + 1)) d := by
  rw [drop_at h]; unfold lockedP; rw [List.find?_cons_of_neg (by simpa using h1)]
theorem locked_hit {L : List Lk} {d : Int} {j : Nat} {x : Lk} (h : L[j]? = some x) (h1 : x.d = d) : lockedP (L.drop j) d = (x.p, true) := by
  rw [drop_at h]; unfold lockedP; rw [List.find?_cons_of_pos (by simpa using h1)]
theorem locked_A (L : List Lk) (d : Int) (hm : L.length ≤ maxLen) : ACalls Tryd.prog G 48 [.sl 3 (L.map Lk.av), .v (.int .i64 d)] [] (.tu [.v (.int .i64 (lockedP L d).1), .v (.bool (lockedP L d).2)]) [] := by
  have hml : L.length ≤ 9223372036854775807 := by unfold maxLen at hm; omega
  refine acalls_of tbOk (enter_of Tryd.func48 (by kernel_rfl) rfl) Tryd.func48 rfl _ Tryd.ntmps48 (Nat.le_of_ble_eq_true rfl) fun X hX => ?_
  subst hX
  repeat (first | ((with_reducible refine k_assign ?_); refine m_assign rfl ?_)  | refine e_nrm ?_ | refine x_none rfl ?_ | with_reducible (first | refine q_then ?_ | refine awp_seq ?_ | refine awp_block ?_) | ((with_reducible refine w_region ?_ ?_); kernel_rfl))
  refine awp_loop (ι := Nat) (fun j => j ≤ L.length ∧ lockedP (L.drop j) d = lockedP L d) (fun j => L.length - j) (fun v j => [(0, .sl 3 (L.map Lk.av)), (1, .v (.int .i64 d)), (6, .v (.int .i64 j))]) (fun v j => []) ?_ ?_
  · exact ⟨0, ⟨Nat.zero_le _, rfl⟩, trivial, ⟨rfl, rfl, rfl, trivial⟩, trivial⟩
  · rintro v j ⟨hj, hf⟩
    repeat (first | ((with_reducible refine k_move ?_); refine m_move rfl ?_) | ((with_reducible refine k_call ?_); refine x_len tbOk rfl rfl ?_) | ((with_reducible refine k_bin ?_); refine m_binI rfl rfl rfl ?_)  | refine e_nrm ?_ | refine x_none rfl ?_ | with_reducible (first | refine q_then ?_ | refine awp_seq ?_) | ((with_reducible refine w_region ?_ ?_); kernel_rfl))
    refine w_cond rfl (fun h => ?_) (fun h => ?_)
    · have hlt : j < L.length := by simpa using h
      obtain ⟨x, hx⟩ := some_at hlt
      have hy := lk_at hx
      repeat (first | ((with_reducible refine k_move ?_); refine m_move rfl ?_) | ((with_reducible refine k_fieldAddr ?_); refine x_fieldAddr_ep tbOk rfl rfl rfl rfl ?_) | ((with_reducible refine k_load ?_); refine x_load_ep_one tbOk rfl rfl rfl ?_) | ((with_reducible refine k_indexAddr ?_); refine x_indexAddr_n tbOk rfl rfl rfl rfl (by assumption) ?_) | ((with_reducible refine k_bin ?_); refine m_binI rfl rfl rfl ?_)  | refine e_nrm ?_ | refine x_none rfl ?_ | with_reducible (first | refine q_then ?_ | refine awp_seq ?_ | refine awp_block ?_ | refine awp_skip ?_) | ((with_reducible refine w_region ?_ ?_); kernel_rfl))
      refine w_cond rfl (fun h => ?_) (fun h => ?_)
      · have h1 : x.d = d := by simpa using h
        rw [← hf, locked_hit hx h1]
        repeat (first | ((with_reducible refine k_move ?_); refine m_move rfl ?_) | ((with_reducible refine k_assign ?_); refine m_assign rfl ?_) | ((with_reducible refine k_fieldAddr ?_); refine x_fieldAddr_ep tbOk rfl rfl rfl rfl ?_) | ((with_reducible refine k_load ?_); refine x_load_ep_one tbOk rfl rfl rfl ?_) | ((with_reducible refine k_indexAddr ?_); refine x_indexAddr_n tbOk rfl rfl rfl rfl (by assumption) ?_)  | refine e_nrm ?_ | refine x_none rfl ?_ | with_reducible (first | refine q_then ?_ | refine q_then_ret ?_ | refine q_block_ret ?_ | refine awp_seq ?_ | refine awp_ret ?_) | ((with_reducible refine w_region ?_ ?_); kernel_rfl))
        refine ret0_2 (by first | exact .inr rfl | exact .inl rfl) rfl rfl rfl ?_
        repeat' (first | exact trivial | exact Ren.v _ | exact Ren.sl _ _ | exact Ren.ep _ | exact Ren.ptr _ _ _ _ rfl | exact Ren.bs _ _ _ _ _ rfl | exact Ren.nil _ | exact Ren.own _ _ _ _ ⟨_, rfl⟩ | refine ren_ag ?_ | refine ren_tu ?_ | refine ren_fn ?_ | refine ⟨?_, ?_⟩)
      · have h1 : ¬ x.d = d := by simpa using h
        rw [locked_next hx h1] at hf
        repeat (first | ((with_reducible refine k_move ?_); refine m_move rfl ?_) | ((with_reducible refine k_assign ?_); refine m_assign rfl ?_) | ((with_reducible refine k_bin ?_); refine x_add_in rfl rfl (by omega) ?_)  | refine e_nrm ?_ | refine x_none rfl ?_ | with_reducible (first | refine q_then ?_ | refine q_block ?_ | refine awp_skip ?_) | ((with_reducible refine w_region ?_ ?_); kernel_rfl))
        exact ⟨j + 1, ⟨by omega, hf⟩, by omega, ⟨rfl, rfl, rfl, trivial⟩, trivial⟩
    · have hlt : ¬ j < L.length := by simpa using h
      rw [← hf, List.drop_of_length_le (by omega)]
      repeat (first | ((with_reducible refine k_assign ?_); refine m_assign rfl ?_)  | refine e_nrm ?_ | refine x_none rfl ?_ | with_reducible (first | refine q_then ?_ | refine q_then_exit ?_ | refine awp_seq ?_ | refine awp_exit ?_ | refine awp_ret ?_) | ((with_reducible refine q_block_exit ?_ ?_); rfl) | ((with_reducible refine w_region ?_ ?_); kernel_rfl))
      refine ret0_2 (by first | exact .inr rfl | exact .inl rfl) rfl rfl rfl ?_
      repeat' (first | exact trivial | exact Ren.v _ | exact Ren.sl _ _ | exact Ren.ep _ | exact Ren.ptr _ _ _ _ rfl | exact Ren.bs _ _ _ _ _ rfl | exact Ren.nil _ | exact Ren.own _ _ _ _ ⟨_, rfl⟩ | refine ren_ag ?_ | refine ren_tu ?_ | refine ren_fn ?_ | refine ⟨?_, ?_⟩)
end Go.Proofs.YtamihjgfncjdoaaDoor
