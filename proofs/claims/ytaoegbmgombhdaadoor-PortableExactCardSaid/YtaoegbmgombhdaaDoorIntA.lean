/- The reference's comparison of lists of numbers, by the abstract machine; conditions: none. -/
import Derived.Test.YtaoegbmgombhdaaDoorDkA
set_option linter.unusedVariables false
set_option linter.unusedSimpArgs false
namespace Go.Proofs.YtaoegbmgombhdaaDoor
open Go Go.RowKit
set_option maxRecDepth 10000
variable {G : Nat → Option (List Value)}
theorem iv_at {L : List Int} {k : Nat} {x : Int} (h : L[k]? = some x) : (L.map iv)[k]? = some (iv x) := by rw [List.getElem?_map, h]; rfl
theorem ints_A (L M : List Int) (hl : L.length ≤ maxLen) : ACalls Tryd.prog G 14 [.sl 1 (L.map iv), .sl 1 (M.map iv)] [] (.v (.bool (decide (L = M)))) [] := by
  have hml : L.length ≤ 9223372036854775807 := by unfold maxLen at hl; omega
  refine acalls_of tbOk (enter_of Tryd.func14 (by kernel_rfl) rfl) Tryd.func14 rfl _ Tryd.ntmps14 (Nat.le_of_ble_eq_true rfl) fun X hX => ?_
  subst hX
  repeat (first | ((with_reducible refine k_move ?_); refine m_move rfl ?_) | ((with_reducible refine k_assign ?_); refine m_assign rfl ?_) | ((with_reducible refine k_call ?_); refine x_len tbOk rfl rfl ?_) | ((with_reducible refine k_bin ?_); refine m_binI rfl rfl rfl ?_)  | refine e_nrm ?_ | refine x_none rfl ?_ | with_reducible refine q_then ?_ | with_reducible refine awp_seq ?_ | ((with_reducible refine w_region ?_ ?_); kernel_rfl))
  refine w_cond rfl (fun h => ?_) (fun h => ?_)
  · repeat (first | ((with_reducible refine k_assign ?_); refine m_assign rfl ?_)  | refine e_nrm ?_ | refine x_none rfl ?_ | with_reducible refine q_then ?_ | with_reducible refine q_then_ret ?_ | with_reducible refine awp_seq ?_ | with_reducible refine awp_ret ?_ | ((with_reducible refine w_region ?_ ?_); kernel_rfl))
    refine ret_v (by first | exact .inr rfl | exact .inl rfl) rfl rfl ?_
    have : ¬ L.length = M.length := by simp at h; omega
    rw [decide_eq_false (fun e => this (by rw [e]))]
  · have hlm : L.length = M.length := by simp at h; omega
    repeat (first | ((with_reducible refine k_assign ?_); refine m_assign rfl ?_)  | refine e_nrm ?_ | refine x_none rfl ?_ | with_reducible refine q_then ?_ | with_reducible refine awp_seq ?_ | with_reducible refine awp_block ?_ | with_reducible refine awp_skip ?_ | ((with_reducible refine w_region ?_ ?_); kernel_rfl))
    refine awp_loop (ι := Nat) (fun k => k ≤ L.length ∧ (L = M ↔ L.drop k = M.drop k)) (fun k => L.length - k) (fun v k => [(0, .sl 1 (L.map iv)), (1, .sl 1 (M.map iv)), (5, .v (.int .i64 k))]) (fun v k => []) ?_ ?_
    · exact ⟨0, ⟨Nat.zero_le _, Iff.rfl⟩, trivial, ⟨rfl, rfl, rfl, trivial⟩, trivial⟩
    · rintro v k ⟨hk, hf⟩
      repeat (first | ((with_reducible refine k_move ?_); refine m_move rfl ?_) | ((with_reducible refine k_call ?_); refine x_len tbOk rfl rfl ?_) | ((with_reducible refine k_bin ?_); refine m_binI rfl rfl rfl ?_)  | refine e_nrm ?_ | refine x_none rfl ?_ | with_reducible refine q_then ?_ | with_reducible refine awp_seq ?_ | ((with_reducible refine w_region ?_ ?_); kernel_rfl))
      refine w_cond rfl (fun h => ?_) (fun h => ?_)
      · have hlt : k < L.length := by simpa using h
        obtain ⟨r, hx⟩ := some_at hlt
        obtain ⟨q, hq⟩ := some_at (L := M) (k := k) (by omega)
        have hy := iv_at hx
        have hz := iv_at hq
        rw [drop_at hx, drop_at hq, List.cons.injEq] at hf
        repeat (first | ((with_reducible refine k_move ?_); refine m_move rfl ?_) | ((with_reducible refine k_load ?_); refine x_load_ep_one tbOk rfl rfl rfl ?_) | ((with_reducible refine k_indexAddr ?_); refine x_indexAddr_n tbOk rfl rfl rfl rfl (by assumption) ?_) | ((with_reducible refine k_bin ?_); refine m_binI rfl rfl rfl ?_)  | refine e_drw (by kernel_rfl) ?_ | refine x_none rfl ?_ | with_reducible refine q_then ?_ | with_reducible refine awp_seq ?_ | with_reducible refine awp_block ?_ | with_reducible refine awp_skip ?_ | ((with_reducible refine w_draw mixd ?_ ?_); kernel_rfl))
        refine w_cond rfl (fun he => ?_) (fun he => ?_)
        · have he' : ¬ r = q := by simpa using he
          repeat (first | ((with_reducible refine k_assign ?_); refine m_assign rfl ?_)  | refine e_nrm ?_ | refine x_none rfl ?_ | with_reducible refine q_then ?_ | with_reducible refine q_then_ret ?_ | with_reducible refine q_block_ret ?_ | with_reducible refine awp_seq ?_ | with_reducible refine awp_ret ?_ | ((with_reducible refine w_region ?_ ?_); kernel_rfl))
          refine ret_v (by first | exact .inr rfl | exact .inl rfl) rfl rfl ?_
          rw [decide_eq_false (fun e => he' (hf.1 e).1)]
        · have he' : r = q := by simpa using he
          repeat (first | ((with_reducible refine k_move ?_); refine m_move rfl ?_) | ((with_reducible refine k_assign ?_); refine m_assign rfl ?_) | ((with_reducible refine k_bin ?_); refine x_add_in rfl rfl (by omega) ?_)  | refine e_nrm ?_ | refine x_none rfl ?_ | with_reducible refine q_then ?_ | with_reducible refine q_block ?_ | with_reducible refine awp_skip ?_ | ((with_reducible refine w_region ?_ ?_); kernel_rfl))
          exact ⟨k + 1, ⟨by omega, by rw [hf]; exact ⟨fun e => e.2, fun e => ⟨he', e⟩⟩⟩, by omega, ⟨rfl, rfl, rfl, trivial⟩, trivial⟩
      · have hlt : ¬ k < L.length := by simpa using h
        repeat (first | ((with_reducible refine k_assign ?_); refine m_assign rfl ?_)  | refine e_nrm ?_ | refine x_none rfl ?_ | with_reducible refine q_then ?_ | with_reducible refine q_then_exit ?_ | with_reducible refine awp_seq ?_ | with_reducible refine awp_exit ?_ | with_reducible refine awp_ret ?_ | ((with_reducible refine q_block_exit ?_ ?_); rfl) | ((with_reducible refine w_region ?_ ?_); kernel_rfl))
        refine ret_v (by first | exact .inr rfl | exact .inl rfl) rfl rfl ?_
        rw [decide_eq_true (hf.2 (by rw [List.drop_of_length_le (by omega), List.drop_of_length_le (by omega)]))]
end Go.Proofs.YtaoegbmgombhdaaDoor
