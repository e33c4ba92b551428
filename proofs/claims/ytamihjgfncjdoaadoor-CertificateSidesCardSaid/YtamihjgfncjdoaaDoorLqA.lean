/- Locks compared: == and slices.Equal, by the abstract machine; conditions: none. -/
import Derived.Test.YtamihjgfncjdoaaDoorLcA
set_option linter.unusedVariables false
set_option linter.unusedSimpArgs false
namespace Go.Proofs.YtamihjgfncjdoaaDoor
open Go Go.RowKit
set_option maxRecDepth 10000
variable {G : Nat → Option (List Value)}
def Lk.vals (k : Lk) : List Value := [.int .i64 k.d, .int .i64 k.p, .int .i64 k.k]
theorem held_Lk : Tryd.prog.stoodInHeld 54 = false := by kernel_rfl
theorem lkEq (a b : Lk) (w : World) (d : Nat) : (Op.equalIn (d + 2) 54 (.agg ⟨a.vals⟩) (.agg ⟨b.vals⟩)).run Tryd.prog w = .ok (decide (a = b)) w := by
  obtain ⟨k, i, n⟩ := a
  obtain ⟨k', i', n'⟩ := b
  rw [run_equalIn_struct w (d + 1) 54 _ _ (by kernel_rfl) held_Lk]
  simp only [Lk.mk.injEq]
  by_cases h1 : k = k' <;> by_cases h2 : i = i' <;> by_cases h3 : n = n' <;> simp [Lk.vals, Program.fieldsOf, Tryd.underlying54, Op.eqFields, go_sem, Tryd.underlying3, h1, h2, h3]
theorem lkNeq (x y : Operand) (a b : Lk) (w : World) : (do eqGuard .neq 54 x y (.agg ⟨a.vals⟩) (.agg ⟨b.vals⟩); binOp .neq 54 (.agg ⟨a.vals⟩) (.agg ⟨b.vals⟩) : Sem Value).run Tryd.prog w = .ok (.bool (!decide (a = b))) w := by
  have hg : (eqGuard .neq 54 x y (.agg ⟨a.vals⟩) (.agg ⟨b.vals⟩)).run Tryd.prog w = .ok () w := by
    unfold eqGuard
    simp [show Tryd.prog.eqGuardType Tryd.prog.depth 54 = false by kernel_rfl]
  rw [Sem.run_bind, hg]
  simp only [Result.andThen_ok, binOp]
  simp [Op.equal, Op.maxDepth, lkEq a b w 9998]
theorem leq_A (L M : List Lk) (hl : L.length ≤ maxLen) : ACalls Tryd.prog G 26 [.sl 3 (L.map Lk.av), .sl 3 (M.map Lk.av)] [] (.v (.bool (decide (L = M)))) [] := by
  have hml : L.length ≤ 9223372036854775807 := by unfold maxLen at hl; omega
  refine acalls_of tbOk (enter_of Tryd.func26 (by kernel_rfl) rfl) Tryd.func26 rfl _ Tryd.ntmps26 (Nat.le_of_ble_eq_true rfl) fun X hX => ?_
  subst hX
  repeat (first | ((with_reducible refine k_move ?_); refine m_move rfl ?_) | ((with_reducible refine k_assign ?_); refine m_assign rfl ?_) | ((with_reducible refine k_call ?_); refine x_len tbOk rfl rfl ?_) | ((with_reducible refine k_bin ?_); refine m_binI rfl rfl rfl ?_)  | refine e_nrm ?_ | refine x_none rfl ?_ | with_reducible (first | refine q_then ?_ | refine awp_seq ?_) | ((with_reducible refine w_region ?_ ?_); kernel_rfl))
  refine w_cond rfl (fun h => ?_) (fun h => ?_)
  · repeat (first | ((with_reducible refine k_assign ?_); refine m_assign rfl ?_)  | refine e_nrm ?_ | refine x_none rfl ?_ | with_reducible (first | refine q_then ?_ | refine q_then_ret ?_ | refine awp_seq ?_ | refine awp_ret ?_) | ((with_reducible refine w_region ?_ ?_); kernel_rfl))
    refine ret_v (by first | exact .inr rfl | exact .inl rfl) rfl rfl ?_
    have : ¬ L.length = M.length := by simp at h; omega
    rw [decide_eq_false (fun e => this (by rw [e]))]
  · have hlm : L.length = M.length := by simp at h; omega
    repeat (first | ((with_reducible refine k_move ?_); refine m_move rfl ?_) | ((with_reducible refine k_call ?_); refine x_len tbOk rfl rfl ?_)  | refine e_nrm ?_ | refine x_none rfl ?_ | with_reducible (first | refine q_then ?_ | refine awp_seq ?_ | refine awp_block ?_ | refine awp_skip ?_) | ((with_reducible refine w_region ?_ ?_); kernel_rfl))
    refine awp_loop (ι := Nat) (fun k => k ≤ L.length ∧ (L = M ↔ L.drop k = M.drop k)) (fun k => L.length - k) (fun v k => [(0, .sl 3 (L.map Lk.av)), (1, .sl 3 (M.map Lk.av)), (12, .v (.int .i64 (L.map Lk.av).length)), (13, .v (.int .i64 k))]) (fun v k => []) ?_ ?_
    · exact ⟨0, ⟨Nat.zero_le _, Iff.rfl⟩, trivial, ⟨rfl, rfl, rfl, rfl, trivial⟩, trivial⟩
    · rintro v k ⟨hk, hf⟩
      repeat (first | ((with_reducible refine k_bin ?_); refine m_binI rfl rfl rfl ?_)  | refine e_nrm ?_ | refine x_none rfl ?_ | with_reducible (first | refine q_then ?_ | refine awp_seq ?_) | ((with_reducible refine w_region ?_ ?_); kernel_rfl))
      refine w_cond rfl (fun h => ?_) (fun h => ?_)
      · have hlt : k < L.length := by simpa using h
        obtain ⟨r, hx⟩ := some_at hlt
        obtain ⟨q, hq⟩ := some_at (L := M) (k := k) (by omega)
        have hy := lk_at hx
        have hz := lk_at hq
        rw [drop_at hx, drop_at hq, List.cons.injEq] at hf
        repeat (first | ((with_reducible refine k_move ?_); refine m_move rfl ?_) | ((with_reducible refine k_assign ?_); refine m_assign rfl ?_) | ((with_reducible refine k_load ?_); refine x_load_ep_agg tbOk rfl rfl (Nat.le_of_ble_eq_true rfl) ?_) | ((with_reducible refine k_indexAddr ?_); refine x_indexAddr_n tbOk rfl rfl rfl rfl (by assumption) ?_)  | refine e_nrm ?_ | refine x_none rfl ?_ | with_reducible (first | refine q_then ?_ | refine awp_seq ?_ | refine awp_block ?_ | refine awp_skip ?_) | ((with_reducible refine w_region ?_ ?_); kernel_rfl) | ((with_reducible refine w_draw mixd ?_ ?_); kernel_rfl))
        with_reducible refine k_bin ?_
        refine x_bin_ag rfl rfl (rfl : concL _ = some r.vals) (rfl : concL _ = some q.vals) (fun w => lkNeq _ _ _ _ w) ?_
        repeat (first   | refine e_drw (by kernel_rfl) ?_ | with_reducible refine q_then ?_ )
        refine w_cond rfl (fun he => ?_) (fun he => ?_)
        · have he' : ¬ r = q := by simpa using he
          repeat (first | ((with_reducible refine k_assign ?_); refine m_assign rfl ?_)  | refine e_nrm ?_ | refine x_none rfl ?_ | with_reducible (first | refine q_then ?_ | refine q_then_ret ?_ | refine q_block_ret ?_ | refine awp_seq ?_ | refine awp_ret ?_) | ((with_reducible refine w_region ?_ ?_); kernel_rfl))
          refine ret_v (by first | exact .inr rfl | exact .inl rfl) rfl rfl ?_
          rw [decide_eq_false (fun e => he' (hf.1 e).1)]
        · have he' : r = q := by simpa using he
          repeat (first | ((with_reducible refine k_move ?_); refine m_move rfl ?_) | ((with_reducible refine k_bin ?_); refine x_add_in rfl rfl (by omega) ?_)  | refine e_nrm ?_ | refine x_none rfl ?_ | with_reducible (first | refine q_then ?_ | refine q_block ?_ | refine awp_skip ?_) | ((with_reducible refine w_region ?_ ?_); kernel_rfl))
          exact ⟨k + 1, ⟨by omega, by rw [hf]; exact ⟨fun e => e.2, fun e => ⟨he', e⟩⟩⟩, by omega, ⟨rfl, rfl, rfl, rfl, trivial⟩, trivial⟩
      · have hlt : ¬ k < L.length := by simpa using h
        repeat (first | ((with_reducible refine k_assign ?_); refine m_assign rfl ?_)  | refine e_nrm ?_ | refine x_none rfl ?_ | with_reducible (first | refine q_then ?_ | refine q_then_exit ?_ | refine awp_seq ?_ | refine awp_exit ?_ | refine awp_ret ?_) | ((with_reducible refine q_block_exit ?_ ?_); rfl) | ((with_reducible refine w_region ?_ ?_); kernel_rfl))
        refine ret_v (by first | exact .inr rfl | exact .inl rfl) rfl rfl ?_
        rw [List.drop_of_length_le (by omega), List.drop_of_length_le (by omega)] at hf
        rw [decide_eq_true (hf.2 rfl)]
end Go.Proofs.YtamihjgfncjdoaaDoor
