/- The reference of Text, by the abstract machine: the numeral of every integer; conditions: none. -/
import Derived.Test.YtggngllfnboehaaDoorTxA
set_option linter.unusedVariables false
set_option linter.unusedSimpArgs false
namespace Go.Proofs.YtggngllfnboehaaDoor
open Go Go.RowKit
set_option maxRecDepth 10000
variable {G : Nat → Option (List Value)}
theorem tdm (m : Int) : (m.tdiv 10).natAbs = m.natAbs / 10 ∧ (m.tmod 10).natAbs = m.natAbs % 10 ∧ (0 ≤ m → 0 ≤ m.tdiv 10 ∧ 0 ≤ m.tmod 10) ∧ (m ≤ 0 → m.tdiv 10 ≤ 0 ∧ m.tmod 10 ≤ 0) := by
  rcases Int.le_total 0 m with h | h
  · rw [Int.tdiv_eq_ediv_of_nonneg h, Int.tmod_eq_emod_of_nonneg h]
    refine ⟨by omega, by omega, by omega, by omega⟩
  · obtain ⟨p, rfl⟩ : ∃ p, m = -p := ⟨-m, by omega⟩
    have hp : 0 ≤ p := by omega
    rw [Int.neg_tdiv, Int.neg_tmod, Int.tdiv_eq_ediv_of_nonneg hp, Int.tmod_eq_emod_of_nonneg hp]
    refine ⟨by omega, by omega, by omega, by omega⟩
theorem ba_ext {s : ByteArray} {l : List UInt8} (h : s.data.toList = l) : s = ⟨l.toArray⟩ := by
  subst h; rfl
theorem ba_app (a b : ByteArray) : (a ++ b).data.toList = a.data.toList ++ b.data.toList := by simp
set_option maxHeartbeats 2000000 in
theorem rtext_A (n : Int) (h1 : -9223372036854775808 ≤ n) (h2 : n ≤ 9223372036854775807) : ACalls Tryd.prog G 35 [.v (.int .i64 n)] [] (.v (.string (txtP n))) [] := by
  have hi := itoa_digs n
  have hln : (digs n.natAbs).length ≤ 19 := digs_len 19 _ (by omega)
  refine acalls_of tbOk (enter_of Tryd.func35 (by kernel_rfl) rfl) Tryd.func35 rfl _ Tryd.ntmps35 (Nat.le_of_ble_eq_true rfl) fun X hX => ?_
  subst hX
  repeat (first | ((with_reducible refine k_move ?_); refine m_move rfl ?_) | ((with_reducible refine k_assign ?_); refine m_assign rfl ?_) | ((with_reducible refine k_bin ?_); refine m_binI rfl rfl rfl ?_)  | refine e_nrm ?_ | refine x_none rfl ?_ | with_reducible refine q_then ?_ | with_reducible refine awp_seq ?_ | ((with_reducible refine w_region ?_ ?_); kernel_rfl))
  refine w_cond rfl (fun h => ?_) (fun h => ?_)
  · have h0 : n = 0 := by simpa using h
    rw [if_pos h0] at hi
    repeat (first | ((with_reducible refine k_assign ?_); refine m_assign rfl ?_)  | refine e_nrm ?_ | refine x_none rfl ?_ | with_reducible refine q_then ?_ | with_reducible refine q_then_ret ?_ | with_reducible refine awp_seq ?_ | with_reducible refine awp_ret ?_ | ((with_reducible refine w_region ?_ ?_); kernel_rfl))
    refine ret_v (by first | exact .inr rfl | exact .inl rfl) rfl rfl ?_
    unfold txtP
    rw [hi]
  · have h0 : n ≠ 0 := by simpa using h
    rw [if_neg h0] at hi
    repeat (first | ((with_reducible refine k_move ?_); refine m_move rfl ?_) | ((with_reducible refine k_assign ?_); refine m_assign rfl ?_)  | refine e_nrm ?_ | refine x_none rfl ?_ | with_reducible refine q_then ?_ | with_reducible refine awp_seq ?_ | with_reducible refine awp_block ?_ | with_reducible refine awp_skip ?_ | ((with_reducible refine w_region ?_ ?_); kernel_rfl))
    refine awp_loop (ι := Int × ByteArray) (fun q => (n < 0 → q.1 ≤ 0) ∧ (0 < n → 0 ≤ q.1) ∧ q.1.natAbs ≤ n.natAbs ∧ digs q.1.natAbs ++ q.2.data.toList = digs n.natAbs) (fun q => q.1.natAbs) (fun v q => [(0, .v (.int .i64 n)), (3, .v (.string q.2)), (4, .v (.int .i64 q.1))]) (fun v q => []) ?_ ?_
    · exact ⟨(n, ⟨#[]⟩), ⟨by show n < 0 → n ≤ 0; omega, by show 0 < n → 0 ≤ n; omega, Nat.le_refl _, by simp⟩, trivial, ⟨rfl, rfl, rfl, trivial⟩, trivial⟩
    rintro v ⟨m, s⟩ ⟨hm1, hm2, hm3, hf⟩
    simp only at hm1 hm2 hm3 hf
    dsimp only
    have hsl : s.size ≤ 19 := by
      have := congrArg List.length hf
      rw [List.length_append] at this
      have e : s.size = s.data.toList.length := by simp
      omega
    repeat (first | ((with_reducible refine k_move ?_); refine m_move rfl ?_) | ((with_reducible refine k_bin ?_); refine m_binI rfl rfl rfl ?_)  | refine e_nrm ?_ | refine x_none rfl ?_ | with_reducible refine q_then ?_ | with_reducible refine awp_seq ?_ | ((with_reducible refine w_region ?_ ?_); kernel_rfl))
    refine w_cond rfl (fun h => ?_) (fun h => ?_)
    · have hm0 : m ≠ 0 := by simpa using h
      obtain ⟨t1, t2, t3, t4⟩ := tdm m
      rw [digs_step (by omega), List.append_assoc] at hf
      have hwq : IntKind.i64.wrap (m.tdiv 10) = m.tdiv 10 := wrap_i64_in (by omega)
      repeat (first | ((with_reducible refine k_move ?_); refine m_move rfl ?_) | ((with_reducible refine k_assign ?_); refine m_assign rfl ?_) | ((with_reducible refine k_bin ?_); refine m_binI rfl rfl rfl ?_) | ((with_reducible refine k_bin ?_); refine x_rem rfl rfl (by first | decide | assumption | omega) ?_)  | refine e_nrm ?_ | refine x_none rfl ?_ | with_reducible refine q_then ?_ | with_reducible refine awp_seq ?_ | with_reducible refine awp_block ?_ | with_reducible refine awp_skip ?_ | ((with_reducible refine w_region ?_ ?_); kernel_rfl))
      refine w_cond rfl (fun hd => ?_) (fun hd => ?_)
      · have hd2 : m.tmod 10 < 0 := by simpa using hd
        have hw : IntKind.i64.wrap (0 - m.tmod 10) = ((m.natAbs % 10 : Nat) : Int) := by rw [wrap_i64_in (by omega)]; omega
        repeat (first | ((with_reducible refine k_move ?_); refine m_move rfl ?_) | ((with_reducible refine k_assign ?_); refine m_assign rfl ?_) | ((with_reducible refine k_un ?_); refine x_neg rfl ?_) | ((with_reducible refine k_convert ?_); refine x_conv_in tbOk rfl rfl rfl (by first | assumption | exact wrap_u64_in (by omega) | exact wrap_i64_in (by omega) | exact wrap_u8_in (by omega)) ?_) | ((with_reducible refine k_bin ?_); refine x_add_in rfl rfl (by omega) ?_) | ((with_reducible refine k_buildSlice ?_); refine m_buildSlice tbOk rfl rfl rfl rfl rfl (by omega) rfl rfl rfl ?_) | refine e_nrm ?_ | refine x_none rfl ?_ | with_reducible refine q_then ?_ | ((with_reducible refine w_region ?_ ?_); kernel_rfl))
        refine x_conv_bytes Tryd.underlying66 Tryd.underlying5 Tryd.underlying9 rfl rfl (by simp) ?_
        repeat (first | ((with_reducible refine k_move ?_); refine m_move rfl ?_)  | refine x_none rfl ?_  )
        refine x_add_s rfl rfl (by rw [strOfNums_size]; simp; omega) ?_
        repeat (first | ((with_reducible refine k_move ?_); refine m_move rfl ?_) | ((with_reducible refine k_assign ?_); refine m_assign rfl ?_) | ((with_reducible refine k_bin ?_); refine x_quo rfl rfl (by first | decide | assumption | omega) ?_)  | refine e_nrm ?_ | refine x_none rfl ?_ | with_reducible refine q_then ?_ | with_reducible refine q_block ?_ | ((with_reducible refine w_region ?_ ?_); kernel_rfl))
        refine ⟨(IntKind.i64.wrap (m.tdiv 10), strOfNums [48 + IntKind.i64.wrap (0 - m.tmod 10)] ++ s), ?_, ?_, ⟨rfl, rfl, rfl, trivial⟩, trivial⟩
        · dsimp only
          rw [hwq]
          refine ⟨by omega, by omega, by omega, ?_⟩
          rw [← hf, t1, ba_app, strOfNums_data, hw]
          refine congrArg (_ ++ ·) (congrArg (· ++ _) ?_)
          show [_] = [_]
          congr 2
        · dsimp only
          rw [hwq]
          omega
      · have hd2 : ¬ m.tmod 10 < 0 := by simpa using hd
        have hw : m.tmod 10 = ((m.natAbs % 10 : Nat) : Int) := by omega
        repeat (first | ((with_reducible refine k_move ?_); refine m_move rfl ?_) | ((with_reducible refine k_convert ?_); refine x_conv_in tbOk rfl rfl rfl (by first | assumption | exact wrap_u64_in (by omega) | exact wrap_i64_in (by omega) | exact wrap_u8_in (by omega)) ?_) | ((with_reducible refine k_bin ?_); refine x_add_in rfl rfl (by omega) ?_) | ((with_reducible refine k_buildSlice ?_); refine m_buildSlice tbOk rfl rfl rfl rfl rfl (by omega) rfl rfl rfl ?_) | refine x_none rfl ?_ | with_reducible refine q_then ?_ | with_reducible refine awp_skip ?_ | ((with_reducible refine w_region ?_ ?_); kernel_rfl))
        refine x_conv_bytes Tryd.underlying66 Tryd.underlying5 Tryd.underlying9 rfl rfl (by simp) ?_
        repeat (first | ((with_reducible refine k_move ?_); refine m_move rfl ?_)  | refine x_none rfl ?_  )
        refine x_add_s rfl rfl (by rw [strOfNums_size]; simp; omega) ?_
        repeat (first | ((with_reducible refine k_move ?_); refine m_move rfl ?_) | ((with_reducible refine k_assign ?_); refine m_assign rfl ?_) | ((with_reducible refine k_bin ?_); refine x_quo rfl rfl (by first | decide | assumption | omega) ?_)  | refine e_nrm ?_ | refine x_none rfl ?_ | with_reducible refine q_then ?_ | with_reducible refine q_block ?_ | ((with_reducible refine w_region ?_ ?_); kernel_rfl))
        refine ⟨(IntKind.i64.wrap (m.tdiv 10), strOfNums [48 + m.tmod 10] ++ s), ?_, ?_, ⟨rfl, rfl, rfl, trivial⟩, trivial⟩
        · dsimp only
          rw [hwq]
          refine ⟨by omega, by omega, by omega, ?_⟩
          rw [← hf, t1, ba_app, strOfNums_data, hw]
          refine congrArg (_ ++ ·) (congrArg (· ++ _) ?_)
          show [_] = [_]
          congr 2
        · dsimp only
          rw [hwq]
          omega
    · have hm0 : m = 0 := by simpa using h
      have hf2 : s.data.toList = digs n.natAbs := by rw [← hf, hm0]; rfl
      repeat (first | ((with_reducible refine k_move ?_); refine m_move rfl ?_) | ((with_reducible refine k_bin ?_); refine m_binI rfl rfl rfl ?_)  | refine e_nrm ?_ | refine x_none rfl ?_ | with_reducible refine q_then ?_ | with_reducible refine q_then_exit ?_ | with_reducible refine awp_seq ?_ | with_reducible refine awp_exit ?_ | ((with_reducible refine q_block_exit ?_ ?_); rfl) | ((with_reducible refine w_region ?_ ?_); kernel_rfl))
      refine w_cond rfl (fun hd => ?_) (fun hd => ?_)
      · rw [if_pos (by simpa using hd)] at hi
        repeat (first | ((with_reducible refine k_move ?_); refine m_move rfl ?_)  | refine x_none rfl ?_  | ((with_reducible refine w_region ?_ ?_); kernel_rfl))
        refine x_add_s rfl rfl (by show 1 + s.size ≤ _; omega) ?_
        repeat (first | ((with_reducible refine k_move ?_); refine m_move rfl ?_) | ((with_reducible refine k_assign ?_); refine m_assign rfl ?_)  | refine e_nrm ?_ | refine x_none rfl ?_ | with_reducible refine q_then ?_ | with_reducible refine awp_seq ?_ | with_reducible refine awp_ret ?_ | ((with_reducible refine w_region ?_ ?_); kernel_rfl))
        refine ret_v (by first | exact .inr rfl | exact .inl rfl) rfl rfl ?_
        unfold txtP
        rw [hi, ← hf2]
        refine congrArg (fun s => AV.v (.string s)) (Eq.symm (ba_ext ?_))
        rw [ba_app]; rfl
      · rw [if_neg (by simpa using hd)] at hi
        repeat (first | ((with_reducible refine k_move ?_); refine m_move rfl ?_) | ((with_reducible refine k_assign ?_); refine m_assign rfl ?_)  | refine e_nrm ?_ | refine x_none rfl ?_ | with_reducible refine q_then ?_ | with_reducible refine awp_seq ?_ | with_reducible refine awp_skip ?_ | with_reducible refine awp_ret ?_ | ((with_reducible refine w_region ?_ ?_); kernel_rfl))
        refine ret_v (by first | exact .inr rfl | exact .inl rfl) rfl rfl ?_
        unfold txtP
        rw [hi, ← hf2]
end Go.Proofs.YtggngllfnboehaaDoor
