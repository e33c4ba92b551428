/- lexeme.Words, Join, Lines, their references, and the comparison of lists, by the abstract machine; conditions: a cell of the library stands. -/
import Derived.Test.YtggagmafkdhjcaaGreatDoorLexP
import Derived.Test.YtggagmafkdhjcaaGreatDoorNmA
set_option linter.unusedVariables false
set_option linter.unusedSimpArgs false
namespace Go.Proofs.YtggagmafkdhjcaaGreatDoor
open Go Go.RowKit
set_option maxRecDepth 10000
variable {G : Nat → Option (List Value)}
theorem words_A (s : ByteArray) (hs : s.size ≤ 4294967296) : ACalls Tryz.prog G 57 [.v (.string s)] [] (.sl 1 ((wordsL s.data.toList).map svL)) [] := by
  refine acalls_of tbOk (enter_of Tryz.func57 (by kernel_rfl) rfl) Tryz.func57 rfl _ Tryz.ntmps57 (Nat.le_of_ble_eq_true rfl) fun X hX => ?_
  subst hX
  repeat (first | ((with_reducible refine k_move ?_); refine m_move rfl ?_) | ((with_reducible refine k_assign ?_); refine m_assign rfl ?_)  | refine e_nrm ?_ | refine x_none rfl ?_ | with_reducible (first | refine q_then ?_ | refine awp_seq ?_) | ((with_reducible refine w_region ?_ ?_); kernel_rfl))
  refine zC (fields_A s hs) ?_
  repeat (first | ((with_reducible refine k_assign ?_); refine m_assign rfl ?_)  | refine e_nrm ?_ | refine x_none rfl ?_ | with_reducible (first | refine q_then ?_ | refine awp_ret ?_) )
  refine ret0_1 (by first | exact .inr rfl | exact .inl rfl) rfl rfl ?_
  repeat' (first | exact trivial | exact Ren.v _ | exact Ren.sl _ _ | exact Ren.ep _ | exact Ren.ptr _ _ _ _ rfl | exact Ren.bs _ _ _ _ _ rfl | exact Ren.nil _ | exact Ren.own _ _ _ _ ⟨_, rfl⟩ | refine ren_ag ?_ | refine ren_tu ?_ | refine ren_fn ?_ | refine ⟨?_, ?_⟩)
theorem ba_ext' {s : ByteArray} {l : List UInt8} (h : s.data.toList = l) : s = strL l := by
  subst h; rfl
theorem ext_strL (s : ByteArray) (a b : Nat) : s.extract a b = strL (extL s (a, b)) := by
  refine ba_ext' ?_
  rw [ByteArray.data_extract, Array.toList_extract, List.extract_eq_take_drop, extL, List.drop_take]
theorem extL_self (s : ByteArray) (a : Nat) : extL s (a, a) = [] := by
  unfold extL
  simp only
  exact List.drop_of_length_le (by rw [List.length_take]; omega)
theorem extL_next {s : ByteArray} {a k : Nat} {c : UInt8} (hx : s.data.toList[k]? = some c) (h : a ≤ k) : extL s (a, k + 1) = extL s (a, k) ++ [c] := by
  rw [extL_app s h (show k ≤ k + 1 by omega)]
  congr 1
  unfold extL
  simp only
  have hlt := lt_at hx
  rw [take_at hx, List.drop_append_of_le_length (by rw [List.length_take]; omega), List.drop_of_length_le (by rw [List.length_take]; omega)]
  rfl
set_option maxHeartbeats 2000000 in
theorem rwords_A (s : ByteArray) (hs : s.size ≤ 4294967296) : ACalls Tryz.prog G 49 [.v (.string s)] [] (.sl 1 ((wordsL s.data.toList).map svL)) [] := by
  have hz := nsizeS s
  refine acalls_of tbOk (enter_of Tryz.func49 (by kernel_rfl) rfl) Tryz.func49 rfl _ Tryz.ntmps49 (Nat.le_of_ble_eq_true rfl) fun X hX => ?_
  subst hX
  repeat (first | ((with_reducible refine k_assign ?_); refine m_assign rfl ?_)  | refine e_nrm ?_ | refine x_none rfl ?_ | with_reducible (first | refine q_then ?_ | refine awp_seq ?_ | refine awp_block ?_) | ((with_reducible refine w_region ?_ ?_); kernel_rfl))
  refine awp_own (t := 3) (s := 31) 9 1 rfl rfl ?_
  refine awp_loop (ι := Nat × Nat × List (List UInt8)) (fun q => q.2.1 ≤ s.size + 1 ∧ q.2.2.length ≤ q.2.1 ∧ (q.2.1 ≤ s.size → q.1 ≤ q.2.1 ∧ q.2.2 ++ wl (extL s (q.1, q.2.1)) (s.data.toList.drop q.2.1) = wordsL s.data.toList) ∧ (s.size < q.2.1 → q.2.2 = wordsL s.data.toList)) (fun q => s.size + 1 - q.2.1) (fun v q => [(0, .v (.string s)), (3, .own 31 (v 31)), (4, .v (.int .i64 (q.1 : Nat))), (5, .v (.int .i64 (q.2.1 : Nat)))]) (fun v q => [(31, .buf 9 1 (q.2.2.map svL))]) ?_ ?_
  · refine ⟨(0, 0, []), ⟨Nat.zero_le _, Nat.zero_le _, fun _ => ⟨Nat.le_refl _, ?_⟩, fun h => absurd h (Nat.not_lt_zero _)⟩, trivial, ⟨rfl, rfl, rfl, rfl, trivial⟩, ⟨rfl, trivial⟩⟩
    show [] ++ wl (extL s (0, 0)) _ = _
    rw [extL_self]; rfl
  rintro v ⟨a, k, D⟩ ⟨hk, hD, h1, h2⟩
  simp only at hk hD h1 h2
  dsimp only
  repeat (first | ((with_reducible refine k_move ?_); refine m_move rfl ?_) | ((with_reducible refine k_call ?_); refine x_len_str (by exact Tryz.underlying9) rfl ?_) | ((with_reducible refine k_bin ?_); refine m_binI rfl rfl rfl ?_)  | refine e_nrm ?_ | refine x_none rfl ?_ | with_reducible (first | refine q_then ?_ | refine awp_seq ?_) | ((with_reducible refine w_region ?_ ?_); kernel_rfl))
  refine w_cond rfl (fun h => ?_) (fun h => ?_)
  · have hkn : k ≤ s.size := by simp at h; omega
    obtain ⟨ha, hw⟩ := h1 hkn
    repeat (first | ((with_reducible refine k_move ?_); refine m_move rfl ?_) | ((with_reducible refine k_call ?_); refine x_len_str (by exact Tryz.underlying9) rfl ?_) | ((with_reducible refine k_bin ?_); refine m_binI rfl rfl rfl ?_)  | refine x_none rfl ?_ | with_reducible (first | refine q_then ?_ | refine awp_seq ?_ | refine awp_block ?_ | refine awp_skip ?_) | ((with_reducible refine w_region ?_ ?_); kernel_rfl))
    by_cases he : k = s.size
    · subst he
      have p1 : ((s.size : Int) == (s.size : Int)) = true := by simp
      rw [List.drop_of_length_le (by omega)] at hw
      repeat (first | ((with_reducible refine k_move ?_); refine m_move rfl ?_) | ((with_reducible refine k_pick ?_); refine m_pickt rfl (by first | rfl | assumption) rfl ?_) | ((with_reducible refine k_bin ?_); refine m_binI rfl rfl rfl ?_)  | refine e_nrm ?_ | refine x_none rfl ?_ | refine x_skip_f rfl rfl (by first | rfl | assumption) ?_ | with_reducible (first | refine q_then ?_ | refine awp_seq ?_) | ((with_reducible refine w_region ?_ ?_); kernel_rfl) | refine w_cond_t rfl (by first | rfl | assumption) ?_)
      refine w_cond rfl (fun hc => ?_) (fun hc => ?_)
      · have hlt : a < s.size := by simpa using hc
        rw [wl, if_neg (extL_ne s hlt (Nat.le_refl _))] at hw
        repeat (first | ((with_reducible refine k_move ?_); refine m_move rfl ?_) | ((with_reducible refine k_slice ?_); refine x_sliceS (by exact Tryz.underlying9) rfl rfl rfl (by refine ⟨?_, ?_, ?_⟩ <;> omega) ?_) | ((with_reducible refine k_buildSlice ?_); refine m_buildSlice tbOk rfl rfl rfl rfl rfl (by omega) rfl rfl rfl ?_) | refine x_none rfl ?_  | ((with_reducible refine w_region ?_ ?_); kernel_rfl))
        rw [ext_strL]
        refine x_append_own tbOk rfl rfl rfl rfl rfl (by decide) rfl rfl rfl rfl rfl (fun x hx => by simp at hx; subst hx; rfl) (by simp only [List.length_map, List.length_cons, List.length_nil]; omega) (by simp only [List.length_map, List.length_cons, List.length_nil]; omega) ?_
        repeat (first | ((with_reducible refine k_move ?_); refine m_move rfl ?_) | ((with_reducible refine k_assign ?_); refine m_assign rfl ?_) | ((with_reducible refine k_bin ?_); refine x_add_in rfl rfl (by omega) ?_)  | refine e_nrm ?_ | refine x_none rfl ?_ | with_reducible (first | refine q_then ?_ | refine q_block ?_) | ((with_reducible refine w_region ?_ ?_); kernel_rfl))
        refine ⟨(s.size + 1, s.size + 1, D ++ [extL s (a, s.size)]), ⟨Nat.le_refl _, by simp; omega, fun h => absurd h (by show ¬ s.size + 1 ≤ s.size; omega), fun _ => hw⟩, by show s.size + 1 - (s.size + 1) < s.size + 1 - s.size; omega, ⟨rfl, rfl, rfl, rfl, trivial⟩, ⟨?_, trivial⟩⟩
        exact hc_buf (by rw [List.map_append]; rfl)
      · have hge : a = s.size := by simp at hc; omega
        subst hge
        rw [extL_self, wl, if_pos rfl, List.append_nil] at hw
        repeat (first | ((with_reducible refine k_move ?_); refine m_move rfl ?_) | ((with_reducible refine k_assign ?_); refine m_assign rfl ?_) | ((with_reducible refine k_bin ?_); refine x_add_in rfl rfl (by omega) ?_)  | refine e_nrm ?_ | refine x_none rfl ?_ | with_reducible (first | refine q_then ?_ | refine q_block ?_ | refine awp_skip ?_) | ((with_reducible refine w_region ?_ ?_); kernel_rfl))
        exact ⟨(s.size + 1, s.size + 1, D), ⟨Nat.le_refl _, by show D.length ≤ s.size + 1; omega, fun h => absurd h (by show ¬ s.size + 1 ≤ s.size; omega), fun _ => hw⟩, by show s.size + 1 - (s.size + 1) < s.size + 1 - s.size; omega, ⟨rfl, rfl, rfl, rfl, trivial⟩, ⟨rfl, trivial⟩⟩
    · have hlt : k < s.size := by omega
      have p1 : ((k : Int) == (s.size : Int)) = false := by rw [beq_eq_false_iff_ne]; omega
      obtain ⟨c, hx⟩ := some_at (L := s.data.toList) (k := k) (by omega)
      have ix := nidxS s k c hx
      rw [drop_at hx, wl] at hw
      repeat (first | ((with_reducible refine k_move ?_); refine m_move rfl ?_) | ((with_reducible refine k_pick ?_); refine m_pickf rfl (by first | rfl | assumption) rfl ?_) | ((with_reducible refine k_index ?_); refine x_index rfl rfl (by assumption) ?_) | ((with_reducible refine k_bin ?_); refine m_binI rfl rfl rfl ?_)  | refine e_nrm ?_ | refine x_none rfl ?_ | refine x_run_f rfl rfl (by first | rfl | assumption) ?_ | with_reducible refine q_then ?_ )
      by_cases hc32 : c = 32
      · subst hc32
        have p2 : (((32 : UInt8).toNat : Int) == 32) = true := rfl
        rw [if_pos rfl] at hw
        repeat (first | ((with_reducible refine k_move ?_); refine m_move rfl ?_) | ((with_reducible refine k_bin ?_); refine m_binI rfl rfl rfl ?_)  | refine e_nrm ?_ | refine x_none rfl ?_ | with_reducible (first | refine q_then ?_ | refine awp_seq ?_) | ((with_reducible refine w_region ?_ ?_); kernel_rfl) | refine w_cond_t rfl (by first | rfl | assumption) ?_)
        refine w_cond rfl (fun hc => ?_) (fun hc => ?_)
        · have hlt2 : a < k := by simpa using hc
          rw [if_neg (extL_ne s hlt2 (by omega))] at hw
          repeat (first | ((with_reducible refine k_move ?_); refine m_move rfl ?_) | ((with_reducible refine k_slice ?_); refine x_sliceS (by exact Tryz.underlying9) rfl rfl rfl (by refine ⟨?_, ?_, ?_⟩ <;> omega) ?_) | ((with_reducible refine k_buildSlice ?_); refine m_buildSlice tbOk rfl rfl rfl rfl rfl (by omega) rfl rfl rfl ?_) | refine x_none rfl ?_  | ((with_reducible refine w_region ?_ ?_); kernel_rfl))
          rw [ext_strL]
          refine x_append_own tbOk rfl rfl rfl rfl rfl (by decide) rfl rfl rfl rfl rfl (fun x hx => by simp at hx; subst hx; rfl) (by simp only [List.length_map, List.length_cons, List.length_nil]; omega) (by simp only [List.length_map, List.length_cons, List.length_nil]; omega) ?_
          repeat (first | ((with_reducible refine k_move ?_); refine m_move rfl ?_) | ((with_reducible refine k_assign ?_); refine m_assign rfl ?_) | ((with_reducible refine k_bin ?_); refine x_add_in rfl rfl (by omega) ?_)  | refine e_nrm ?_ | refine x_none rfl ?_ | with_reducible (first | refine q_then ?_ | refine q_block ?_) | ((with_reducible refine w_region ?_ ?_); kernel_rfl))
          refine ⟨(k + 1, k + 1, D ++ [extL s (a, k)]), ⟨by show k + 1 ≤ s.size + 1; omega, by simp; omega, fun _ => ⟨Nat.le_refl _, ?_⟩, fun h => absurd h (by show ¬ s.size < k + 1; omega)⟩, by show s.size + 1 - (k + 1) < s.size + 1 - k; omega, ⟨rfl, rfl, rfl, rfl, trivial⟩, ⟨?_, trivial⟩⟩
          · show D ++ [extL s (a, k)] ++ wl (extL s (k + 1, k + 1)) _ = _
            rw [extL_self, ← hw]; simp
          · exact hc_buf (by rw [List.map_append]; rfl)
        · have hge : a = k := by simp at hc; omega
          subst hge
          rw [extL_self, if_pos rfl] at hw
          repeat (first | ((with_reducible refine k_move ?_); refine m_move rfl ?_) | ((with_reducible refine k_assign ?_); refine m_assign rfl ?_) | ((with_reducible refine k_bin ?_); refine x_add_in rfl rfl (by omega) ?_)  | refine e_nrm ?_ | refine x_none rfl ?_ | with_reducible (first | refine q_then ?_ | refine q_block ?_ | refine awp_skip ?_) | ((with_reducible refine w_region ?_ ?_); kernel_rfl))
          refine ⟨(a + 1, a + 1, D), ⟨by show a + 1 ≤ s.size + 1; omega, by show D.length ≤ a + 1; omega, fun _ => ⟨Nat.le_refl _, ?_⟩, fun h => absurd h (by show ¬ s.size < a + 1; omega)⟩, by show s.size + 1 - (a + 1) < s.size + 1 - a; omega, ⟨rfl, rfl, rfl, rfl, trivial⟩, ⟨rfl, trivial⟩⟩
          show D ++ wl (extL s (a + 1, a + 1)) _ = _
          rw [extL_self, ← hw]
      · have p2 : ((c.toNat : Int) == 32) = false := by
          rw [beq_eq_false_iff_ne]
          intro e
          exact hc32 (UInt8.toNat_inj.1 (by show c.toNat = 32; omega))
        rw [if_neg hc32] at hw
        repeat (first | ((with_reducible refine k_move ?_); refine m_move rfl ?_) | ((with_reducible refine k_assign ?_); refine m_assign rfl ?_) | ((with_reducible refine k_bin ?_); refine x_add_in rfl rfl (by omega) ?_)  | refine e_nrm ?_ | refine x_none rfl ?_ | with_reducible (first | refine q_then ?_ | refine q_block ?_ | refine awp_skip ?_) | ((with_reducible refine w_region ?_ ?_); kernel_rfl) | refine w_cond_f rfl (by first | rfl | assumption) ?_)
        refine ⟨(a, k + 1, D), ⟨by show k + 1 ≤ s.size + 1; omega, by show D.length ≤ k + 1; omega, fun _ => ⟨by show a ≤ k + 1; omega, ?_⟩, fun h => absurd h (by show ¬ s.size < k + 1; omega)⟩, by show s.size + 1 - (k + 1) < s.size + 1 - k; omega, ⟨rfl, rfl, rfl, rfl, trivial⟩, ⟨rfl, trivial⟩⟩
        show D ++ wl (extL s (a, k + 1)) _ = _
        rw [extL_next hx ha, ← hw]
  · have hD2 := h2 (by simp at h; omega)
    subst hD2
    repeat (first | ((with_reducible refine k_move ?_); refine m_move rfl ?_) | ((with_reducible refine k_assign ?_); refine m_assign rfl ?_)  | refine e_nrm ?_ | refine x_none rfl ?_ | with_reducible (first | refine q_then ?_ | refine q_then_exit ?_ | refine awp_seq ?_ | refine awp_exit ?_ | refine awp_ret ?_) | ((with_reducible refine q_block_exit ?_ ?_); rfl) | ((with_reducible refine w_region ?_ ?_); kernel_rfl))
    refine ret0_1 (by first | exact .inr rfl | exact .inl rfl) rfl rfl ?_
    repeat' (first | exact trivial | exact Ren.v _ | exact Ren.sl _ _ | exact Ren.ep _ | exact Ren.ptr _ _ _ _ rfl | exact Ren.bs _ _ _ _ _ rfl | exact Ren.nil _ | exact Ren.own _ _ _ _ ⟨_, rfl⟩ | refine ren_ag ?_ | refine ren_tu ?_ | refine ren_fn ?_ | refine ⟨?_, ?_⟩)
theorem jn_A (L : List (List UInt8)) (hn : L.length ≤ 140737488355328) (hs : (joinW L).length ≤ 140737488355328) : ACalls Tryz.prog G 28 [.sl 1 (L.map svL)] [] (svL (joinW L)) [] := by
  refine acalls_of tbOk (enter_of Tryz.func28 (by kernel_rfl) rfl) Tryz.func28 rfl _ Tryz.ntmps28 (Nat.le_of_ble_eq_true rfl) fun X hX => ?_
  subst hX
  repeat (first | ((with_reducible refine k_move ?_); refine m_move rfl ?_) | ((with_reducible refine k_assign ?_); refine m_assign rfl ?_)  | refine e_nrm ?_ | refine x_none rfl ?_ | with_reducible (first | refine q_then ?_ | refine awp_seq ?_) | ((with_reducible refine w_region ?_ ?_); kernel_rfl))
  refine zC (join_A L 32 hn hs) ?_
  repeat (first | ((with_reducible refine k_assign ?_); refine m_assign rfl ?_)  | refine e_nrm ?_ | refine x_none rfl ?_ | with_reducible (first | refine q_then ?_ | refine awp_ret ?_) )
  refine ret_v (by first | exact .inr rfl | exact .inl rfl) rfl rfl ?_
  rfl
end Go.Proofs.YtggagmafkdhjcaaGreatDoor
