/- permitofficelaw02.CalendarTexts, by the abstract machine: for all arguments it answers true; conditions: the table of powers stands. -/
import Derived.Test.YtdejgacclogaiaaDoorCaL
import Derived.Test.YtdejgacclogaiaaDoorCaU
set_option linter.unusedVariables false
set_option linter.unusedSimpArgs false
namespace Go.Proofs.YtdejgacclogaiaaDoor
open Go Go.RowKit
set_option maxRecDepth 10000
variable {G : Nat → Option (List Value)}
theorem four_at {a b c d : ByteArray} {k : Nat} (h : k < 4) (ha : a.size ≤ maxLen) (hb : b.size ≤ maxLen) (hc : c.size ≤ maxLen) (hd : d.size ≤ maxLen) : ∃ q : ByteArray, ([.v (.string a), .v (.string b), .v (.string c), .v (.string d)] : List AV)[k]? = some (.v (.string q)) ∧ q.size ≤ maxLen := by
  obtain rfl | rfl | rfl | rfl : k = 0 ∨ k = 1 ∨ k = 2 ∨ k = 3 := by omega
  · exact ⟨a, rfl, ha⟩
  · exact ⟨b, rfl, hb⟩
  · exact ⟨c, rfl, hc⟩
  · exact ⟨d, rfl, hd⟩
set_option maxHeartbeats 4000000 in
theorem texts_law (t at_ by_ : Int) (ha0 : 0 ≤ at_) (ha1 : at_ ≤ 255) (hG : GPow G) : ACalls Tryd.prog G 4 [.v (.int .i64 t), .v (.int .u8 at_), .v (.int .u8 by_)] [] (.v (.bool true)) [] := by
  obtain ⟨r1, r2⟩ := modP_rng t (k := 16777217) (by omega)
  refine acalls_of tbOk (enter_of Tryd.func4 (by kernel_rfl) rfl) Tryd.func4 rfl _ Tryd.ntmps4 (Nat.le_of_ble_eq_true rfl) fun X hX => ?_
  subst hX
  repeat (first | ((with_reducible refine k_move ?_); refine m_move rfl ?_) | ((with_reducible refine k_assign ?_); refine m_assign rfl ?_)  | refine e_nrm ?_ | refine x_none rfl ?_ | with_reducible refine q_then ?_ | with_reducible refine awp_seq ?_ | ((with_reducible refine w_region ?_ ?_); kernel_rfl))
  refine x_call0 (mod_A t 16777217 (by omega) (by omega)) (by repeat' (first | exact trivial | exact Ren.v _ | exact Ren.sl _ _ | exact Ren.ep _ | exact Ren.ptr _ _ _ _ rfl | exact Ren.nil _ | exact Ren.own _ _ _ _ ⟨_, rfl⟩ | refine ren_ag ?_ | refine ren_tu ?_ | refine ren_fn ?_ | refine ⟨?_, ?_⟩)) (by repeat' (first | exact trivial | exact RenB.v _ | exact RenB.sl _ _ | exact RenB.ep _ | exact RenB.ptr _ _ _ _ rfl | refine renb_ag ?_ | refine renb_tu ?_ | refine ⟨?_, ?_⟩)) ?_
  repeat (first | ((with_reducible refine k_move ?_); refine m_move rfl ?_) | ((with_reducible refine k_assign ?_); refine m_assign rfl ?_)  | refine e_nrm ?_ | refine x_none rfl ?_ | with_reducible refine q_then ?_ | with_reducible refine awp_seq ?_ | ((with_reducible refine w_region ?_ ?_); kernel_rfl))
  generalize modP t 16777217 = x at r1 r2
  have ht : timeB x = true := timeB_iff.2 (by omega)
  obtain ⟨hp, he, hz1, hz2⟩ := print_parse ht
  have hP := print_A (G := X.G) x hG
  rw [he] at hP
  have hQ := parse_A (G := X.G) (printP x) (by unfold maxLen; omega)
  rw [hp] at hQ
  clear hp he
  generalize printP x = S at hP hQ hz1 hz2
  have n1 := neI x
  have n2 : ((S.size : Int) == 0) = false := by rw [beq_eq_false_iff_ne]; omega
  repeat (first | fail    )
  refine x_call0 (hP) (by repeat' (first | exact trivial | exact Ren.v _ | exact Ren.sl _ _ | exact Ren.ep _ | exact Ren.ptr _ _ _ _ rfl | exact Ren.nil _ | exact Ren.own _ _ _ _ ⟨_, rfl⟩ | refine ren_ag ?_ | refine ren_tu ?_ | refine ren_fn ?_ | refine ⟨?_, ?_⟩)) (by repeat' (first | exact trivial | exact RenB.v _ | exact RenB.sl _ _ | exact RenB.ep _ | exact RenB.ptr _ _ _ _ rfl | refine renb_ag ?_ | refine renb_tu ?_ | refine ⟨?_, ?_⟩)) ?_
  repeat (first | ((with_reducible refine k_move ?_); refine m_move rfl ?_) | ((with_reducible refine k_assign ?_); refine m_assign rfl ?_) | ((with_reducible refine k_extract ?_); refine x_extract rfl rfl ?_)  | refine e_nrm ?_ | refine x_none rfl ?_ | with_reducible refine q_then ?_ | with_reducible refine awp_seq ?_ | ((with_reducible refine w_region ?_ ?_); kernel_rfl))
  refine x_call0 (hQ) (by repeat' (first | exact trivial | exact Ren.v _ | exact Ren.sl _ _ | exact Ren.ep _ | exact Ren.ptr _ _ _ _ rfl | exact Ren.nil _ | exact Ren.own _ _ _ _ ⟨_, rfl⟩ | refine ren_ag ?_ | refine ren_tu ?_ | refine ren_fn ?_ | refine ⟨?_, ?_⟩)) (by repeat' (first | exact trivial | exact RenB.v _ | exact RenB.sl _ _ | exact RenB.ep _ | exact RenB.ptr _ _ _ _ rfl | refine renb_ag ?_ | refine renb_tu ?_ | refine ⟨?_, ?_⟩)) ?_
  repeat (first | ((with_reducible refine k_move ?_); refine m_move rfl ?_) | ((with_reducible refine k_assign ?_); refine m_assign rfl ?_) | ((with_reducible refine k_extract ?_); refine x_extract rfl rfl ?_) | ((with_reducible refine k_pick ?_); refine m_pickf rfl (by first | rfl | assumption) rfl ?_) | ((with_reducible refine k_call ?_); refine x_len_str (by exact Tryd.underlying9) rfl ?_) | ((with_reducible refine k_bin ?_); refine m_binI rfl rfl rfl ?_)  | refine e_nrm ?_ | refine x_none rfl ?_ | refine x_run_f rfl rfl (by first | rfl | assumption) ?_ | with_reducible refine q_then ?_ | with_reducible refine awp_seq ?_ | with_reducible refine awp_skip ?_ | ((with_reducible refine w_region ?_ ?_); kernel_rfl) | refine w_cond_f rfl (by first | rfl | assumption) ?_)
  with_reducible refine k_convert ?_
  refine x_conv_by Tryd.underlying9 Tryd.underlying37 Tryd.underlying5 rfl rfl ?_
  repeat (first | ((with_reducible refine k_move ?_); refine m_move rfl ?_) | ((with_reducible refine k_assign ?_); refine m_assign rfl ?_) | ((with_reducible refine k_convert ?_); refine x_conv_in tbOk rfl rfl rfl (by first | assumption | exact wrap_u64_in (by omega) | exact wrap_i64_in (by omega) | exact wrap_u8_in (by omega)) ?_)  | refine e_nrm ?_ | refine x_none rfl ?_ | with_reducible refine q_then ?_ | with_reducible refine awp_seq ?_ | ((with_reducible refine w_region ?_ ?_); kernel_rfl))
  have hnl := numsS_len S
  with_reducible refine k_call ?_
  refine x_len_by tbOk rfl rfl rfl rfl ?_
  have hn0 : ((numsS S).length : Int) ≠ 0 := by omega
  have hrem : 0 ≤ at_.tmod ((numsS S).length : Int) ∧ at_.tmod ((numsS S).length : Int) < ((numsS S).length : Int) := by
    rw [Int.tmod_eq_emod_of_nonneg ha0]
    exact ⟨Int.emod_nonneg _ hn0, Int.emod_lt_of_pos _ (by omega)⟩
  repeat (first | ((with_reducible refine k_move ?_); refine m_move rfl ?_) | ((with_reducible refine k_bin ?_); refine x_rem rfl rfl (by first | decide | assumption | omega) ?_)  | refine x_none rfl ?_  )
  with_reducible refine k_indexAddr ?_
  refine x_indexAddr_by tbOk rfl rfl rfl rfl rfl rfl hrem ?_
  repeat (first   | refine x_none rfl ?_  )
  with_reducible refine k_store ?_
  refine x_store_by tbOk rfl rfl rfl rfl rfl (by omega) ?_
  repeat (first | ((with_reducible refine k_move ?_); refine m_move rfl ?_)  | refine e_nrm ?_ | refine x_none rfl ?_ | with_reducible refine q_then ?_ | with_reducible refine awp_seq ?_ | ((with_reducible refine w_draw mixd ?_ ?_); kernel_rfl))
  have hl2 : (strOfNums ((numsS S).set (at_.tmod ((numsS S).length : Int)).toNat by_)).size = S.size := by rw [strOfNums_size, List.length_set, hnl]
  generalize (numsS S).set (at_.tmod ((numsS S).length : Int)).toNat by_ = N2 at hl2
  with_reducible refine k_convert ?_
  refine x_conv_ybs Tryd.underlying37 Tryd.underlying5 Tryd.underlying9 rfl rfl rfl ?_
  repeat (first | ((with_reducible refine k_move ?_); refine m_move rfl ?_) | ((with_reducible refine k_slice ?_); refine x_sliceS (by exact Tryd.underlying9) rfl rfl rfl (by refine ⟨?_, ?_, ?_⟩ <;> omega) ?_)  | refine x_none rfl ?_  )
  refine x_add_s rfl rfl (by show 1 + S.size ≤ _; omega) ?_
  repeat (first | ((with_reducible refine k_move ?_); refine m_move rfl ?_)  | refine x_none rfl ?_  )
  refine x_add_s rfl rfl (by show S.size + 1 ≤ _; omega) ?_
  repeat (first | ((with_reducible refine k_move ?_); refine m_move rfl ?_) | ((with_reducible refine k_call ?_); refine x_len tbOk rfl rfl ?_) | ((with_reducible refine k_buildSlice ?_); refine m_buildSlice tbOk rfl rfl rfl rfl rfl (by omega) rfl rfl rfl ?_) | refine e_drw (by kernel_rfl) ?_ | refine x_none rfl ?_ | with_reducible refine q_then ?_ | with_reducible refine awp_block ?_ )
  refine awp_loop (ι := Nat) (fun k => k ≤ 4) (fun k => 4 - k) (fun v k => [(65, .sl 1 [.v (.string (strOfNums N2)), .v (.string (S.extract (1 : Int).toNat (S.size : Int).toNat)), .v (.string (⟨#[48]⟩ ++ S)), .v (.string (S ++ ⟨#[32]⟩))]), (66, .v (.int .i64 4)), (67, .v (.int .i64 k))]) (fun v k => []) ?_ ?_
  · exact ⟨0, by omega, trivial, ⟨rfl, rfl, rfl, trivial⟩, trivial⟩
  rintro v k hk
  repeat (first | ((with_reducible refine k_bin ?_); refine m_binI rfl rfl rfl ?_)  | refine e_nrm ?_ | refine x_none rfl ?_ | with_reducible refine q_then ?_ | with_reducible refine awp_seq ?_ | ((with_reducible refine w_region ?_ ?_); kernel_rfl))
  refine w_cond rfl (fun h => ?_) (fun h => ?_)
  · have hlt : k < 4 := by simp at h; omega
    obtain ⟨q, hx, hq⟩ := four_at hlt (a := strOfNums N2) (b := S.extract (1 : Int).toNat (S.size : Int).toNat) (c := ⟨#[48]⟩ ++ S) (d := S ++ ⟨#[32]⟩) (by unfold maxLen; omega) (by rw [ByteArray.size_extract]; unfold maxLen; omega) (by rw [ByteArray.size_append]; show 1 + S.size ≤ _; unfold maxLen; omega) (by rw [ByteArray.size_append]; show S.size + 1 ≤ _; unfold maxLen; omega)
    have hM1 := parse_A (G := X.G) q hq
    have hM2 := rparse_A (G := X.G) q hq
    generalize parseP q.data.toList = mk at hM1 hM2
    have n1 := neI mk.1
    have n2 := neI mk.2
    repeat (first | ((with_reducible refine k_move ?_); refine m_move rfl ?_) | ((with_reducible refine k_assign ?_); refine m_assign rfl ?_) | ((with_reducible refine k_load ?_); refine x_load_ep_one tbOk rfl rfl rfl ?_) | ((with_reducible refine k_indexAddr ?_); refine x_indexAddr_n tbOk rfl rfl rfl rfl (by assumption) ?_)  | refine e_nrm ?_ | refine x_none rfl ?_ | with_reducible refine q_then ?_ | with_reducible refine awp_seq ?_ | with_reducible refine awp_block ?_ | with_reducible refine awp_skip ?_ | ((with_reducible refine w_region ?_ ?_); kernel_rfl))
    refine x_call0 (hM1) (by repeat' (first | exact trivial | exact Ren.v _ | exact Ren.sl _ _ | exact Ren.ep _ | exact Ren.ptr _ _ _ _ rfl | exact Ren.nil _ | exact Ren.own _ _ _ _ ⟨_, rfl⟩ | refine ren_ag ?_ | refine ren_tu ?_ | refine ren_fn ?_ | refine ⟨?_, ?_⟩)) (by repeat' (first | exact trivial | exact RenB.v _ | exact RenB.sl _ _ | exact RenB.ep _ | exact RenB.ptr _ _ _ _ rfl | refine renb_ag ?_ | refine renb_tu ?_ | refine ⟨?_, ?_⟩)) ?_
    repeat (first | ((with_reducible refine k_move ?_); refine m_move rfl ?_) | ((with_reducible refine k_assign ?_); refine m_assign rfl ?_) | ((with_reducible refine k_extract ?_); refine x_extract rfl rfl ?_)  | refine e_nrm ?_ | refine x_none rfl ?_ | with_reducible refine q_then ?_ | with_reducible refine awp_seq ?_ | ((with_reducible refine w_region ?_ ?_); kernel_rfl))
    refine x_call0 (hM2) (by repeat' (first | exact trivial | exact Ren.v _ | exact Ren.sl _ _ | exact Ren.ep _ | exact Ren.ptr _ _ _ _ rfl | exact Ren.nil _ | exact Ren.own _ _ _ _ ⟨_, rfl⟩ | refine ren_ag ?_ | refine ren_tu ?_ | refine ren_fn ?_ | refine ⟨?_, ?_⟩)) (by repeat' (first | exact trivial | exact RenB.v _ | exact RenB.sl _ _ | exact RenB.ep _ | exact RenB.ptr _ _ _ _ rfl | refine renb_ag ?_ | refine renb_tu ?_ | refine ⟨?_, ?_⟩)) ?_
    repeat (first | ((with_reducible refine k_move ?_); refine m_move rfl ?_) | ((with_reducible refine k_assign ?_); refine m_assign rfl ?_) | ((with_reducible refine k_extract ?_); refine x_extract rfl rfl ?_) | ((with_reducible refine k_pick ?_); refine m_pickf rfl (by first | rfl | assumption) rfl ?_) | ((with_reducible refine k_bin ?_); refine x_add_in rfl rfl (by omega) ?_) | ((with_reducible refine k_bin ?_); refine m_binI rfl rfl rfl ?_)  | refine e_nrm ?_ | refine x_none rfl ?_ | refine x_run_f rfl rfl (by first | rfl | assumption) ?_ | with_reducible refine q_then ?_ | with_reducible refine q_block ?_ | with_reducible refine awp_seq ?_ | with_reducible refine awp_skip ?_ | ((with_reducible refine w_region ?_ ?_); kernel_rfl) | refine w_cond_f rfl (by first | rfl | assumption) ?_)
    exact ⟨k + 1, by omega, by omega, ⟨rfl, rfl, rfl, trivial⟩, trivial⟩
  · repeat (first   | refine x_none rfl ?_ | with_reducible refine q_then ?_ | with_reducible refine q_then_exit ?_ | with_reducible refine awp_seq ?_ | with_reducible refine awp_exit ?_ | ((with_reducible refine q_block_exit ?_ ?_); rfl) | ((with_reducible refine w_region ?_ ?_); kernel_rfl))
    refine x_call0 (awake_A hG) (by repeat' (first | exact trivial | exact Ren.v _ | exact Ren.sl _ _ | exact Ren.ep _ | exact Ren.ptr _ _ _ _ rfl | exact Ren.nil _ | exact Ren.own _ _ _ _ ⟨_, rfl⟩ | refine ren_ag ?_ | refine ren_tu ?_ | refine ren_fn ?_ | refine ⟨?_, ?_⟩)) (by repeat' (first | exact trivial | exact RenB.v _ | exact RenB.sl _ _ | exact RenB.ep _ | exact RenB.ptr _ _ _ _ rfl | refine renb_ag ?_ | refine renb_tu ?_ | refine ⟨?_, ?_⟩)) ?_
    repeat (first | ((with_reducible refine k_assign ?_); refine m_assign rfl ?_)  | refine e_nrm ?_ | refine x_none rfl ?_ | with_reducible refine q_then ?_ | with_reducible refine awp_ret ?_ )
    refine ret_v (by first | exact .inr rfl | exact .inl rfl) rfl rfl ?_
    rfl
end Go.Proofs.YtdejgacclogaiaaDoor
