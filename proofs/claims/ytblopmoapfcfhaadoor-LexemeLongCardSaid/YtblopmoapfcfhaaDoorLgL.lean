/- permitofficelaw01.LexemeLong, by the abstract machine: for every number it answers true; conditions: the tables and a cell of the library stand. -/
import Derived.Test.YtblopmoapfcfhaaDoorLxL
import Derived.Test.YtblopmoapfcfhaaDoorAbsV
set_option linter.unusedVariables false
set_option linter.unusedSimpArgs false
namespace Go.Proofs.YtblopmoapfcfhaaDoor
open Go Go.RowKit
set_option maxRecDepth 10000
variable {G : Nat → Option (List Value)}
theorem infU8 : (Tryd.prog.info? 5).map (fun i => (i.zero, i.size, i.bytes)) = some (some (.int .u8 0), 1, 1) := by kernel_rfl
/-- The bytes of the long text, when k of them are laid. -/
def lgB (n k : Nat) : List Int := List.replicate k 97 ++ List.replicate (n - k) 0
theorem lgB_len {n k : Nat} (h : k ≤ n) : (lgB n k).length = n := by
  unfold lgB
  rw [List.length_append, List.length_replicate, List.length_replicate]; omega
theorem lgB_set {n k : Nat} (h : k < n) : (lgB n k).set k 97 = lgB n (k + 1) := by
  unfold lgB
  rw [List.set_append_right _ _ (by rw [List.length_replicate]; exact Nat.le_refl _), List.length_replicate, Nat.sub_self, show n - k = (n - (k + 1)) + 1 by omega, List.replicate_succ, List.set_cons_zero, show List.replicate (k + 1) (97 : Int) = List.replicate k 97 ++ [97] from List.replicate_succ']
  simp
theorem lgB_last {n : Nat} (h : 0 < n) : (lgB n n).set (n - 1) 10 = List.replicate (n - 1) 97 ++ [10] := by
  unfold lgB
  rw [Nat.sub_self, List.replicate_zero, List.append_nil]
  obtain ⟨m, rfl⟩ : ∃ m, n = m + 1 := ⟨n - 1, by omega⟩
  rw [Nat.add_sub_cancel, List.replicate_succ', List.set_append_right _ _ (by rw [List.length_replicate]; exact Nat.le_refl _), List.length_replicate, Nat.sub_self]
  rfl
theorem strOf_map (l : List Int) : strOfNums l = strL (l.map fun n => UInt8.ofNat n.toNat) := rfl
theorem lg_lines (m : Nat) : linesL (List.replicate m 97 ++ [10]) = if m + 1 ≤ 65536 then some [List.replicate m 97] else none := by
  have hne : List.replicate m (97 : UInt8) ++ [10] ≠ [] := by simp
  have hlen : (List.replicate m (97 : UInt8) ++ [10]).length = m + 1 := by simp
  by_cases h : m + 1 ≤ 65536
  · rw [if_pos h, lines_some hne (by omega) (by simp) ?_, ll_split]
    · have := splitL_none 10 (p := List.replicate m (97 : UInt8)) (cur := []) (fun hm => by
        have := List.eq_of_mem_replicate hm
        exact absurd this (by decide))
      rw [this]; rfl
    · rw [List.all_append]
      have : (List.replicate m (97 : UInt8)).all okB = true := by
        rw [List.all_eq_true]
        intro c hc
        rw [List.eq_of_mem_replicate hc]
        decide
      rw [this]; rfl
  · rw [if_neg h, lines_none hne (.inl (.inl (by omega)))]
theorem lg_name : ∀ k : Fin 9, nameB (List.replicate (k.val + 8) 97) = decide (((k.val : Int) + 8) ≤ 12) := by decide +kernel
set_option maxHeartbeats 4000000 in
theorem long_law (u : Int) (hu : 0 ≤ u) (hC : GCls G) (hG : GPow G) (hM : GMax G) : ACalls Tryd.prog G 5 [.v (.int .u8 u)] [] (.v (.bool true)) [] := by
  have h3 : u.tmod 3 = u % 3 := Int.tmod_eq_emod_of_nonneg hu
  have h9 : u.tmod 9 = u % 9 := Int.tmod_eq_emod_of_nonneg hu
  obtain ⟨n, hn⟩ : ∃ n : Nat, 65535 + u % 3 = (n : Int) := ⟨(65535 + u % 3).toNat, by omega⟩
  have hn1 : 65535 ≤ n ∧ n ≤ 65537 := by omega
  obtain ⟨hn1, hn2⟩ := hn1
  obtain ⟨k9, hk9⟩ : ∃ k : Fin 9, u % 9 = (k.val : Int) := ⟨⟨(u % 9).toNat, by omega⟩, by simp; omega⟩
  have hk9b : k9.val < 9 := k9.isLt
  have hnat : (n : Int).toNat = n := by omega
  refine acalls_of tbOk (enter_of Tryd.func5 (by kernel_rfl) rfl) Tryd.func5 rfl _ Tryd.ntmps5 (Nat.le_of_ble_eq_true rfl) fun X hX => ?_
  subst hX
  repeat (first | ((with_reducible refine k_move ?_); refine m_move rfl ?_) | ((with_reducible refine k_assign ?_); refine m_assign rfl ?_) | ((with_reducible refine k_convert ?_); refine x_conv_in tbOk rfl rfl rfl (by first | assumption | exact wrap_u64_in (by omega) | exact wrap_i64_in (by omega) | exact wrap_u8_in (by omega)) ?_) | ((with_reducible refine k_bin ?_); refine x_add_in rfl rfl (by omega) ?_) | ((with_reducible refine k_bin ?_); refine x_rem rfl rfl (by first | decide | assumption | omega) ?_)  | refine e_nrm ?_ | refine x_none rfl ?_ | with_reducible refine q_then ?_ | with_reducible refine awp_seq ?_ | ((with_reducible refine w_region ?_ ?_); kernel_rfl))
  rw [h3, hn]
  with_reducible refine k_makeSlice ?_
  refine x_make_by Tryd.underlying28 infU8 rfl rfl (by omega) (by omega) rfl ?_
  repeat (first | ((with_reducible refine k_move ?_); refine m_move rfl ?_) | ((with_reducible refine k_assign ?_); refine m_assign rfl ?_)  | refine e_nrm ?_ | refine x_none rfl ?_ | with_reducible refine q_then ?_ | with_reducible refine awp_seq ?_ | ((with_reducible refine w_region ?_ ?_); kernel_rfl))
  have hrl : (List.replicate (n : Int).toNat (0 : Int)).length = n := by rw [List.length_replicate, hnat]
  with_reducible refine k_call ?_
  refine x_len_by tbOk rfl rfl rfl rfl ?_
  rw [hrl]
  repeat (first | ((with_reducible refine k_move ?_); refine m_move rfl ?_)  | refine e_nrm ?_ | refine x_none rfl ?_ | with_reducible refine q_then ?_ | with_reducible refine awp_block ?_ )
  refine awp_loop (ι := Nat) (fun k => k ≤ n) (fun k => n - k) (fun v k => [(0, .v (.int .u8 u)), (3, .own 12 (v 12)), (14, .v (.int .i64 n)), (15, .v (.int .i64 k))]) (fun v k => [(12, .ob (.by_ (lgB n k)))]) ?_ ?_
  · refine ⟨0, Nat.zero_le _, trivial, ⟨rfl, rfl, rfl, rfl, trivial⟩, ⟨?_, trivial⟩⟩
    show Cont.ob (.by_ (List.replicate (n : Int).toNat 0)) = _
    rw [hnat]
    unfold lgB
    simp
  rintro v k hk
  have hlen := lgB_len hk
  repeat (first | ((with_reducible refine k_bin ?_); refine m_binI rfl rfl rfl ?_)  | refine e_nrm ?_ | refine x_none rfl ?_ | with_reducible refine q_then ?_ | with_reducible refine awp_seq ?_ | ((with_reducible refine w_region ?_ ?_); kernel_rfl))
  refine w_cond rfl (fun h => ?_) (fun h => ?_)
  · have hlt : k < n := by simp at h; omega
    repeat (first | ((with_reducible refine k_move ?_); refine m_move rfl ?_) | ((with_reducible refine k_assign ?_); refine m_assign rfl ?_)  | refine e_nrm ?_ | refine x_none rfl ?_ | with_reducible refine q_then ?_ | with_reducible refine awp_seq ?_ | with_reducible refine awp_block ?_ | with_reducible refine awp_skip ?_ | ((with_reducible refine w_region ?_ ?_); kernel_rfl))
    with_reducible refine k_indexAddr ?_
    refine x_indexAddr_by tbOk rfl rfl rfl rfl rfl rfl ⟨by omega, by omega⟩ ?_
    repeat (first   | refine x_none rfl ?_  )
    with_reducible refine k_store ?_
    refine x_store_by tbOk rfl rfl rfl rfl rfl (by omega) ?_
    repeat (first | ((with_reducible refine k_move ?_); refine m_move rfl ?_) | ((with_reducible refine k_bin ?_); refine x_add_in rfl rfl (by omega) ?_)  | refine e_nrm ?_ | refine x_none rfl ?_ | with_reducible refine q_then ?_ | with_reducible refine q_block ?_ | ((with_reducible refine w_region ?_ ?_); kernel_rfl))
    refine ⟨k + 1, by omega, by omega, ⟨rfl, rfl, rfl, rfl, trivial⟩, ⟨?_, trivial⟩⟩
    show Cont.ob (.by_ ((lgB n k).set (k : Int).toNat 97)) = _
    rw [Int.toNat_natCast, lgB_set hlt]
  obtain rfl : k = n := by simp at h; omega
  repeat (first | ((with_reducible refine k_move ?_); refine m_move rfl ?_)  | refine x_none rfl ?_ | with_reducible refine q_then ?_ | with_reducible refine q_then_exit ?_ | with_reducible refine awp_seq ?_ | with_reducible refine awp_exit ?_ | ((with_reducible refine q_block_exit ?_ ?_); rfl) | ((with_reducible refine w_region ?_ ?_); kernel_rfl))
  with_reducible refine k_call ?_
  refine x_len_by tbOk rfl rfl rfl rfl ?_
  rw [hlen]
  repeat (first | ((with_reducible refine k_bin ?_); refine x_sub_in rfl rfl (by omega) ?_)  | refine x_none rfl ?_  )
  with_reducible refine k_indexAddr ?_
  refine x_indexAddr_by tbOk rfl rfl rfl rfl rfl rfl ⟨by omega, by omega⟩ ?_
  repeat (first   | refine x_none rfl ?_  )
  with_reducible refine k_store ?_
  refine x_store_by tbOk rfl rfl rfl rfl rfl (by omega) ?_
  have hset : (lgB k k).set ((k : Int) - 1).toNat 10 = List.replicate (k - 1) 97 ++ [10] := by
    rw [show ((k : Int) - 1).toNat = k - 1 by omega]
    exact lgB_last (by omega)
  rw [hset]
  have hsl : (List.replicate (k - 1) (97 : Int) ++ [10]).length = k := by simp; omega
  have hstr : strOfNums (List.replicate (k - 1) (97 : Int) ++ [10]) = strL (List.replicate (k - 1) 97 ++ [10]) := by
    rw [strOf_map]; simp
  have htk : strOfNums (((List.replicate (k - 1) (97 : Int) ++ [10]).take ((k9.val : Int) + 8).toNat).drop 0) = strL (List.replicate (k9.val + 8) 97) := by
    rw [List.drop_zero, List.take_append_of_le_length (by rw [List.length_replicate]; omega), List.take_replicate, Nat.min_eq_left (by omega), strOf_map, List.map_replicate, show ((k9.val : Int) + 8).toNat = k9.val + 8 by omega]
    rfl
  have hL := lines_A (G := X.G) (strL (List.replicate (k - 1) 97 ++ [10])) hM (by rw [strL_size]; simp; omega)
  rw [strL_data, lg_lines] at hL
  have hNm := name_A (G := X.G) (strL (List.replicate (k9.val + 8) 97)) hC (by rw [strL_size]; unfold maxLen; simp; omega)
  rw [strL_data, lg_name] at hNm
  have qe : (decide (((k9.val : Int) + 8) ≤ 12) == decide (((k9.val : Int) + 8) ≤ 12)) = true := by simp
  generalize List.replicate (k - 1) (97 : Int) ++ [10] = B at hsl hstr htk
  repeat (first | ((with_reducible refine k_move ?_); refine m_move rfl ?_)  | refine e_nrm ?_ | refine x_none rfl ?_ | with_reducible refine q_then ?_ | with_reducible refine awp_seq ?_ | ((with_reducible refine w_region ?_ ?_); kernel_rfl))
  with_reducible refine k_convert ?_
  refine x_conv_ybs Tryd.underlying28 Tryd.underlying5 Tryd.underlying9 rfl rfl rfl ?_
  rw [hstr]
  repeat (first   | refine x_none rfl ?_  )
  by_cases hbig : k - 1 + 1 ≤ 65536
  · rw [if_pos hbig] at hL
    simp only [Option.getD_some, Option.isSome_some] at hL
    have q1 : (true == decide ((k : Int) ≤ 65536)) = true := by simp; omega
    refine x_call0 (hL) (by repeat' (first | exact trivial | exact Ren.v _ | exact Ren.sl _ _ | exact Ren.ep _ | exact Ren.ptr _ _ _ _ rfl | exact Ren.bs _ _ _ _ _ rfl | exact Ren.nil _ | exact Ren.own _ _ _ _ ⟨_, rfl⟩ | refine ren_ag ?_ | refine ren_tu ?_ | refine ren_fn ?_ | refine ⟨?_, ?_⟩)) (by repeat' (first | exact trivial | exact RenB.v _ | exact RenB.sl _ _ | exact RenB.ep _ | exact RenB.ptr _ _ _ _ rfl | refine renb_ag ?_ | refine renb_tu ?_ | refine ⟨?_, ?_⟩)) ?_
    repeat (first | ((with_reducible refine k_move ?_); refine m_move rfl ?_) | ((with_reducible refine k_assign ?_); refine m_assign rfl ?_) | ((with_reducible refine k_extract ?_); refine x_extract rfl rfl ?_) | ((with_reducible refine k_convert ?_); refine x_conv_in tbOk rfl rfl rfl (by first | assumption | exact wrap_u64_in (by omega) | exact wrap_i64_in (by omega) | exact wrap_u8_in (by omega)) ?_) | ((with_reducible refine k_bin ?_); refine x_add_in rfl rfl (by omega) ?_) | ((with_reducible refine k_bin ?_); refine x_rem rfl rfl (by first | decide | assumption | omega) ?_)  | refine e_nrm ?_ | refine x_none rfl ?_ | with_reducible refine q_then ?_ | with_reducible refine awp_seq ?_ | ((with_reducible refine w_region ?_ ?_); kernel_rfl))
    rw [h9, hk9]
    repeat (first | fail    )
    with_reducible refine k_call ?_
    refine x_len_by tbOk rfl rfl rfl rfl ?_
    rw [hsl]
    repeat (first | ((with_reducible refine k_move ?_); refine m_move rfl ?_) | ((with_reducible refine k_un ?_); refine x_not rfl ?_) | ((with_reducible refine k_pick ?_); refine m_pickt rfl (by first | rfl | assumption) rfl ?_) | ((with_reducible refine k_pick ?_); refine m_pickf rfl (by first | rfl | assumption) rfl ?_) | ((with_reducible refine k_call ?_); refine x_len tbOk rfl rfl ?_) | ((with_reducible refine k_bin ?_); refine m_binI rfl rfl rfl ?_) | ((with_reducible refine k_bin ?_); refine x_eql_b (by exact Tryd.underlying4) rfl rfl ?_)  | refine x_none rfl ?_ | refine x_run_t rfl rfl (by first | rfl | assumption) ?_ | refine x_skip_t rfl rfl (by first | rfl | assumption) ?_ | refine x_run_f rfl rfl (by first | rfl | assumption) ?_  )
    with_reducible refine k_slice ?_
    refine x_slice_by tbOk rfl rfl rfl rfl rfl rfl rfl ⟨by omega, by omega, by omega⟩ ?_
    repeat (first   | refine x_run_t rfl rfl (by first | rfl | assumption) ?_  )
    with_reducible refine k_convert ?_
    refine x_conv_osb Tryd.underlying28 Tryd.underlying5 Tryd.underlying9 rfl rfl rfl (by omega) (by omega) ?_
    rw [show (0 : Int).toNat = 0 from rfl, htk]
    repeat (first   | refine x_run_t rfl rfl (by first | rfl | assumption) ?_  )
    refine x_call0 (hNm) (by repeat' (first | exact trivial | exact Ren.v _ | exact Ren.sl _ _ | exact Ren.ep _ | exact Ren.ptr _ _ _ _ rfl | exact Ren.bs _ _ _ _ _ rfl | exact Ren.nil _ | exact Ren.own _ _ _ _ ⟨_, rfl⟩ | refine ren_ag ?_ | refine ren_tu ?_ | refine ren_fn ?_ | refine ⟨?_, ?_⟩)) (by repeat' (first | exact trivial | exact RenB.v _ | exact RenB.sl _ _ | exact RenB.ep _ | exact RenB.ptr _ _ _ _ rfl | refine renb_ag ?_ | refine renb_tu ?_ | refine ⟨?_, ?_⟩)) ?_
    repeat (first | ((with_reducible refine k_move ?_); refine m_move rfl ?_) | ((with_reducible refine k_pick ?_); refine m_pickt rfl (by first | rfl | assumption) rfl ?_) | ((with_reducible refine k_bin ?_); refine m_binI rfl rfl rfl ?_) | ((with_reducible refine k_bin ?_); refine x_eql_b (by exact Tryd.underlying4) rfl rfl ?_)  | refine x_none rfl ?_ | refine x_run_t rfl rfl (by first | rfl | assumption) ?_  )
    refine x_call0 (awake_A hC hG) (by repeat' (first | exact trivial | exact Ren.v _ | exact Ren.sl _ _ | exact Ren.ep _ | exact Ren.ptr _ _ _ _ rfl | exact Ren.bs _ _ _ _ _ rfl | exact Ren.nil _ | exact Ren.own _ _ _ _ ⟨_, rfl⟩ | refine ren_ag ?_ | refine ren_tu ?_ | refine ren_fn ?_ | refine ⟨?_, ?_⟩)) (by repeat' (first | exact trivial | exact RenB.v _ | exact RenB.sl _ _ | exact RenB.ep _ | exact RenB.ptr _ _ _ _ rfl | refine renb_ag ?_ | refine renb_tu ?_ | refine ⟨?_, ?_⟩)) ?_
    repeat (first | ((with_reducible refine k_assign ?_); refine m_assign rfl ?_) | ((with_reducible refine k_pick ?_); refine m_pickt rfl (by first | rfl | assumption) rfl ?_)  | refine e_nrm ?_ | refine x_none rfl ?_ | with_reducible refine q_then ?_ | with_reducible refine awp_ret ?_ )
    refine ret_v (by first | exact .inr rfl | exact .inl rfl) rfl rfl ?_
    rfl
  · rw [if_neg hbig] at hL
    simp only [Option.getD_none, Option.isSome_none] at hL
    have q1 : (false == decide ((k : Int) ≤ 65536)) = true := by simp; omega
    refine x_call0 (hL) (by repeat' (first | exact trivial | exact Ren.v _ | exact Ren.sl _ _ | exact Ren.ep _ | exact Ren.ptr _ _ _ _ rfl | exact Ren.bs _ _ _ _ _ rfl | exact Ren.nil _ | exact Ren.own _ _ _ _ ⟨_, rfl⟩ | refine ren_ag ?_ | refine ren_tu ?_ | refine ren_fn ?_ | refine ⟨?_, ?_⟩)) (by repeat' (first | exact trivial | exact RenB.v _ | exact RenB.sl _ _ | exact RenB.ep _ | exact RenB.ptr _ _ _ _ rfl | refine renb_ag ?_ | refine renb_tu ?_ | refine ⟨?_, ?_⟩)) ?_
    repeat (first | ((with_reducible refine k_move ?_); refine m_move rfl ?_) | ((with_reducible refine k_assign ?_); refine m_assign rfl ?_) | ((with_reducible refine k_extract ?_); refine x_extract rfl rfl ?_) | ((with_reducible refine k_convert ?_); refine x_conv_in tbOk rfl rfl rfl (by first | assumption | exact wrap_u64_in (by omega) | exact wrap_i64_in (by omega) | exact wrap_u8_in (by omega)) ?_) | ((with_reducible refine k_bin ?_); refine x_add_in rfl rfl (by omega) ?_) | ((with_reducible refine k_bin ?_); refine x_rem rfl rfl (by first | decide | assumption | omega) ?_)  | refine e_nrm ?_ | refine x_none rfl ?_ | with_reducible refine q_then ?_ | with_reducible refine awp_seq ?_ | ((with_reducible refine w_region ?_ ?_); kernel_rfl))
    rw [h9, hk9]
    repeat (first | fail    )
    with_reducible refine k_call ?_
    refine x_len_by tbOk rfl rfl rfl rfl ?_
    rw [hsl]
    repeat (first | ((with_reducible refine k_move ?_); refine m_move rfl ?_) | ((with_reducible refine k_un ?_); refine x_not rfl ?_) | ((with_reducible refine k_pick ?_); refine m_pickt rfl (by first | rfl | assumption) rfl ?_) | ((with_reducible refine k_call ?_); refine x_len tbOk rfl rfl ?_) | ((with_reducible refine k_bin ?_); refine m_binI rfl rfl rfl ?_) | ((with_reducible refine k_bin ?_); refine x_eql_b (by exact Tryd.underlying4) rfl rfl ?_)  | refine x_none rfl ?_ | refine x_run_t rfl rfl (by first | rfl | assumption) ?_ | refine x_skip_f rfl rfl (by first | rfl | assumption) ?_ | refine x_skip' rfl rfl rfl ?_  )
    with_reducible refine k_slice ?_
    refine x_slice_by tbOk rfl rfl rfl rfl rfl rfl rfl ⟨by omega, by omega, by omega⟩ ?_
    repeat (first   | refine x_run_t rfl rfl (by first | rfl | assumption) ?_  )
    with_reducible refine k_convert ?_
    refine x_conv_osb Tryd.underlying28 Tryd.underlying5 Tryd.underlying9 rfl rfl rfl (by omega) (by omega) ?_
    rw [show (0 : Int).toNat = 0 from rfl, htk]
    repeat (first   | refine x_run_t rfl rfl (by first | rfl | assumption) ?_  )
    refine x_call0 (hNm) (by repeat' (first | exact trivial | exact Ren.v _ | exact Ren.sl _ _ | exact Ren.ep _ | exact Ren.ptr _ _ _ _ rfl | exact Ren.bs _ _ _ _ _ rfl | exact Ren.nil _ | exact Ren.own _ _ _ _ ⟨_, rfl⟩ | refine ren_ag ?_ | refine ren_tu ?_ | refine ren_fn ?_ | refine ⟨?_, ?_⟩)) (by repeat' (first | exact trivial | exact RenB.v _ | exact RenB.sl _ _ | exact RenB.ep _ | exact RenB.ptr _ _ _ _ rfl | refine renb_ag ?_ | refine renb_tu ?_ | refine ⟨?_, ?_⟩)) ?_
    repeat (first | ((with_reducible refine k_move ?_); refine m_move rfl ?_) | ((with_reducible refine k_pick ?_); refine m_pickt rfl (by first | rfl | assumption) rfl ?_) | ((with_reducible refine k_bin ?_); refine m_binI rfl rfl rfl ?_) | ((with_reducible refine k_bin ?_); refine x_eql_b (by exact Tryd.underlying4) rfl rfl ?_)  | refine x_none rfl ?_ | refine x_run_t rfl rfl (by first | rfl | assumption) ?_  )
    refine x_call0 (awake_A hC hG) (by repeat' (first | exact trivial | exact Ren.v _ | exact Ren.sl _ _ | exact Ren.ep _ | exact Ren.ptr _ _ _ _ rfl | exact Ren.bs _ _ _ _ _ rfl | exact Ren.nil _ | exact Ren.own _ _ _ _ ⟨_, rfl⟩ | refine ren_ag ?_ | refine ren_tu ?_ | refine ren_fn ?_ | refine ⟨?_, ?_⟩)) (by repeat' (first | exact trivial | exact RenB.v _ | exact RenB.sl _ _ | exact RenB.ep _ | exact RenB.ptr _ _ _ _ rfl | refine renb_ag ?_ | refine renb_tu ?_ | refine ⟨?_, ?_⟩)) ?_
    repeat (first | ((with_reducible refine k_assign ?_); refine m_assign rfl ?_) | ((with_reducible refine k_pick ?_); refine m_pickt rfl (by first | rfl | assumption) rfl ?_)  | refine e_nrm ?_ | refine x_none rfl ?_ | with_reducible refine q_then ?_ | with_reducible refine awp_ret ?_ )
    refine ret_v (by first | exact .inr rfl | exact .inl rfl) rfl rfl ?_
    rfl
end Go.Proofs.YtblopmoapfcfhaaDoor
