/- lexeme.Number and its reference, and the reference of Text, by the abstract machine; conditions: none. -/
import Derived.Test.YtamihjgfncjdoaaGreatDoorAbsX
import Derived.Test.YtamihjgfncjdoaaGreatDoorRnP
set_option linter.unusedVariables false
set_option linter.unusedSimpArgs false
namespace Go.Proofs.YtamihjgfncjdoaaGreatDoor
open Go Go.RowKit
set_option maxRecDepth 10000
variable {G : Nat → Option (List Value)}
theorem nidxS (s : ByteArray) (k : Nat) (c : UInt8) (hc : s.data.toList[k]? = some c) (w : World) : (Instr.index 9 (.string s) (.int .i64 k)).run Tryz.prog w = .ok (.int .u8 (c.toNat : Int)) w := by
  have hk := lt_at hc
  have hk2 : k < s.size := by simpa using hk
  rw [run_index_string w 9 s .i64 _ Tryz.underlying9, dif_pos ⟨by omega, by omega⟩]
  have e : ((k : Int)).toNat = k := by omega
  simp only [e]
  have : s[k] = c := by
    rw [List.getElem?_eq_getElem hk] at hc
    injection hc with hc
  rw [this]
theorem nsizeS (s : ByteArray) : s.size = s.data.toList.length := by simp
theorem strEq_nil {s : ByteArray} : strEq s ⟨#[]⟩ = decide (s.size = 0) := by
  cases h : strEq s ⟨#[]⟩ with
  | true => rw [strEq_iff.1 h]; rfl
  | false =>
    symm
    apply decide_eq_false
    intro e
    have : s = ⟨#[]⟩ := by
      cases s with | mk a => exact congrArg _ (Array.eq_empty_of_size_eq_zero e)
    rw [strEq_iff.2 this] at h
    cases h
/-- What numP says of a text whose first byte is known. -/
theorem numP_of {s : ByteArray} {c0 : UInt8} {most : Int} (h0 : s.data.toList[0]? = some c0) (hb : ¬ (1 < s.size ∧ c0 = 48)) : numP s.data.toList most = numGo most s.data.toList 0 := by
  match hl : s.data.toList with
  | [] => rw [hl] at h0; cases h0
  | c :: r =>
    rw [hl] at h0
    injection h0 with h0
    subst h0
    unfold numP
    dsimp only
    rw [if_neg]
    rintro ⟨h3, h4⟩
    apply hb
    rw [nsizeS, hl]
    refine ⟨?_, h4⟩
    have : r.length ≠ 0 := fun h => h3 (List.eq_nil_of_length_eq_zero h)
    simp; omega
theorem numP_zero' {s : ByteArray} {c0 : UInt8} {most : Int} (h0 : s.data.toList[0]? = some c0) (hb : 1 < s.size ∧ c0 = 48) : numP s.data.toList most = none := by
  match hl : s.data.toList with
  | [] => rw [hl] at h0; cases h0
  | c :: r =>
    rw [hl] at h0
    injection h0 with h0
    subst h0
    unfold numP
    dsimp only
    rw [if_pos]
    refine ⟨fun e => ?_, hb.2⟩
    have := hb.1
    rw [nsizeS, hl, e] at this
    simp at this
theorem numGo_at' {most : Int} {l : List UInt8} {k : Nat} {c : UInt8} (hx : l[k]? = some c) (n : Int) : numGo most (l.drop k) n = (numStep most n ((c.toNat : Int) - 48)).bind (numGo most (l.drop (k + 1))) := by
  rw [drop_at hx, numGo]
set_option maxHeartbeats 2000000 in
theorem number_A (s : ByteArray) (most : Int) (hm : s.size ≤ maxLen) (hm1 : -9223372036854775808 ≤ most) (hm2 : most ≤ 9223372036854775807) :
    ACalls Tryz.prog G 47 [.v (.string s), .v (.int .i64 most)] [] (.tu [.v (.int .i64 ((numP s.data.toList most).getD 0)), .v (.bool (numP s.data.toList most).isSome)]) [] := by
  have hmx : s.size ≤ 9223372036854775807 := by unfold maxLen at hm; omega
  have hs := nsizeS s
  refine acalls_of tbOk (enter_of Tryz.func47 (by kernel_rfl) rfl) Tryz.func47 rfl _ Tryz.ntmps47 (Nat.le_of_ble_eq_true rfl) fun X hX => ?_
  subst hX
  repeat (first | ((with_reducible refine k_move ?_); refine m_move rfl ?_) | ((with_reducible refine k_assign ?_); refine m_assign rfl ?_) | ((with_reducible refine k_bin ?_); refine m_binS rfl rfl rfl ?_)  | refine e_nrm ?_ | refine x_none rfl ?_ | with_reducible (first | refine q_then ?_ | refine awp_seq ?_) | ((with_reducible refine w_region ?_ ?_); kernel_rfl))
  rw [strEq_nil]
  refine x_split rfl rfl (fun h1 => ?_) (fun h1 => ?_)
  · have e : s.data.toList = [] := List.eq_nil_of_length_eq_zero (by rw [← hs]; simpa using h1)
    rw [e, h1]
    repeat (first | ((with_reducible refine k_assign ?_); refine m_assign rfl ?_) | ((with_reducible refine k_pick ?_); refine m_pickt rfl (by first | rfl | assumption) rfl ?_)  | refine e_nrm ?_ | refine x_none rfl ?_ | refine x_skip_f rfl rfl (by first | rfl | assumption) ?_ | refine x_skip' rfl rfl rfl ?_ | with_reducible (first | refine q_then ?_ | refine q_then_ret ?_ | refine awp_seq ?_ | refine awp_ret ?_) | ((with_reducible refine w_region ?_ ?_); kernel_rfl) | refine w_cond_t rfl (by first | rfl | assumption) ?_)
    refine ret0_2 (by first | exact .inr rfl | exact .inl rfl) rfl rfl rfl ?_
    repeat' (first | exact trivial | exact Ren.v _ | exact Ren.sl _ _ | exact Ren.ep _ | exact Ren.ptr _ _ _ _ rfl | exact Ren.bs _ _ _ _ _ rfl | exact Ren.nil _ | exact Ren.own _ _ _ _ ⟨_, rfl⟩ | refine ren_ag ?_ | refine ren_tu ?_ | refine ren_fn ?_ | refine ⟨?_, ?_⟩)
  · have h1n : ¬ s.size = 0 := by simpa using h1
    rw [h1]
    obtain ⟨c0, h0⟩ := some_at (L := s.data.toList) (k := 0) (by rw [← hs]; omega)
    have ix0 : ∀ w : World, (Instr.index 9 (.string s) (.int .i64 0)).run Tryz.prog w = .ok (.int .u8 (c0.toNat : Int)) w := fun w => nidxS s 0 c0 h0 w
    repeat (first | ((with_reducible refine k_move ?_); refine m_move rfl ?_) | ((with_reducible refine k_call ?_); refine x_len_str (by exact Tryz.underlying9) rfl ?_) | ((with_reducible refine k_bin ?_); refine m_binI rfl rfl rfl ?_)  | refine x_run_f rfl rfl (by first | rfl | assumption) ?_  )
    by_cases hb : 1 < s.size ∧ c0 = 48
    · rw [numP_zero' h0 hb]
      have q1 : decide ((s.size : Int) > 1) = true := by simp; omega
      have q2 : ((c0.toNat : Int) == 48) = true := by rw [hb.2]; rfl
      repeat (first | ((with_reducible refine k_move ?_); refine m_move rfl ?_) | ((with_reducible refine k_assign ?_); refine m_assign rfl ?_) | ((with_reducible refine k_pick ?_); (first | refine m_pickt rfl (by first | rfl | assumption) rfl ?_ | refine m_pickf rfl (by first | rfl | assumption) rfl ?_)) | ((with_reducible refine k_index ?_); refine x_index rfl rfl (by assumption) ?_) | ((with_reducible refine k_bin ?_); refine m_binI rfl rfl rfl ?_)  | refine e_nrm ?_ | refine x_none rfl ?_ | refine x_run_t rfl rfl (by first | rfl | assumption) ?_ | refine x_run_f rfl rfl (by first | rfl | assumption) ?_ | with_reducible (first | refine q_then ?_ | refine q_then_ret ?_ | refine awp_seq ?_ | refine awp_ret ?_) | ((with_reducible refine w_region ?_ ?_); kernel_rfl) | refine w_cond_t rfl (by first | rfl | assumption) ?_)
      refine ret0_2 (by first | exact .inr rfl | exact .inl rfl) rfl rfl rfl ?_
      repeat' (first | exact trivial | exact Ren.v _ | exact Ren.sl _ _ | exact Ren.ep _ | exact Ren.ptr _ _ _ _ rfl | exact Ren.bs _ _ _ _ _ rfl | exact Ren.nil _ | exact Ren.own _ _ _ _ ⟨_, rfl⟩ | refine ren_ag ?_ | refine ren_tu ?_ | refine ren_fn ?_ | refine ⟨?_, ?_⟩)
    · rw [numP_of h0 hb]
      repeat' (first | ((with_reducible refine k_move ?_); refine m_move rfl ?_) | ((with_reducible refine k_assign ?_); refine m_assign rfl ?_) | ((with_reducible refine k_pick ?_); (first | refine m_pickt rfl (by first | rfl | assumption) rfl ?_ | refine m_pickf rfl (by first | rfl | assumption) rfl ?_)) | ((with_reducible refine k_index ?_); refine x_index rfl rfl (by assumption) ?_) | ((with_reducible refine k_call ?_); refine x_len_str (by exact Tryz.underlying9) rfl ?_) | ((with_reducible refine k_bin ?_); refine m_binI rfl rfl rfl ?_)  | refine e_nrm ?_ | refine x_none rfl ?_ | refine x_run_t rfl rfl (by first | rfl | assumption) ?_ | refine x_skip_t rfl rfl (by first | rfl | assumption) ?_ | refine x_run_f rfl rfl (by first | rfl | assumption) ?_ | with_reducible (first | refine q_then ?_ | refine q_then_ret ?_ | refine awp_seq ?_ | refine awp_block ?_ | refine awp_skip ?_ | refine awp_ret ?_) | ((with_reducible refine w_region ?_ ?_); kernel_rfl) | refine w_cond_f rfl (by first | rfl | assumption) ?_ | refine x_split rfl rfl (fun _ => ?_) (fun _ => ?_) | refine w_cond rfl (fun _ => ?_) (fun _ => ?_))
      all_goals first
        | (exfalso
           apply hb
           simp at *
           exact ⟨by omega, UInt8.toNat_inj.1 (by show c0.toNat = 48; omega)⟩)
        | skip
      all_goals (
        refine awp_loop (ι := Nat × Int) (fun q => q.1 ≤ s.size ∧ 0 ≤ q.2 ∧ q.2 ≤ 9223372036854775807 ∧ numGo most (s.data.toList.drop q.1) q.2 = numGo most s.data.toList 0) (fun q => s.size - q.1) (fun v q => [(0, .v (.string s)), (1, .v (.int .i64 most)), (6, .v (.int .i64 q.2)), (22, .v (.int .i64 s.size)), (23, .v (.int .i64 (q.1 : Nat)))]) (fun v q => []) ?_ ?_)
      all_goals first
        | exact ⟨(0, 0), ⟨Nat.zero_le _, by simp, by simp, rfl⟩, trivial, ⟨rfl, rfl, rfl, rfl, rfl, trivial⟩, trivial⟩
        | skip
      all_goals (
        rintro v ⟨k, m⟩ ⟨hk, hm3, hm4, hf⟩
        simp only at hk hm3 hm4 hf
        dsimp only
        repeat (first | ((with_reducible refine k_bin ?_); refine m_binI rfl rfl rfl ?_)  | refine e_nrm ?_ | refine x_none rfl ?_ | with_reducible (first | refine q_then ?_ | refine awp_seq ?_) | ((with_reducible refine w_region ?_ ?_); kernel_rfl))
        refine w_cond rfl (fun h => ?_) (fun h => ?_)
        · have hlt : k < s.size := by simp at h; omega
          obtain ⟨c, hx⟩ := some_at (L := s.data.toList) (k := k) (by rw [← hs]; exact hlt)
          have ix := nidxS s k c hx
          rw [numGo_at' hx] at hf
          obtain ⟨b, hbb⟩ : ∃ b : Int, (c.toNat : Int) = b := ⟨_, rfl⟩
          have hb2 : 0 ≤ b ∧ b < 256 := by have := c.toNat_lt; omega
          obtain ⟨hb3, hb4⟩ := hb2
          rw [hbb] at ix hf
          clear hbb
          repeat (first | ((with_reducible refine k_move ?_); refine m_move rfl ?_) | ((with_reducible refine k_assign ?_); refine m_assign rfl ?_) | ((with_reducible refine k_index ?_); refine x_index rfl rfl (by assumption) ?_) | ((with_reducible refine k_convert ?_); refine x_conv_in tbOk rfl rfl rfl (by first | assumption | exact wrap_u64_in (by omega) | exact wrap_i64_in (by omega) | exact wrap_u8_in (by omega)) ?_) | ((with_reducible refine k_bin ?_); (first | refine x_sub_in rfl rfl (by omega) ?_ | refine m_binI rfl rfl rfl ?_))  | refine e_nrm ?_ | refine x_none rfl ?_ | with_reducible (first | refine q_then ?_ | refine awp_seq ?_ | refine awp_block ?_ | refine awp_skip ?_) | ((with_reducible refine w_region ?_ ?_); kernel_rfl))
          by_cases q1 : b - 48 < 0
          · rw [numStep, if_pos (.inl q1)] at hf
            have p1 : decide (b - 48 < 0) = true := by simpa using q1
            repeat (first | ((with_reducible refine k_move ?_); refine m_move rfl ?_) | ((with_reducible refine k_assign ?_); refine m_assign rfl ?_) | ((with_reducible refine k_pick ?_); refine m_pickt rfl (by first | rfl | assumption) rfl ?_)  | refine e_nrm ?_ | refine x_none rfl ?_ | refine x_skip_f rfl rfl (by first | rfl | assumption) ?_ | with_reducible (first | refine q_then ?_ | refine q_then_ret ?_ | refine q_block_ret ?_ | refine awp_seq ?_ | refine awp_ret ?_) | ((with_reducible refine w_region ?_ ?_); kernel_rfl) | refine w_cond_t rfl (by first | rfl | assumption) ?_)
            refine ret0_2 (by first | exact .inr rfl | exact .inl rfl) rfl rfl rfl ?_
            rw [← hf]
            repeat' (first | exact trivial | exact Ren.v _ | exact Ren.sl _ _ | exact Ren.ep _ | exact Ren.ptr _ _ _ _ rfl | exact Ren.bs _ _ _ _ _ rfl | exact Ren.nil _ | exact Ren.own _ _ _ _ ⟨_, rfl⟩ | refine ren_ag ?_ | refine ren_tu ?_ | refine ren_fn ?_ | refine ⟨?_, ?_⟩)
          by_cases q2 : 9 < b - 48
          · rw [numStep, if_pos (.inr (.inl q2))] at hf
            have p1 : decide (b - 48 < 0) = false := by simpa using q1
            have p2 : decide (b - 48 > 9) = true := by simpa using q2
            repeat (first | ((with_reducible refine k_move ?_); refine m_move rfl ?_) | ((with_reducible refine k_assign ?_); refine m_assign rfl ?_) | ((with_reducible refine k_pick ?_); (first | refine m_pickt rfl (by first | rfl | assumption) rfl ?_ | refine m_pickf rfl (by first | rfl | assumption) rfl ?_)) | ((with_reducible refine k_bin ?_); refine m_binI rfl rfl rfl ?_)  | refine e_nrm ?_ | refine x_none rfl ?_ | refine x_run_f rfl rfl (by first | rfl | assumption) ?_ | refine x_skip_f rfl rfl (by first | rfl | assumption) ?_ | with_reducible (first | refine q_then ?_ | refine q_then_ret ?_ | refine q_block_ret ?_ | refine awp_seq ?_ | refine awp_ret ?_) | ((with_reducible refine w_region ?_ ?_); kernel_rfl) | refine w_cond_t rfl (by first | rfl | assumption) ?_)
            refine ret0_2 (by first | exact .inr rfl | exact .inl rfl) rfl rfl rfl ?_
            rw [← hf]
            repeat' (first | exact trivial | exact Ren.v _ | exact Ren.sl _ _ | exact Ren.ep _ | exact Ren.ptr _ _ _ _ rfl | exact Ren.bs _ _ _ _ _ rfl | exact Ren.nil _ | exact Ren.own _ _ _ _ ⟨_, rfl⟩ | refine ren_ag ?_ | refine ren_tu ?_ | refine ren_fn ?_ | refine ⟨?_, ?_⟩)
          by_cases q3 : most < b - 48
          · rw [numStep, if_pos (.inr (.inr (.inl q3)))] at hf
            have p1 : decide (b - 48 < 0) = false := by simpa using q1
            have p2 : decide (b - 48 > 9) = false := by simpa using q2
            have p3 : decide (b - 48 > most) = true := by simpa using q3
            repeat (first | ((with_reducible refine k_move ?_); refine m_move rfl ?_) | ((with_reducible refine k_assign ?_); refine m_assign rfl ?_) | ((with_reducible refine k_pick ?_); (first | refine m_pickt rfl (by first | rfl | assumption) rfl ?_ | refine m_pickf rfl (by first | rfl | assumption) rfl ?_)) | ((with_reducible refine k_bin ?_); refine m_binI rfl rfl rfl ?_)  | refine e_nrm ?_ | refine x_none rfl ?_ | refine x_run_f rfl rfl (by first | rfl | assumption) ?_ | refine x_skip_f rfl rfl (by first | rfl | assumption) ?_ | with_reducible (first | refine q_then ?_ | refine q_then_ret ?_ | refine q_block_ret ?_ | refine awp_seq ?_ | refine awp_ret ?_) | ((with_reducible refine w_region ?_ ?_); kernel_rfl) | refine w_cond_t rfl (by first | rfl | assumption) ?_)
            refine ret0_2 (by first | exact .inr rfl | exact .inl rfl) rfl rfl rfl ?_
            rw [← hf]
            repeat' (first | exact trivial | exact Ren.v _ | exact Ren.sl _ _ | exact Ren.ep _ | exact Ren.ptr _ _ _ _ rfl | exact Ren.bs _ _ _ _ _ rfl | exact Ren.nil _ | exact Ren.own _ _ _ _ ⟨_, rfl⟩ | refine ren_ag ?_ | refine ren_tu ?_ | refine ren_fn ?_ | refine ⟨?_, ?_⟩)
          have p1 : decide (b - 48 < 0) = false := by simpa using q1
          have p2 : decide (b - 48 > 9) = false := by simpa using q2
          have p3 : decide (b - 48 > most) = false := by simpa using q3
          have hqq : IntKind.i64.wrap ((most - (b - 48)).tdiv 10) = (most - (b - 48)) / 10 := by
            rw [Int.tdiv_eq_ediv_of_nonneg (by omega)]
            exact wrap_i64_in (by omega)
          repeat (first | ((with_reducible refine k_move ?_); refine m_move rfl ?_) | ((with_reducible refine k_pick ?_); refine m_pickf rfl (by first | rfl | assumption) rfl ?_) | ((with_reducible refine k_bin ?_); (first | refine x_sub_in rfl rfl (by omega) ?_ | refine m_binI rfl rfl rfl ?_ | refine x_quo rfl rfl (by first | decide | assumption | omega) ?_))  | refine e_nrm ?_ | refine x_none rfl ?_ | refine x_run_f rfl rfl (by first | rfl | assumption) ?_ | with_reducible refine q_then ?_ )
          rw [hqq]
          by_cases q4 : (most - (b - 48)) / 10 < m
          · rw [numStep, if_pos (.inr (.inr (.inr q4)))] at hf
            have p4 : decide (m > (most - (b - 48)) / 10) = true := by simpa using q4
            repeat (first | ((with_reducible refine k_assign ?_); refine m_assign rfl ?_)  | refine e_nrm ?_ | refine x_none rfl ?_ | with_reducible (first | refine q_then ?_ | refine q_then_ret ?_ | refine q_block_ret ?_ | refine awp_seq ?_ | refine awp_ret ?_) | ((with_reducible refine w_region ?_ ?_); kernel_rfl) | refine w_cond_t rfl (by first | rfl | assumption) ?_)
            refine ret0_2 (by first | exact .inr rfl | exact .inl rfl) rfl rfl rfl ?_
            rw [← hf]
            repeat' (first | exact trivial | exact Ren.v _ | exact Ren.sl _ _ | exact Ren.ep _ | exact Ren.ptr _ _ _ _ rfl | exact Ren.bs _ _ _ _ _ rfl | exact Ren.nil _ | exact Ren.own _ _ _ _ ⟨_, rfl⟩ | refine ren_ag ?_ | refine ren_tu ?_ | refine ren_fn ?_ | refine ⟨?_, ?_⟩)
          · rw [numStep, if_neg (by omega)] at hf
            have p4 : decide (m > (most - (b - 48)) / 10) = false := by simpa using q4
            have hw : IntKind.i64.wrap (10 * m) = 10 * m := wrap_i64_in (by omega)
            repeat (first | ((with_reducible refine k_move ?_); refine m_move rfl ?_) | ((with_reducible refine k_assign ?_); refine m_assign rfl ?_) | ((with_reducible refine k_bin ?_); (first | refine x_add_in rfl rfl (by omega) ?_ | refine m_binI rfl rfl rfl ?_))  | refine e_nrm ?_ | refine x_none rfl ?_ | with_reducible (first | refine q_then ?_ | refine q_block ?_ | refine awp_skip ?_) | ((with_reducible refine w_region ?_ ?_); kernel_rfl) | refine w_cond_f rfl (by first | rfl | assumption) ?_)
            refine ⟨(k + 1, IntKind.i64.wrap (10 * m) + (b - 48)), ?_, ?_, ⟨rfl, rfl, rfl, rfl, rfl, trivial⟩, trivial⟩
            · dsimp only
              rw [hw]
              exact ⟨by omega, by omega, by omega, hf⟩
            · show s.size - (k + 1) < s.size - k
              omega
        · obtain rfl : k = s.size := by simp at h; omega
          rw [List.drop_of_length_le (by rw [← hs]; exact Nat.le_refl _)] at hf
          repeat (first | ((with_reducible refine k_move ?_); refine m_move rfl ?_) | ((with_reducible refine k_assign ?_); refine m_assign rfl ?_)  | refine e_nrm ?_ | refine x_none rfl ?_ | with_reducible (first | refine q_then ?_ | refine q_then_exit ?_ | refine awp_seq ?_ | refine awp_exit ?_ | refine awp_ret ?_) | ((with_reducible refine q_block_exit ?_ ?_); rfl) | ((with_reducible refine w_region ?_ ?_); kernel_rfl))
          refine ret0_2 (by first | exact .inr rfl | exact .inl rfl) rfl rfl rfl ?_
          rw [← hf]
          repeat' (first | exact trivial | exact Ren.v _ | exact Ren.sl _ _ | exact Ren.ep _ | exact Ren.ptr _ _ _ _ rfl | exact Ren.bs _ _ _ _ _ rfl | exact Ren.nil _ | exact Ren.own _ _ _ _ ⟨_, rfl⟩ | refine ren_ag ?_ | refine ren_tu ?_ | refine ren_fn ?_ | refine ⟨?_, ?_⟩))
end Go.Proofs.YtamihjgfncjdoaaGreatDoor
