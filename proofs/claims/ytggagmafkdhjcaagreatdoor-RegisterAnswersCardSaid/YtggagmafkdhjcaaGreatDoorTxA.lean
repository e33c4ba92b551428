/- lexeme.Text, and the references of Number and Text, by the abstract machine; conditions: the table of powers stands. -/
import Derived.Test.YtggagmafkdhjcaaGreatDoorAbsX
import Derived.Test.YtggagmafkdhjcaaGreatDoorNmA
import Derived.Test.YtggagmafkdhjcaaGreatDoorShelf
set_option linter.unusedVariables false
set_option linter.unusedSimpArgs false
namespace Go.Proofs.YtggagmafkdhjcaaGreatDoor
open Go Go.RowKit Go.Sort
set_option maxRecDepth 10000
variable {G : Nat → Option (List Value)}
theorem not_t {x : Bool} (h : (!x) = true) : x = false := by cases x <;> simp_all
theorem not_f {x : Bool} (h : (!x) = false) : x = true := by cases x <;> simp_all
def powL : List Value := Lib.pow10Tab.map fun z => .int .u64 z
def GPow (G : Nat → Option (List Value)) : Prop := G 2 = some powL
theorem gPowN : Tryz.prog.globalNamed "internal/strconv.uint64pow10" = some 2 := by kernel_rfl
theorem tab_pow {w : World} {t : TypeId} {fr : Nat × Nat} (h : w.heap[2]? = some (.cells ⟨powL⟩ t fr)) : Lib.TabIs Tryz.prog w "internal/strconv.uint64pow10" .u64 Lib.pow10Tab := by
  unfold Lib.TabIs World.var?
  rw [gPowN]
  simp only [Option.bind_some]
  rw [h]
  rfl
theorem below_grown (w : World) (k : Nat) (os : Array Obj) : Below w.heap.size w (grow (w.drewN k) os) :=
  ⟨rfl, rfl, rfl, by simp [grow], fun i hi => by
    show (w.heap ++ os)[i]? = _
    rw [Array.getElem?_append_left hi]⟩
theorem itoa_A (n : Int) (hG : GPow G) (h1 : -9223372036854775808 ≤ n) (h2 : n ≤ 9223372036854775807) : ACalls Tryz.prog G 55 [.v (.int .i64 n)] [] (.v (.string (txtP n))) [] :=
  acalls_lib (vs := [.int .i64 n]) (enter_of Tryz.func55 (by kernel_rfl) rfl) (fun _ _ => .v _ _) (fun w hw => by
    obtain ⟨t, fr, h⟩ := hw _ _ hG
    refine (Tryz.strconv_Itoa n h1 h2 w (tab_pow h)).mono ?_
    rintro e w' ⟨rfl, k, os, rfl⟩
    exact ⟨rfl, below_grown w k os⟩)
theorem text_A (n : Int) (hG : GPow G) (h1 : -9223372036854775808 ≤ n) (h2 : n ≤ 9223372036854775807) : ACalls Tryz.prog G 29 [.v (.int .i64 n)] [] (.v (.string (txtP n))) [] := by
  refine acalls_of tbOk (enter_of Tryz.func29 (by kernel_rfl) rfl) Tryz.func29 rfl _ Tryz.ntmps29 (Nat.le_of_ble_eq_true rfl) fun X hX => ?_
  subst hX
  repeat (first | ((with_reducible refine k_move ?_); refine m_move rfl ?_) | ((with_reducible refine k_assign ?_); refine m_assign rfl ?_)  | refine e_nrm ?_ | refine x_none rfl ?_ | with_reducible (first | refine q_then ?_ | refine awp_seq ?_) | ((with_reducible refine w_region ?_ ?_); kernel_rfl))
  refine zC (itoa_A n hG h1 h2) ?_
  repeat (first | ((with_reducible refine k_assign ?_); refine m_assign rfl ?_)  | refine e_nrm ?_ | refine x_none rfl ?_ | with_reducible (first | refine q_then ?_ | refine awp_ret ?_) )
  refine ret_v (by first | exact .inr rfl | exact .inl rfl) rfl rfl ?_
  rfl
set_option maxHeartbeats 2000000 in
theorem rnumber_A (s : ByteArray) (most : Int) (hm : s.size ≤ maxLen) (hm1 : -9223372036854775808 ≤ most) (hm2 : most ≤ 9223372036854775807) :
    ACalls Tryz.prog G 72 [.v (.string s), .v (.int .i64 most)] [] (.tu [.v (.int .i64 ((numP s.data.toList most).getD 0)), .v (.bool (numP s.data.toList most).isSome)]) [] := by
  have hmx : s.size ≤ 9223372036854775807 := by unfold maxLen at hm; omega
  have hs := nsizeS s
  refine acalls_of tbOk (enter_of Tryz.func72 (by kernel_rfl) rfl) Tryz.func72 rfl _ Tryz.ntmps72 (Nat.le_of_ble_eq_true rfl) fun X hX => ?_
  subst hX
  repeat (first | ((with_reducible refine k_move ?_); refine m_move rfl ?_) | ((with_reducible refine k_assign ?_); refine m_assign rfl ?_) | ((with_reducible refine k_call ?_); refine x_len_str (by exact Tryz.underlying9) rfl ?_) | ((with_reducible refine k_bin ?_); refine m_binI rfl rfl rfl ?_)  | refine e_nrm ?_ | refine x_none rfl ?_ | with_reducible (first | refine q_then ?_ | refine awp_seq ?_) | ((with_reducible refine w_region ?_ ?_); kernel_rfl))
  refine x_split rfl rfl (fun h1 => ?_) (fun h1 => ?_)
  · have e : s.data.toList = [] := List.eq_nil_of_length_eq_zero (by rw [← hs]; simp at h1; omega)
    rw [e]
    repeat (first | ((with_reducible refine k_assign ?_); refine m_assign rfl ?_) | ((with_reducible refine k_pick ?_); refine m_pickt rfl (by first | rfl | assumption) rfl ?_)  | refine e_nrm ?_ | refine x_none rfl ?_ | refine x_skip_f rfl rfl (by first | rfl | assumption) ?_ | refine x_skip' rfl rfl rfl ?_ | with_reducible (first | refine q_then ?_ | refine q_then_ret ?_ | refine awp_seq ?_ | refine awp_ret ?_) | ((with_reducible refine w_region ?_ ?_); kernel_rfl) | refine w_cond_t rfl (by first | rfl | assumption) ?_)
    refine ret0_2 (by first | exact .inr rfl | exact .inl rfl) rfl rfl rfl ?_
    repeat' (first | exact trivial | exact Ren.v _ | exact Ren.sl _ _ | exact Ren.ep _ | exact Ren.ptr _ _ _ _ rfl | exact Ren.bs _ _ _ _ _ rfl | exact Ren.nil _ | exact Ren.own _ _ _ _ ⟨_, rfl⟩ | refine ren_ag ?_ | refine ren_tu ?_ | refine ren_fn ?_ | refine ⟨?_, ?_⟩)
  · have h1n : ¬ s.size = 0 := by simp at h1; omega
    obtain ⟨c0, h0⟩ := some_at (L := s.data.toList) (k := 0) (by rw [← hs]; omega)
    have ix0 : ∀ w : World, (Instr.index 9 (.string s) (.int .i64 0)).run Tryz.prog w = .ok (.int .u8 (c0.toNat : Int)) w := fun w => nidxS s 0 c0 h0 w
    repeat (first | ((with_reducible refine k_move ?_); refine m_move rfl ?_) | ((with_reducible refine k_call ?_); refine x_len_str (by exact Tryz.underlying9) rfl ?_) | ((with_reducible refine k_bin ?_); refine m_binI rfl rfl rfl ?_)  | refine x_run_f rfl rfl (by first | rfl | assumption) ?_  )
    by_cases hb : 1 < s.size ∧ c0 = 48
    · rw [numP_zero' h0 hb]
      have q1 : decide ((s.size : Int) > 1) = true := by simp; omega
      have q2 : ((c0.toNat : Int) == 48) = true := by rw [hb.2]; rfl
      repeat (first | ((with_reducible refine k_move ?_); refine m_move rfl ?_) | ((with_reducible refine k_assign ?_); refine m_assign rfl ?_) | ((with_reducible refine k_pick ?_); (first | refine m_pickt rfl (by first | rfl | assumption) rfl ?_ | refine m_pickf rfl (by first | rfl | assumption) rfl ?_)) | ((with_reducible refine k_index ?_); refine x_index rfl rfl (by assumption) ?_) | ((with_reducible refine k_bin ?_); refine m_binI rfl rfl rfl ?_)  | refine e_nrm ?_ | refine x_none rfl ?_ | refine x_run_t rfl rfl (by first | rfl | assumption) ?_ | refine x_run_f rfl rfl (by first | rfl | assumption) ?_ | with_reducible (first | refine q_then ?_ | refine q_then_ret ?_ | refine awp_seq ?_ | refine awp_ret ?_) | ((with_reducible refine w_region ?_ ?_); kernel_rfl) | refine w_cond_t rfl (by first | rfl | assumption) ?_)
      refine ret0_2 (by first | exact .inr rfl | exact .inl rfl) rfl rfl rfl ?_
      repeat' (first | exact trivial | exact Ren.v _ | exact Ren.sl _ _ | exact Ren.ep _ | exact Ren.ptr _ _ _ _ rfl | exact Ren.bs _ _ _ _ _ rfl | exact Ren.nil _ | exact Ren.own _ _ _ _ ⟨_, rfl⟩ | refine ren_ag ?_ | refine ren_tu ?_ | refine ren_fn ?_ | refine ⟨?_, ?_⟩)
    · have hrn : numP s.data.toList most = (rnumGo s.data.toList 0).bind fun m => if most < m then none else some m := by
        rw [numP_of h0 hb, rnum_any hm2 (fun e => by rw [e] at h0; cases h0)]
      rw [hrn]
      repeat' (first | ((with_reducible refine k_move ?_); refine m_move rfl ?_) | ((with_reducible refine k_assign ?_); refine m_assign rfl ?_) | ((with_reducible refine k_pick ?_); (first | refine m_pickt rfl (by first | rfl | assumption) rfl ?_ | refine m_pickf rfl (by first | rfl | assumption) rfl ?_)) | ((with_reducible refine k_index ?_); refine x_index rfl rfl (by assumption) ?_) | ((with_reducible refine k_bin ?_); refine m_binI rfl rfl rfl ?_)  | refine e_nrm ?_ | refine x_none rfl ?_ | refine x_run_t rfl rfl (by first | rfl | assumption) ?_ | refine x_skip_t rfl rfl (by first | rfl | assumption) ?_ | refine x_run_f rfl rfl (by first | rfl | assumption) ?_ | with_reducible (first | refine q_then ?_ | refine q_then_ret ?_ | refine awp_seq ?_ | refine awp_block ?_ | refine awp_skip ?_ | refine awp_ret ?_) | ((with_reducible refine w_region ?_ ?_); kernel_rfl) | refine w_cond_f rfl (by first | rfl | assumption) ?_ | refine x_split rfl rfl (fun _ => ?_) (fun _ => ?_) | refine w_cond rfl (fun _ => ?_) (fun _ => ?_))
      all_goals first
        | (exfalso
           apply hb
           simp at *
           exact ⟨by omega, UInt8.toNat_inj.1 (by show c0.toNat = 48; omega)⟩)
        | skip
      all_goals (
        refine awp_loop (ι := Nat × Int) (fun q => q.1 ≤ s.size ∧ 0 ≤ q.2 ∧ q.2 ≤ 9223372036854775807 ∧ rnumGo (s.data.toList.drop q.1) q.2 = rnumGo s.data.toList 0) (fun q => s.size - q.1) (fun v q => [(0, .v (.string s)), (1, .v (.int .i64 most)), (6, .v (.int .i64 q.2)), (7, .v (.int .i64 (q.1 : Nat)))]) (fun v q => []) ?_ ?_)
      all_goals first
        | exact ⟨(0, 0), ⟨Nat.zero_le _, by simp, by simp, rfl⟩, trivial, ⟨rfl, rfl, rfl, rfl, trivial⟩, trivial⟩
        | skip
      all_goals (
        rintro v ⟨k, m⟩ ⟨hk, hm3, hm4, hf⟩
        simp only at hk hm3 hm4 hf
        dsimp only
        repeat (first | ((with_reducible refine k_move ?_); refine m_move rfl ?_) | ((with_reducible refine k_call ?_); refine x_len_str (by exact Tryz.underlying9) rfl ?_) | ((with_reducible refine k_bin ?_); refine m_binI rfl rfl rfl ?_)  | refine e_nrm ?_ | refine x_none rfl ?_ | with_reducible (first | refine q_then ?_ | refine awp_seq ?_) | ((with_reducible refine w_region ?_ ?_); kernel_rfl))
        refine w_cond rfl (fun h => ?_) (fun h => ?_)
        · have hlt : k < s.size := by simp at h; omega
          obtain ⟨c, hx⟩ := some_at (L := s.data.toList) (k := k) (by rw [← hs]; exact hlt)
          have ix := nidxS s k c hx
          rw [drop_at hx, rnumGo] at hf
          have hcd : isDig c = (decide (48 ≤ (c.toNat : Int)) && decide ((c.toNat : Int) ≤ 57)) := by
            unfold isDig
            rw [Bool.eq_iff_iff]; simp; omega
          have hdg : dig c = (c.toNat : Int) - 48 := rfl
          rw [hcd, hdg] at hf
          clear hcd hdg
          obtain ⟨b, hbb⟩ : ∃ b : Int, (c.toNat : Int) = b := ⟨_, rfl⟩
          have hb2 : 0 ≤ b ∧ b < 256 := by have := c.toNat_lt; omega
          obtain ⟨hb3, hb4⟩ := hb2
          rw [hbb] at ix hf
          clear hbb
          repeat (first | ((with_reducible refine k_move ?_); refine m_move rfl ?_) | ((with_reducible refine k_index ?_); refine x_index rfl rfl (by assumption) ?_)  | refine x_none rfl ?_ | with_reducible (first | refine q_then ?_ | refine awp_seq ?_ | refine awp_block ?_ | refine awp_skip ?_) | ((with_reducible refine w_region ?_ ?_); kernel_rfl))
          with_reducible refine k_call ?_
          refine zC (rdigit_A b) ?_
          repeat (first | ((with_reducible refine k_un ?_); refine x_not rfl ?_)  | refine e_nrm ?_ | refine x_none rfl ?_ | with_reducible refine q_then ?_ )
          refine w_cond rfl (fun hd => ?_) (fun hd => ?_)
          · rw [if_pos (.inl (not_t hd))] at hf
            repeat (first | ((with_reducible refine k_assign ?_); refine m_assign rfl ?_)  | refine e_nrm ?_ | refine x_none rfl ?_ | with_reducible (first | refine q_then ?_ | refine q_then_ret ?_ | refine q_block_ret ?_ | refine awp_seq ?_ | refine awp_ret ?_) | ((with_reducible refine w_region ?_ ?_); kernel_rfl))
            refine ret0_2 (by first | exact .inr rfl | exact .inl rfl) rfl rfl rfl ?_
            rw [← hf]
            repeat' (first | exact trivial | exact Ren.v _ | exact Ren.sl _ _ | exact Ren.ep _ | exact Ren.ptr _ _ _ _ rfl | exact Ren.bs _ _ _ _ _ rfl | exact Ren.nil _ | exact Ren.own _ _ _ _ ⟨_, rfl⟩ | refine ren_ag ?_ | refine ren_tu ?_ | refine ren_fn ?_ | refine ⟨?_, ?_⟩)
          · have hd2 : (decide (48 ≤ b) && decide (b ≤ 57)) = true := not_f hd
            have hd3 : 48 ≤ b ∧ b ≤ 57 := by simpa using hd2
            obtain ⟨d1, d2⟩ := hd3
            rw [hd2] at hf
            have hqq : IntKind.i64.wrap ((9223372036854775807 - (b - 48)).tdiv 10) = (9223372036854775807 - (b - 48)) / 10 := by
              rw [Int.tdiv_eq_ediv_of_nonneg (by omega)]
              exact wrap_i64_in (by omega)
            have hw8 : IntKind.u8.wrap (b - 48) = b - 48 := wrap_u8_in (by omega)
            repeat (first | ((with_reducible refine k_move ?_); refine m_move rfl ?_) | ((with_reducible refine k_index ?_); refine x_index rfl rfl (by assumption) ?_) | ((with_reducible refine k_convert ?_); refine x_conv_in tbOk rfl rfl rfl (by first | assumption | exact wrap_u64_in (by omega) | exact wrap_i64_in (by omega) | exact wrap_u8_in (by omega)) ?_) | ((with_reducible refine k_bin ?_); (first | refine x_sub_in rfl rfl (by omega) ?_ | refine m_binI rfl rfl rfl ?_ | refine x_quo rfl rfl (by first | decide | assumption | omega) ?_))  | refine e_nrm ?_ | refine x_none rfl ?_ | with_reducible (first | refine q_then ?_ | refine awp_seq ?_ | refine awp_skip ?_) | ((with_reducible refine w_region ?_ ?_); kernel_rfl))
            rw [hw8, hqq]
            by_cases q4 : (9223372036854775807 - (b - 48)) / 10 < m
            · rw [if_pos (.inr q4)] at hf
              have p4 : decide (m > (9223372036854775807 - (b - 48)) / 10) = true := by simpa using q4
              repeat (first | ((with_reducible refine k_assign ?_); refine m_assign rfl ?_)  | refine e_nrm ?_ | refine x_none rfl ?_ | with_reducible (first | refine q_then ?_ | refine q_then_ret ?_ | refine q_block_ret ?_ | refine awp_seq ?_ | refine awp_ret ?_) | ((with_reducible refine w_region ?_ ?_); kernel_rfl) | refine w_cond_t rfl (by first | rfl | assumption) ?_)
              refine ret0_2 (by first | exact .inr rfl | exact .inl rfl) rfl rfl rfl ?_
              rw [← hf]
              repeat' (first | exact trivial | exact Ren.v _ | exact Ren.sl _ _ | exact Ren.ep _ | exact Ren.ptr _ _ _ _ rfl | exact Ren.bs _ _ _ _ _ rfl | exact Ren.nil _ | exact Ren.own _ _ _ _ ⟨_, rfl⟩ | refine ren_ag ?_ | refine ren_tu ?_ | refine ren_fn ?_ | refine ⟨?_, ?_⟩)
            · rw [if_neg (by simp; omega)] at hf
              have p4 : decide (m > (9223372036854775807 - (b - 48)) / 10) = false := by simpa using q4
              have hw : IntKind.i64.wrap (10 * m) = 10 * m := wrap_i64_in (by omega)
              repeat (first | ((with_reducible refine k_move ?_); refine m_move rfl ?_) | ((with_reducible refine k_assign ?_); refine m_assign rfl ?_) | ((with_reducible refine k_index ?_); refine x_index rfl rfl (by assumption) ?_) | ((with_reducible refine k_convert ?_); refine x_conv_in tbOk rfl rfl rfl (by first | assumption | exact wrap_u64_in (by omega) | exact wrap_i64_in (by omega) | exact wrap_u8_in (by omega)) ?_) | ((with_reducible refine k_bin ?_); (first | refine x_add_in rfl rfl (by omega) ?_ | refine m_binI rfl rfl rfl ?_))  | refine e_nrm ?_ | refine x_none rfl ?_ | with_reducible (first | refine q_then ?_ | refine q_block ?_ | refine awp_skip ?_) | ((with_reducible refine w_region ?_ ?_); kernel_rfl) | refine w_cond_f rfl (by first | rfl | assumption) ?_)
              refine ⟨(k + 1, _), ?_, ?_, ⟨rfl, rfl, rfl, rfl, trivial⟩, trivial⟩
              · dsimp only
                rw [hw, hw8]
                exact ⟨by omega, by omega, by omega, hf⟩
              · show s.size - (k + 1) < s.size - k
                omega
        · obtain rfl : k = s.size := by simp at h; omega
          rw [List.drop_of_length_le (by rw [← hs]; exact Nat.le_refl _)] at hf
          rw [← hf]
          repeat (first | ((with_reducible refine k_move ?_); refine m_move rfl ?_) | ((with_reducible refine k_bin ?_); refine m_binI rfl rfl rfl ?_)  | refine e_nrm ?_ | refine x_none rfl ?_ | with_reducible (first | refine q_then ?_ | refine q_then_exit ?_ | refine awp_seq ?_ | refine awp_exit ?_) | ((with_reducible refine q_block_exit ?_ ?_); rfl) | ((with_reducible refine w_region ?_ ?_); kernel_rfl))
          by_cases q5 : most < m
          · have p5 : decide (m > most) = true := by simpa using q5
            repeat (first | ((with_reducible refine k_assign ?_); refine m_assign rfl ?_)  | refine e_nrm ?_ | refine x_none rfl ?_ | with_reducible (first | refine q_then ?_ | refine q_then_ret ?_ | refine awp_seq ?_ | refine awp_ret ?_) | ((with_reducible refine w_region ?_ ?_); kernel_rfl) | refine w_cond_t rfl (by first | rfl | assumption) ?_)
            refine ret0_2 (by first | exact .inr rfl | exact .inl rfl) rfl rfl rfl ?_
            simp only [rnumGo, Option.bind_some, if_pos q5]
            repeat' (first | exact trivial | exact Ren.v _ | exact Ren.sl _ _ | exact Ren.ep _ | exact Ren.ptr _ _ _ _ rfl | exact Ren.bs _ _ _ _ _ rfl | exact Ren.nil _ | exact Ren.own _ _ _ _ ⟨_, rfl⟩ | refine ren_ag ?_ | refine ren_tu ?_ | refine ren_fn ?_ | refine ⟨?_, ?_⟩)
          · have p5 : decide (m > most) = false := by simpa using q5
            repeat (first | ((with_reducible refine k_move ?_); refine m_move rfl ?_) | ((with_reducible refine k_assign ?_); refine m_assign rfl ?_)  | refine e_nrm ?_ | refine x_none rfl ?_ | with_reducible (first | refine q_then ?_ | refine awp_seq ?_ | refine awp_skip ?_ | refine awp_ret ?_) | ((with_reducible refine w_region ?_ ?_); kernel_rfl) | refine w_cond_f rfl (by first | rfl | assumption) ?_)
            refine ret0_2 (by first | exact .inr rfl | exact .inl rfl) rfl rfl rfl ?_
            simp only [rnumGo, Option.bind_some, if_neg q5]
            repeat' (first | exact trivial | exact Ren.v _ | exact Ren.sl _ _ | exact Ren.ep _ | exact Ren.ptr _ _ _ _ rfl | exact Ren.bs _ _ _ _ _ rfl | exact Ren.nil _ | exact Ren.own _ _ _ _ ⟨_, rfl⟩ | refine ren_ag ?_ | refine ren_tu ?_ | refine ren_fn ?_ | refine ⟨?_, ?_⟩))
end Go.Proofs.YtggagmafkdhjcaaGreatDoor
