/- lexeme.Text, and the references of Number and Text, by the abstract machine; conditions: the table of powers stands / The reference of Text, by the abstract machine: the numeral of every integer; conditions: none. -/
import Derived.Test.YtgpglcccjkpmdaaDoorAbsN
import Derived.Test.YtgpglcccjkpmdaaDoorNmA
import Derived.Test.YtgpglcccjkpmdaaDoorShelf
set_option linter.unusedVariables false
set_option linter.unusedSimpArgs false
namespace Go.Proofs.YtgpglcccjkpmdaaDoor
open Go Go.RowKit Go.Sort
set_option maxRecDepth 10000
variable {G : Nat → Option (List Value)}
theorem not_t {x : Bool} (h : (!x) = true) : x = false := by cases x <;> simp_all
theorem not_f {x : Bool} (h : (!x) = false) : x = true := by cases x <;> simp_all
def powL : List Value := Lib.pow10Tab.map fun z => .int .u64 z
def GPow (G : Nat → Option (List Value)) : Prop := G 2 = some powL
theorem gPowN : Tryd.prog.globalNamed "internal/strconv.uint64pow10" = some 2 := by kernel_rfl
theorem tab_pow {w : World} {t : TypeId} {fr : Nat × Nat} (h : w.heap[2]? = some (.cells ⟨powL⟩ t fr)) : Lib.TabIs Tryd.prog w "internal/strconv.uint64pow10" .u64 Lib.pow10Tab := by
  unfold Lib.TabIs World.var?
  rw [gPowN]
  simp only [Option.bind_some]
  rw [h]
  rfl
theorem below_grown (w : World) (k : Nat) (os : Array Obj) : Below w.heap.size w (grow (w.drewN k) os) :=
  ⟨rfl, rfl, rfl, by simp [grow], fun i hi => by
    show (w.heap ++ os)[i]? = _
    rw [Array.getElem?_append_left hi]⟩
theorem itoa_A (n : Int) (hG : GPow G) (h1 : -9223372036854775808 ≤ n) (h2 : n ≤ 9223372036854775807) : ACalls Tryd.prog G 73 [.v (.int .i64 n)] [] (.v (.string (txtP n))) [] :=
  acalls_lib (vs := [.int .i64 n]) (enter_of Tryd.func73 (by kernel_rfl) rfl) (fun _ _ => .v _ _) (fun w hw => by
    obtain ⟨t, fr, h⟩ := hw _ _ hG
    refine (Tryd.strconv_Itoa n h1 h2 w (tab_pow h)).mono ?_
    rintro e w' ⟨rfl, k, os, rfl⟩
    exact ⟨rfl, below_grown w k os⟩)
theorem text_A (n : Int) (hG : GPow G) (h1 : -9223372036854775808 ≤ n) (h2 : n ≤ 9223372036854775807) : ACalls Tryd.prog G 50 [.v (.int .i64 n)] [] (.v (.string (txtP n))) [] := by
  refine acalls_of tbOk (enter_of Tryd.func50 (by kernel_rfl) rfl) Tryd.func50 rfl _ Tryd.ntmps50 (Nat.le_of_ble_eq_true rfl) fun X hX => ?_
  subst hX
  repeat (first | ((with_reducible refine k_move ?_); refine m_move rfl ?_) | ((with_reducible refine k_assign ?_); refine m_assign rfl ?_)  | refine e_nrm ?_ | refine x_none rfl ?_ | with_reducible refine q_then ?_ | with_reducible refine awp_seq ?_ | ((with_reducible refine w_region ?_ ?_); kernel_rfl))
  refine x_call0 (itoa_A n hG h1 h2) (by repeat' (first | exact trivial | exact Ren.v _ | exact Ren.sl _ _ | exact Ren.ep _ | exact Ren.ptr _ _ _ _ rfl | exact Ren.bs _ _ _ _ _ rfl | exact Ren.nil _ | exact Ren.own _ _ _ _ ⟨_, rfl⟩ | refine ren_ag ?_ | refine ren_tu ?_ | refine ren_fn ?_ | refine ⟨?_, ?_⟩)) (by repeat' (first | exact trivial | exact RenB.v _ | exact RenB.sl _ _ | exact RenB.ep _ | exact RenB.ptr _ _ _ _ rfl | refine renb_ag ?_ | refine renb_tu ?_ | refine ⟨?_, ?_⟩)) ?_
  repeat (first | ((with_reducible refine k_assign ?_); refine m_assign rfl ?_)  | refine e_nrm ?_ | refine x_none rfl ?_ | with_reducible refine q_then ?_ | with_reducible refine awp_ret ?_ )
  refine ret_v (by first | exact .inr rfl | exact .inl rfl) rfl rfl ?_
  rfl
set_option maxHeartbeats 2000000 in
theorem rnumber_A (s : ByteArray) (most : Int) (hm : s.size ≤ maxLen) (hm1 : -9223372036854775808 ≤ most) (hm2 : most ≤ 9223372036854775807) :
    ACalls Tryd.prog G 68 [.v (.string s), .v (.int .i64 most)] [] (.tu [.v (.int .i64 ((numP s.data.toList most).getD 0)), .v (.bool (numP s.data.toList most).isSome)]) [] := by
  have hmx : s.size ≤ 9223372036854775807 := by unfold maxLen at hm; omega
  have hs := nsizeS s
  refine acalls_of tbOk (enter_of Tryd.func68 (by kernel_rfl) rfl) Tryd.func68 rfl _ Tryd.ntmps68 (Nat.le_of_ble_eq_true rfl) fun X hX => ?_
  subst hX
  repeat (first | ((with_reducible refine k_move ?_); refine m_move rfl ?_) | ((with_reducible refine k_assign ?_); refine m_assign rfl ?_) | ((with_reducible refine k_call ?_); refine x_len_str (by exact Tryd.underlying9) rfl ?_) | ((with_reducible refine k_bin ?_); refine m_binI rfl rfl rfl ?_)  | refine e_nrm ?_ | refine x_none rfl ?_ | with_reducible refine q_then ?_ | with_reducible refine awp_seq ?_ | ((with_reducible refine w_region ?_ ?_); kernel_rfl))
  refine x_split rfl rfl (fun h1 => ?_) (fun h1 => ?_)
  · have e : s.data.toList = [] := List.eq_nil_of_length_eq_zero (by rw [← hs]; simp at h1; omega)
    rw [e]
    repeat (first | ((with_reducible refine k_assign ?_); refine m_assign rfl ?_) | ((with_reducible refine k_pick ?_); refine m_pickt rfl (by first | rfl | assumption) rfl ?_)  | refine e_nrm ?_ | refine x_none rfl ?_ | refine x_skip_f rfl rfl (by first | rfl | assumption) ?_ | refine x_skip' rfl rfl rfl ?_ | with_reducible refine q_then ?_ | with_reducible refine q_then_ret ?_ | with_reducible refine awp_seq ?_ | with_reducible refine awp_ret ?_ | ((with_reducible refine w_region ?_ ?_); kernel_rfl) | refine w_cond_t rfl (by first | rfl | assumption) ?_)
    refine ret0_2 (by first | exact .inr rfl | exact .inl rfl) rfl rfl rfl ?_
    repeat' (first | exact trivial | exact Ren.v _ | exact Ren.sl _ _ | exact Ren.ep _ | exact Ren.ptr _ _ _ _ rfl | exact Ren.bs _ _ _ _ _ rfl | exact Ren.nil _ | exact Ren.own _ _ _ _ ⟨_, rfl⟩ | refine ren_ag ?_ | refine ren_tu ?_ | refine ren_fn ?_ | refine ⟨?_, ?_⟩)
  · have h1n : ¬ s.size = 0 := by simp at h1; omega
    obtain ⟨c0, h0⟩ := some_at (L := s.data.toList) (k := 0) (by rw [← hs]; omega)
    have ix0 : ∀ w : World, (Instr.index 9 (.string s) (.int .i64 0)).run Tryd.prog w = .ok (.int .u8 (c0.toNat : Int)) w := fun w => nidxS s 0 c0 h0 w
    repeat (first | ((with_reducible refine k_move ?_); refine m_move rfl ?_) | ((with_reducible refine k_call ?_); refine x_len_str (by exact Tryd.underlying9) rfl ?_) | ((with_reducible refine k_bin ?_); refine m_binI rfl rfl rfl ?_)  | refine x_run_f rfl rfl (by first | rfl | assumption) ?_  )
    by_cases hb : 1 < s.size ∧ c0 = 48
    · rw [numP_zero' h0 hb]
      have q1 : decide ((s.size : Int) > 1) = true := by simp; omega
      have q2 : ((c0.toNat : Int) == 48) = true := by rw [hb.2]; rfl
      repeat (first | ((with_reducible refine k_move ?_); refine m_move rfl ?_) | ((with_reducible refine k_assign ?_); refine m_assign rfl ?_) | ((with_reducible refine k_pick ?_); refine m_pickt rfl (by first | rfl | assumption) rfl ?_) | ((with_reducible refine k_pick ?_); refine m_pickf rfl (by first | rfl | assumption) rfl ?_) | ((with_reducible refine k_index ?_); refine x_index rfl rfl (by assumption) ?_) | ((with_reducible refine k_bin ?_); refine m_binI rfl rfl rfl ?_)  | refine e_nrm ?_ | refine x_none rfl ?_ | refine x_run_t rfl rfl (by first | rfl | assumption) ?_ | refine x_run_f rfl rfl (by first | rfl | assumption) ?_ | with_reducible refine q_then ?_ | with_reducible refine q_then_ret ?_ | with_reducible refine awp_seq ?_ | with_reducible refine awp_ret ?_ | ((with_reducible refine w_region ?_ ?_); kernel_rfl) | refine w_cond_t rfl (by first | rfl | assumption) ?_)
      refine ret0_2 (by first | exact .inr rfl | exact .inl rfl) rfl rfl rfl ?_
      repeat' (first | exact trivial | exact Ren.v _ | exact Ren.sl _ _ | exact Ren.ep _ | exact Ren.ptr _ _ _ _ rfl | exact Ren.bs _ _ _ _ _ rfl | exact Ren.nil _ | exact Ren.own _ _ _ _ ⟨_, rfl⟩ | refine ren_ag ?_ | refine ren_tu ?_ | refine ren_fn ?_ | refine ⟨?_, ?_⟩)
    · have hrn : numP s.data.toList most = (rnumGo s.data.toList 0).bind fun m => if most < m then none else some m := by
        rw [numP_of h0 hb, rnum_any hm2 (fun e => by rw [e] at h0; cases h0)]
      rw [hrn]
      repeat' (first | ((with_reducible refine k_move ?_); refine m_move rfl ?_) | ((with_reducible refine k_assign ?_); refine m_assign rfl ?_) | ((with_reducible refine k_pick ?_); refine m_pickt rfl (by first | rfl | assumption) rfl ?_) | ((with_reducible refine k_pick ?_); refine m_pickf rfl (by first | rfl | assumption) rfl ?_) | ((with_reducible refine k_index ?_); refine x_index rfl rfl (by assumption) ?_) | ((with_reducible refine k_bin ?_); refine m_binI rfl rfl rfl ?_)  | refine e_nrm ?_ | refine x_none rfl ?_ | refine x_run_t rfl rfl (by first | rfl | assumption) ?_ | refine x_skip_t rfl rfl (by first | rfl | assumption) ?_ | refine x_run_f rfl rfl (by first | rfl | assumption) ?_ | with_reducible refine q_then ?_ | with_reducible refine q_then_ret ?_ | with_reducible refine awp_seq ?_ | with_reducible refine awp_block ?_ | with_reducible refine awp_skip ?_ | with_reducible refine awp_ret ?_ | ((with_reducible refine w_region ?_ ?_); kernel_rfl) | refine w_cond_f rfl (by first | rfl | assumption) ?_ | refine x_split rfl rfl (fun _ => ?_) (fun _ => ?_) | refine w_cond rfl (fun _ => ?_) (fun _ => ?_))
      all_goals first
        | (exfalso
           apply hb
           simp at *
           exact ⟨by omega, UInt8.toNat_inj.1 (by show c0.toNat = 48; omega)⟩)
        | skip
      all_goals (
        refine awp_loop (ι := Nat × Int) (fun q => q.1 ≤ s.size ∧ 0 ≤ q.2 ∧ q.2 ≤ 9223372036854775807 ∧ rnumGo (s.data.toList.drop q.1) q.2 = rnumGo s.data.toList 0) (fun q => s.size - q.1) (fun v q => [(0, .v (.string s)), (1, .v (.int .i64 most)), (6, .v (.int .i64 q.2)), (7, .v (.int .i64 (q.1 : Nat)))]) (fun v q => []) ?_ ?_)
      all_goals first
        | exact ⟨(0, 0), ⟨Nat.zero_le _, by simp, by simp, rfl⟩, trivial, ⟨rfl, rfl, rfl, rfl, trivial⟩, trivial⟩
        | skip
      all_goals (
        rintro v ⟨k, m⟩ ⟨hk, hm3, hm4, hf⟩
        simp only at hk hm3 hm4 hf
        dsimp only
        repeat (first | ((with_reducible refine k_move ?_); refine m_move rfl ?_) | ((with_reducible refine k_call ?_); refine x_len_str (by exact Tryd.underlying9) rfl ?_) | ((with_reducible refine k_bin ?_); refine m_binI rfl rfl rfl ?_)  | refine e_nrm ?_ | refine x_none rfl ?_ | with_reducible refine q_then ?_ | with_reducible refine awp_seq ?_ | ((with_reducible refine w_region ?_ ?_); kernel_rfl))
        refine w_cond rfl (fun h => ?_) (fun h => ?_)
        · have hlt : k < s.size := by simp at h; omega
          obtain ⟨c, hx⟩ := some_at (L := s.data.toList) (k := k) (by rw [← hs]; exact hlt)
          have ix := nidxS s k c hx
          rw [drop_at hx, rnumGo] at hf
          have hcd : isDig c = (decide (48 ≤ (c.toNat : Int)) && decide ((c.toNat : Int) ≤ 57)) := by
            unfold isDig
            rw [Bool.eq_iff_iff]; simp; omega
          have hdg : dig c = (c.toNat : Int) - 48 := rfl
          rw [hcd, hdg] at hf
          clear hcd hdg
          obtain ⟨b, hbb⟩ : ∃ b : Int, (c.toNat : Int) = b := ⟨_, rfl⟩
          have hb2 : 0 ≤ b ∧ b < 256 := by have := c.toNat_lt; omega
          obtain ⟨hb3, hb4⟩ := hb2
          rw [hbb] at ix hf
          clear hbb
          repeat (first | ((with_reducible refine k_move ?_); refine m_move rfl ?_) | ((with_reducible refine k_index ?_); refine x_index rfl rfl (by assumption) ?_)  | refine x_none rfl ?_ | with_reducible refine q_then ?_ | with_reducible refine awp_seq ?_ | with_reducible refine awp_block ?_ | with_reducible refine awp_skip ?_ | ((with_reducible refine w_region ?_ ?_); kernel_rfl))
          with_reducible refine k_call ?_
          refine x_call0 (rdigit_A b) (by repeat' (first | exact trivial | exact Ren.v _ | exact Ren.sl _ _ | exact Ren.ep _ | exact Ren.ptr _ _ _ _ rfl | exact Ren.bs _ _ _ _ _ rfl | exact Ren.nil _ | exact Ren.own _ _ _ _ ⟨_, rfl⟩ | refine ren_ag ?_ | refine ren_tu ?_ | refine ren_fn ?_ | refine ⟨?_, ?_⟩)) (by repeat' (first | exact trivial | exact RenB.v _ | exact RenB.sl _ _ | exact RenB.ep _ | exact RenB.ptr _ _ _ _ rfl | refine renb_ag ?_ | refine renb_tu ?_ | refine ⟨?_, ?_⟩)) ?_
          repeat (first | ((with_reducible refine k_un ?_); refine x_not rfl ?_)  | refine e_nrm ?_ | refine x_none rfl ?_ | with_reducible refine q_then ?_ )
          refine w_cond rfl (fun hd => ?_) (fun hd => ?_)
          · rw [if_pos (.inl (not_t hd))] at hf
            repeat (first | ((with_reducible refine k_assign ?_); refine m_assign rfl ?_)  | refine e_nrm ?_ | refine x_none rfl ?_ | with_reducible refine q_then ?_ | with_reducible refine q_then_ret ?_ | with_reducible refine q_block_ret ?_ | with_reducible refine awp_seq ?_ | with_reducible refine awp_ret ?_ | ((with_reducible refine w_region ?_ ?_); kernel_rfl))
            refine ret0_2 (by first | exact .inr rfl | exact .inl rfl) rfl rfl rfl ?_
            rw [← hf]
            repeat' (first | exact trivial | exact Ren.v _ | exact Ren.sl _ _ | exact Ren.ep _ | exact Ren.ptr _ _ _ _ rfl | exact Ren.bs _ _ _ _ _ rfl | exact Ren.nil _ | exact Ren.own _ _ _ _ ⟨_, rfl⟩ | refine ren_ag ?_ | refine ren_tu ?_ | refine ren_fn ?_ | refine ⟨?_, ?_⟩)
          · have hd2 : (decide (48 ≤ b) && decide (b ≤ 57)) = true := not_f hd
            have hd3 : 48 ≤ b ∧ b ≤ 57 := by simpa using hd2
            obtain ⟨d1, d2⟩ := hd3
            rw [hd2] at hf
            have hqq : IntKind.i64.wrap ((9223372036854775807 - (b - 48)).tdiv 10) = (9223372036854775807 - (b - 48)) / 10 := by
              rw [Int.tdiv_eq_ediv_of_nonneg (by omega)]
              exact wrap_i64_in (by omega)
            have hw8 : IntKind.u8.wrap (b - 48) = b - 48 := wrap_u8_in (by omega)
            repeat (first | ((with_reducible refine k_move ?_); refine m_move rfl ?_) | ((with_reducible refine k_index ?_); refine x_index rfl rfl (by assumption) ?_) | ((with_reducible refine k_convert ?_); refine x_conv_in tbOk rfl rfl rfl (by first | assumption | exact wrap_u64_in (by omega) | exact wrap_i64_in (by omega) | exact wrap_u8_in (by omega)) ?_) | ((with_reducible refine k_bin ?_); refine x_sub_in rfl rfl (by omega) ?_) | ((with_reducible refine k_bin ?_); refine m_binI rfl rfl rfl ?_) | ((with_reducible refine k_bin ?_); refine x_quo rfl rfl (by first | decide | assumption | omega) ?_)  | refine e_nrm ?_ | refine x_none rfl ?_ | with_reducible refine q_then ?_ | with_reducible refine awp_seq ?_ | with_reducible refine awp_skip ?_ | ((with_reducible refine w_region ?_ ?_); kernel_rfl))
            rw [hw8, hqq]
            by_cases q4 : (9223372036854775807 - (b - 48)) / 10 < m
            · rw [if_pos (.inr q4)] at hf
              have p4 : decide (m > (9223372036854775807 - (b - 48)) / 10) = true := by simpa using q4
              repeat (first | ((with_reducible refine k_assign ?_); refine m_assign rfl ?_)  | refine e_nrm ?_ | refine x_none rfl ?_ | with_reducible refine q_then ?_ | with_reducible refine q_then_ret ?_ | with_reducible refine q_block_ret ?_ | with_reducible refine awp_seq ?_ | with_reducible refine awp_ret ?_ | ((with_reducible refine w_region ?_ ?_); kernel_rfl) | refine w_cond_t rfl (by first | rfl | assumption) ?_)
              refine ret0_2 (by first | exact .inr rfl | exact .inl rfl) rfl rfl rfl ?_
              rw [← hf]
              repeat' (first | exact trivial | exact Ren.v _ | exact Ren.sl _ _ | exact Ren.ep _ | exact Ren.ptr _ _ _ _ rfl | exact Ren.bs _ _ _ _ _ rfl | exact Ren.nil _ | exact Ren.own _ _ _ _ ⟨_, rfl⟩ | refine ren_ag ?_ | refine ren_tu ?_ | refine ren_fn ?_ | refine ⟨?_, ?_⟩)
            · rw [if_neg (by simp; omega)] at hf
              have p4 : decide (m > (9223372036854775807 - (b - 48)) / 10) = false := by simpa using q4
              have hw : IntKind.i64.wrap (10 * m) = 10 * m := wrap_i64_in (by omega)
              repeat (first | ((with_reducible refine k_move ?_); refine m_move rfl ?_) | ((with_reducible refine k_assign ?_); refine m_assign rfl ?_) | ((with_reducible refine k_index ?_); refine x_index rfl rfl (by assumption) ?_) | ((with_reducible refine k_convert ?_); refine x_conv_in tbOk rfl rfl rfl (by first | assumption | exact wrap_u64_in (by omega) | exact wrap_i64_in (by omega) | exact wrap_u8_in (by omega)) ?_) | ((with_reducible refine k_bin ?_); refine x_add_in rfl rfl (by omega) ?_) | ((with_reducible refine k_bin ?_); refine m_binI rfl rfl rfl ?_)  | refine e_nrm ?_ | refine x_none rfl ?_ | with_reducible refine q_then ?_ | with_reducible refine q_block ?_ | with_reducible refine awp_skip ?_ | ((with_reducible refine w_region ?_ ?_); kernel_rfl) | refine w_cond_f rfl (by first | rfl | assumption) ?_)
              refine ⟨(k + 1, _), ?_, ?_, ⟨rfl, rfl, rfl, rfl, trivial⟩, trivial⟩
              · dsimp only
                rw [hw, hw8]
                exact ⟨by omega, by omega, by omega, hf⟩
              · show s.size - (k + 1) < s.size - k
                omega
        · obtain rfl : k = s.size := by simp at h; omega
          rw [List.drop_of_length_le (by rw [← hs]; exact Nat.le_refl _)] at hf
          rw [← hf]
          repeat (first | ((with_reducible refine k_move ?_); refine m_move rfl ?_) | ((with_reducible refine k_bin ?_); refine m_binI rfl rfl rfl ?_)  | refine e_nrm ?_ | refine x_none rfl ?_ | with_reducible refine q_then ?_ | with_reducible refine q_then_exit ?_ | with_reducible refine awp_seq ?_ | with_reducible refine awp_exit ?_ | ((with_reducible refine q_block_exit ?_ ?_); rfl) | ((with_reducible refine w_region ?_ ?_); kernel_rfl))
          by_cases q5 : most < m
          · have p5 : decide (m > most) = true := by simpa using q5
            repeat (first | ((with_reducible refine k_assign ?_); refine m_assign rfl ?_)  | refine e_nrm ?_ | refine x_none rfl ?_ | with_reducible refine q_then ?_ | with_reducible refine q_then_ret ?_ | with_reducible refine awp_seq ?_ | with_reducible refine awp_ret ?_ | ((with_reducible refine w_region ?_ ?_); kernel_rfl) | refine w_cond_t rfl (by first | rfl | assumption) ?_)
            refine ret0_2 (by first | exact .inr rfl | exact .inl rfl) rfl rfl rfl ?_
            simp only [rnumGo, Option.bind_some, if_pos q5]
            repeat' (first | exact trivial | exact Ren.v _ | exact Ren.sl _ _ | exact Ren.ep _ | exact Ren.ptr _ _ _ _ rfl | exact Ren.bs _ _ _ _ _ rfl | exact Ren.nil _ | exact Ren.own _ _ _ _ ⟨_, rfl⟩ | refine ren_ag ?_ | refine ren_tu ?_ | refine ren_fn ?_ | refine ⟨?_, ?_⟩)
          · have p5 : decide (m > most) = false := by simpa using q5
            repeat (first | ((with_reducible refine k_move ?_); refine m_move rfl ?_) | ((with_reducible refine k_assign ?_); refine m_assign rfl ?_)  | refine e_nrm ?_ | refine x_none rfl ?_ | with_reducible refine q_then ?_ | with_reducible refine awp_seq ?_ | with_reducible refine awp_skip ?_ | with_reducible refine awp_ret ?_ | ((with_reducible refine w_region ?_ ?_); kernel_rfl) | refine w_cond_f rfl (by first | rfl | assumption) ?_)
            refine ret0_2 (by first | exact .inr rfl | exact .inl rfl) rfl rfl rfl ?_
            simp only [rnumGo, Option.bind_some, if_neg q5]
            repeat' (first | exact trivial | exact Ren.v _ | exact Ren.sl _ _ | exact Ren.ep _ | exact Ren.ptr _ _ _ _ rfl | exact Ren.bs _ _ _ _ _ rfl | exact Ren.nil _ | exact Ren.own _ _ _ _ ⟨_, rfl⟩ | refine ren_ag ?_ | refine ren_tu ?_ | refine ren_fn ?_ | refine ⟨?_, ?_⟩))
end Go.Proofs.YtgpglcccjkpmdaaDoor
namespace Go.Proofs.YtgpglcccjkpmdaaDoor
open Go Go.RowKit
set_option maxRecDepth 10000
variable {G : Nat → Option (List Value)}
theorem tdm (m : Int) : (m.tdiv 10).natAbs = m.natAbs / 10 ∧ (m.tmod 10).natAbs = m.natAbs % 10 ∧ (0 ≤ m → 0 ≤ m.tdiv 10 ∧ 0 ≤ m.tmod 10) ∧ (m ≤ 0 → m.tdiv 10 ≤ 0 ∧ m.tmod 10 ≤ 0) := by
  rcases Int.le_total 0 m with h | h
  · rw [Int.tdiv_eq_ediv_of_nonneg h, Int.tmod_eq_emod_of_nonneg h]
    refine ⟨by omega, by omega, by omega, by omega⟩
  · obtain ⟨p, rfl⟩ : ∃ p, m = -p := ⟨-m, by omega⟩
    have hp : 0 ≤ p := by omega
    rw [Int.neg_tdiv, Int.neg_tmod, Int.tdiv_eq_ediv_of_nonneg hp, Int.tmod_eq_emod_of_nonneg hp]
    refine ⟨by omega, by omega, by omega, by omega⟩
theorem ba_ext {s : ByteArray} {l : List UInt8} (h : s.data.toList = l) : s = ⟨l.toArray⟩ := by
  subst h; rfl
theorem ba_app (a b : ByteArray) : (a ++ b).data.toList = a.data.toList ++ b.data.toList := by simp
set_option maxHeartbeats 2000000 in
theorem rtext_A (n : Int) (h1 : -9223372036854775808 ≤ n) (h2 : n ≤ 9223372036854775807) : ACalls Tryd.prog G 65 [.v (.int .i64 n)] [] (.v (.string (txtP n))) [] := by
  have hi := itoa_digs n
  have hln : (digs n.natAbs).length ≤ 19 := digs_len 19 _ (by omega)
  refine acalls_of tbOk (enter_of Tryd.func65 (by kernel_rfl) rfl) Tryd.func65 rfl _ Tryd.ntmps65 (Nat.le_of_ble_eq_true rfl) fun X hX => ?_
  subst hX
  repeat (first | ((with_reducible refine k_move ?_); refine m_move rfl ?_) | ((with_reducible refine k_assign ?_); refine m_assign rfl ?_) | ((with_reducible refine k_bin ?_); refine m_binI rfl rfl rfl ?_)  | refine e_nrm ?_ | refine x_none rfl ?_ | with_reducible refine q_then ?_ | with_reducible refine awp_seq ?_ | ((with_reducible refine w_region ?_ ?_); kernel_rfl))
  refine w_cond rfl (fun h => ?_) (fun h => ?_)
  · have h0 : n = 0 := by simpa using h
    rw [if_pos h0] at hi
    repeat (first | ((with_reducible refine k_assign ?_); refine m_assign rfl ?_)  | refine e_nrm ?_ | refine x_none rfl ?_ | with_reducible refine q_then ?_ | with_reducible refine q_then_ret ?_ | with_reducible refine awp_seq ?_ | with_reducible refine awp_ret ?_ | ((with_reducible refine w_region ?_ ?_); kernel_rfl))
    refine ret_v (by first | exact .inr rfl | exact .inl rfl) rfl rfl ?_
    unfold txtP
    rw [hi]
  · have h0 : n ≠ 0 := by simpa using h
    rw [if_neg h0] at hi
    repeat (first | ((with_reducible refine k_move ?_); refine m_move rfl ?_) | ((with_reducible refine k_assign ?_); refine m_assign rfl ?_)  | refine e_nrm ?_ | refine x_none rfl ?_ | with_reducible refine q_then ?_ | with_reducible refine awp_seq ?_ | with_reducible refine awp_block ?_ | with_reducible refine awp_skip ?_ | ((with_reducible refine w_region ?_ ?_); kernel_rfl))
    refine awp_loop (ι := Int × ByteArray) (fun q => (n < 0 → q.1 ≤ 0) ∧ (0 < n → 0 ≤ q.1) ∧ q.1.natAbs ≤ n.natAbs ∧ digs q.1.natAbs ++ q.2.data.toList = digs n.natAbs) (fun q => q.1.natAbs) (fun v q => [(0, .v (.int .i64 n)), (3, .v (.string q.2)), (4, .v (.int .i64 q.1))]) (fun v q => []) ?_ ?_
    · exact ⟨(n, ⟨#[]⟩), ⟨by show n < 0 → n ≤ 0; omega, by show 0 < n → 0 ≤ n; omega, Nat.le_refl _, by simp⟩, trivial, ⟨rfl, rfl, rfl, trivial⟩, trivial⟩
    rintro v ⟨m, s⟩ ⟨hm1, hm2, hm3, hf⟩
    simp only at hm1 hm2 hm3 hf
    dsimp only
    have hsl : s.size ≤ 19 := by
      have := congrArg List.length hf
      rw [List.length_append] at this
      have e : s.size = s.data.toList.length := by simp
      omega
    repeat (first | ((with_reducible refine k_move ?_); refine m_move rfl ?_) | ((with_reducible refine k_bin ?_); refine m_binI rfl rfl rfl ?_)  | refine e_nrm ?_ | refine x_none rfl ?_ | with_reducible refine q_then ?_ | with_reducible refine awp_seq ?_ | ((with_reducible refine w_region ?_ ?_); kernel_rfl))
    refine w_cond rfl (fun h => ?_) (fun h => ?_)
    · have hm0 : m ≠ 0 := by simpa using h
      obtain ⟨t1, t2, t3, t4⟩ := tdm m
      rw [digs_step (by omega), List.append_assoc] at hf
      have hwq : IntKind.i64.wrap (m.tdiv 10) = m.tdiv 10 := wrap_i64_in (by omega)
      repeat (first | ((with_reducible refine k_move ?_); refine m_move rfl ?_) | ((with_reducible refine k_assign ?_); refine m_assign rfl ?_) | ((with_reducible refine k_bin ?_); refine m_binI rfl rfl rfl ?_) | ((with_reducible refine k_bin ?_); refine x_rem rfl rfl (by first | decide | assumption | omega) ?_)  | refine e_nrm ?_ | refine x_none rfl ?_ | with_reducible refine q_then ?_ | with_reducible refine awp_seq ?_ | with_reducible refine awp_block ?_ | with_reducible refine awp_skip ?_ | ((with_reducible refine w_region ?_ ?_); kernel_rfl))
      refine w_cond rfl (fun hd => ?_) (fun hd => ?_)
      · have hd2 : m.tmod 10 < 0 := by simpa using hd
        have hw : IntKind.i64.wrap (0 - m.tmod 10) = ((m.natAbs % 10 : Nat) : Int) := by rw [wrap_i64_in (by omega)]; omega
        repeat (first | ((with_reducible refine k_move ?_); refine m_move rfl ?_) | ((with_reducible refine k_assign ?_); refine m_assign rfl ?_) | ((with_reducible refine k_un ?_); refine x_neg rfl ?_) | ((with_reducible refine k_convert ?_); refine x_conv_in tbOk rfl rfl rfl (by first | assumption | exact wrap_u64_in (by omega) | exact wrap_i64_in (by omega) | exact wrap_u8_in (by omega)) ?_) | ((with_reducible refine k_bin ?_); refine x_add_in rfl rfl (by omega) ?_) | ((with_reducible refine k_buildSlice ?_); refine m_buildSlice tbOk rfl rfl rfl rfl rfl (by omega) rfl rfl rfl ?_) | refine e_nrm ?_ | refine x_none rfl ?_ | with_reducible refine q_then ?_ | ((with_reducible refine w_region ?_ ?_); kernel_rfl))
        refine x_conv_bytes Tryd.underlying90 Tryd.underlying5 Tryd.underlying9 rfl rfl (by simp) ?_
        repeat (first | ((with_reducible refine k_move ?_); refine m_move rfl ?_)  | refine x_none rfl ?_  )
        refine x_add_s rfl rfl (by rw [strOfNums_size]; simp; omega) ?_
        repeat (first | ((with_reducible refine k_move ?_); refine m_move rfl ?_) | ((with_reducible refine k_assign ?_); refine m_assign rfl ?_) | ((with_reducible refine k_bin ?_); refine x_quo rfl rfl (by first | decide | assumption | omega) ?_)  | refine e_nrm ?_ | refine x_none rfl ?_ | with_reducible refine q_then ?_ | with_reducible refine q_block ?_ | ((with_reducible refine w_region ?_ ?_); kernel_rfl))
        refine ⟨(IntKind.i64.wrap (m.tdiv 10), strOfNums [48 + IntKind.i64.wrap (0 - m.tmod 10)] ++ s), ?_, ?_, ⟨rfl, rfl, rfl, trivial⟩, trivial⟩
        · dsimp only
          rw [hwq]
          refine ⟨by omega, by omega, by omega, ?_⟩
          rw [← hf, t1, ba_app, strOfNums_data, hw]
          refine congrArg (_ ++ ·) (congrArg (· ++ _) ?_)
          show [_] = [_]
          congr 2
        · dsimp only
          rw [hwq]
          omega
      · have hd2 : ¬ m.tmod 10 < 0 := by simpa using hd
        have hw : m.tmod 10 = ((m.natAbs % 10 : Nat) : Int) := by omega
        repeat (first | ((with_reducible refine k_move ?_); refine m_move rfl ?_) | ((with_reducible refine k_convert ?_); refine x_conv_in tbOk rfl rfl rfl (by first | assumption | exact wrap_u64_in (by omega) | exact wrap_i64_in (by omega) | exact wrap_u8_in (by omega)) ?_) | ((with_reducible refine k_bin ?_); refine x_add_in rfl rfl (by omega) ?_) | ((with_reducible refine k_buildSlice ?_); refine m_buildSlice tbOk rfl rfl rfl rfl rfl (by omega) rfl rfl rfl ?_) | refine x_none rfl ?_ | with_reducible refine q_then ?_ | with_reducible refine awp_skip ?_ | ((with_reducible refine w_region ?_ ?_); kernel_rfl))
        refine x_conv_bytes Tryd.underlying90 Tryd.underlying5 Tryd.underlying9 rfl rfl (by simp) ?_
        repeat (first | ((with_reducible refine k_move ?_); refine m_move rfl ?_)  | refine x_none rfl ?_  )
        refine x_add_s rfl rfl (by rw [strOfNums_size]; simp; omega) ?_
        repeat (first | ((with_reducible refine k_move ?_); refine m_move rfl ?_) | ((with_reducible refine k_assign ?_); refine m_assign rfl ?_) | ((with_reducible refine k_bin ?_); refine x_quo rfl rfl (by first | decide | assumption | omega) ?_)  | refine e_nrm ?_ | refine x_none rfl ?_ | with_reducible refine q_then ?_ | with_reducible refine q_block ?_ | ((with_reducible refine w_region ?_ ?_); kernel_rfl))
        refine ⟨(IntKind.i64.wrap (m.tdiv 10), strOfNums [48 + m.tmod 10] ++ s), ?_, ?_, ⟨rfl, rfl, rfl, trivial⟩, trivial⟩
        · dsimp only
          rw [hwq]
          refine ⟨by omega, by omega, by omega, ?_⟩
          rw [← hf, t1, ba_app, strOfNums_data, hw]
          refine congrArg (_ ++ ·) (congrArg (· ++ _) ?_)
          show [_] = [_]
          congr 2
        · dsimp only
          rw [hwq]
          omega
    · have hm0 : m = 0 := by simpa using h
      have hf2 : s.data.toList = digs n.natAbs := by rw [← hf, hm0]; rfl
      repeat (first | ((with_reducible refine k_move ?_); refine m_move rfl ?_) | ((with_reducible refine k_bin ?_); refine m_binI rfl rfl rfl ?_)  | refine e_nrm ?_ | refine x_none rfl ?_ | with_reducible refine q_then ?_ | with_reducible refine q_then_exit ?_ | with_reducible refine awp_seq ?_ | with_reducible refine awp_exit ?_ | ((with_reducible refine q_block_exit ?_ ?_); rfl) | ((with_reducible refine w_region ?_ ?_); kernel_rfl))
      refine w_cond rfl (fun hd => ?_) (fun hd => ?_)
      · rw [if_pos (by simpa using hd)] at hi
        repeat (first | ((with_reducible refine k_move ?_); refine m_move rfl ?_)  | refine x_none rfl ?_  | ((with_reducible refine w_region ?_ ?_); kernel_rfl))
        refine x_add_s rfl rfl (by show 1 + s.size ≤ _; omega) ?_
        repeat (first | ((with_reducible refine k_move ?_); refine m_move rfl ?_) | ((with_reducible refine k_assign ?_); refine m_assign rfl ?_)  | refine e_nrm ?_ | refine x_none rfl ?_ | with_reducible refine q_then ?_ | with_reducible refine awp_seq ?_ | with_reducible refine awp_ret ?_ | ((with_reducible refine w_region ?_ ?_); kernel_rfl))
        refine ret_v (by first | exact .inr rfl | exact .inl rfl) rfl rfl ?_
        unfold txtP
        rw [hi, ← hf2]
        refine congrArg (fun s => AV.v (.string s)) (Eq.symm (ba_ext ?_))
        rw [ba_app]; rfl
      · rw [if_neg (by simpa using hd)] at hi
        repeat (first | ((with_reducible refine k_move ?_); refine m_move rfl ?_) | ((with_reducible refine k_assign ?_); refine m_assign rfl ?_)  | refine e_nrm ?_ | refine x_none rfl ?_ | with_reducible refine q_then ?_ | with_reducible refine awp_seq ?_ | with_reducible refine awp_skip ?_ | with_reducible refine awp_ret ?_ | ((with_reducible refine w_region ?_ ?_); kernel_rfl))
        refine ret_v (by first | exact .inr rfl | exact .inl rfl) rfl rfl ?_
        unfold txtP
        rw [hi, ← hf2]
end Go.Proofs.YtgpglcccjkpmdaaDoor
