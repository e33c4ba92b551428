/- lexeme.Lines, its reference, and the comparison of lists of strings, by the abstract machine; conditions: a cell of the library stands. -/
import Derived.Test.YtggagmafkdhjcaaGreatDoorLxA
set_option linter.unusedVariables false
set_option linter.unusedSimpArgs false
namespace Go.Proofs.YtggagmafkdhjcaaGreatDoor
open Go Go.RowKit
set_option maxRecDepth 10000
variable {G : Nat → Option (List Value)}
theorem okB_iff {c : UInt8} : okB c = true ↔ c = 10 ∨ (32 ≤ c.toNat ∧ c.toNat ≤ 126) := by
  unfold okB
  simp
theorem ne10 {c : UInt8} (h : c ≠ 10) : (c.toNat : Int) ≠ 10 := fun e => h (UInt8.toNat_inj.1 (by show c.toNat = 10; omega))
theorem last_at {l : List UInt8} {c : UInt8} (h : l[l.length - 1]? = some c) : l.getLast? = some c := by
  rw [List.getLast?_eq_getElem?]; exact h
theorem all_bad {l : List UInt8} {k : Nat} {c : UInt8} (hx : l[k]? = some c) (h : okB c = false) : l.all okB = false := by
  cases hq : l.all okB with
  | false => rfl
  | true =>
    rw [List.all_eq_true] at hq
    rw [hq c (List.mem_of_getElem? hx)] at h
    cases h
theorem all_take {l : List UInt8} {k : Nat} {c : UInt8} (hx : l[k]? = some c) (h : okB c = true) (ha : (l.take k).all okB = true) : (l.take (k + 1)).all okB = true := by
  rw [take_at hx, List.all_append, ha]
  simp [h]
theorem lines_none {l : List UInt8} (h0 : l ≠ []) (h : (65536 < l.length ∨ l.getLast? ≠ some 10) ∨ l.all okB = false) : linesL l = none := by
  unfold linesL
  rw [if_neg h0]
  rcases h with h | h
  · rw [if_pos h]
  · split
    · rfl
    · rw [if_neg (by rw [h]; decide)]
theorem lines_some {l : List UInt8} (h0 : l ≠ []) (h1 : l.length ≤ 65536) (h2 : l.getLast? = some 10) (h3 : l.all okB = true) : linesL l = some (ll [] l) := by
  unfold linesL
  rw [if_neg h0, if_neg (by rintro (h | h); omega; exact h h2), if_pos h3]
set_option maxHeartbeats 2000000 in
theorem lines_A (s : ByteArray) (hG : GMax G) (hs : s.size ≤ 4294967296) : ACalls Tryz.prog G 33 [.v (.string s)] [] (.tu [.sl 1 (((linesL s.data.toList).getD []).map svL), .v (.bool (linesL s.data.toList).isSome)]) [] := by
  have hz := nsizeS s
  by_cases h0 : s.size = 0
  · have hl : s.data.toList = [] := List.eq_nil_of_length_eq_zero (by omega)
    rw [hl]
    have p0 : strEq s ⟨#[]⟩ = true := by rw [strEq_nil, h0]; rfl
    refine acalls_of tbOk (enter_of Tryz.func33 (by kernel_rfl) rfl) Tryz.func33 rfl _ Tryz.ntmps33 (Nat.le_of_ble_eq_true rfl) fun X hX => ?_
    subst hX
    repeat (first | ((with_reducible refine k_move ?_); refine m_move rfl ?_) | ((with_reducible refine k_assign ?_); refine m_assign rfl ?_) | ((with_reducible refine k_bin ?_); refine m_binS rfl rfl rfl ?_)  | refine e_nrm ?_ | refine x_none rfl ?_ | with_reducible (first | refine q_then ?_ | refine q_then_ret ?_ | refine awp_seq ?_ | refine awp_ret ?_) | ((with_reducible refine w_region ?_ ?_); kernel_rfl) | refine w_cond_t rfl (by first | rfl | assumption) ?_)
    refine ret0_2 (by first | exact .inr rfl | exact .inl rfl) rfl rfl rfl ?_
    repeat' (first | exact trivial | exact Ren.v _ | exact Ren.sl _ _ | exact Ren.ep _ | exact Ren.ptr _ _ _ _ rfl | exact Ren.bs _ _ _ _ _ rfl | exact Ren.nil _ | exact Ren.own _ _ _ _ ⟨_, rfl⟩ | refine ren_ag ?_ | refine ren_tu ?_ | refine ren_fn ?_ | refine ⟨?_, ?_⟩)
  have p0 : strEq s ⟨#[]⟩ = false := by rw [strEq_nil]; exact decide_eq_false h0
  have hne : s.data.toList ≠ [] := fun e => h0 (by rw [hz, e]; rfl)
  obtain ⟨c0, hx0⟩ := some_at (L := s.data.toList) (k := s.size - 1) (by omega)
  have ix0 : ∀ w : World, (Instr.index 9 (.string s) (.int .i64 ((s.size : Int) - 1))).run Tryz.prog w = .ok (.int .u8 (c0.toNat : Int)) w := fun w => by
    have := nidxS s (s.size - 1) c0 hx0 w
    rwa [show ((s.size - 1 : Nat) : Int) = (s.size : Int) - 1 by omega] at this
  have hlast : s.data.toList.getLast? = some c0 := last_at (by rw [← hz]; exact hx0)
  refine acalls_of tbOk (enter_of Tryz.func33 (by kernel_rfl) rfl) Tryz.func33 rfl _ Tryz.ntmps33 (Nat.le_of_ble_eq_true rfl) fun X hX => ?_
  subst hX
  repeat (first | ((with_reducible refine k_move ?_); refine m_move rfl ?_) | ((with_reducible refine k_assign ?_); refine m_assign rfl ?_) | ((with_reducible refine k_call ?_); refine x_len_str (by exact Tryz.underlying9) rfl ?_) | ((with_reducible refine k_bin ?_); (first | refine x_sub_in rfl rfl (by omega) ?_ | refine m_binI rfl rfl rfl ?_ | refine m_binS rfl rfl rfl ?_))  | refine e_nrm ?_ | refine x_none rfl ?_ | with_reducible (first | refine q_then ?_ | refine awp_seq ?_ | refine awp_skip ?_) | ((with_reducible refine w_region ?_ ?_); kernel_rfl) | refine w_cond_f rfl (by first | rfl | assumption) ?_)
  by_cases hbig : 65536 < s.size
  · have p1 : decide ((s.size : Int) > 65536) = true := by simp; omega
    rw [lines_none hne (.inl (.inl (by omega)))]
    repeat (first | ((with_reducible refine k_assign ?_); refine m_assign rfl ?_) | ((with_reducible refine k_pick ?_); refine m_pickt rfl (by first | rfl | assumption) rfl ?_)  | refine e_nrm ?_ | refine x_none rfl ?_ | refine x_skip_f rfl rfl (by first | rfl | assumption) ?_ | with_reducible (first | refine q_then ?_ | refine q_then_ret ?_ | refine awp_seq ?_ | refine awp_ret ?_) | ((with_reducible refine w_region ?_ ?_); kernel_rfl) | refine w_cond_t rfl (by first | rfl | assumption) ?_)
    refine ret0_2 (by first | exact .inr rfl | exact .inl rfl) rfl rfl rfl ?_
    repeat' (first | exact trivial | exact Ren.v _ | exact Ren.sl _ _ | exact Ren.ep _ | exact Ren.ptr _ _ _ _ rfl | exact Ren.bs _ _ _ _ _ rfl | exact Ren.nil _ | exact Ren.own _ _ _ _ ⟨_, rfl⟩ | refine ren_ag ?_ | refine ren_tu ?_ | refine ren_fn ?_ | refine ⟨?_, ?_⟩)
  have p1 : decide ((s.size : Int) > 65536) = false := by simp; omega
  by_cases h10 : c0 = 10
  · subst h10
    have p2 : (((10 : UInt8).toNat : Int) != 10) = false := rfl
    repeat (first | ((with_reducible refine k_move ?_); refine m_move rfl ?_) | ((with_reducible refine k_pick ?_); refine m_pickf rfl (by first | rfl | assumption) rfl ?_) | ((with_reducible refine k_index ?_); refine x_index rfl rfl (by assumption) ?_) | ((with_reducible refine k_bin ?_); refine m_binI rfl rfl rfl ?_)  | refine e_nrm ?_ | refine x_none rfl ?_ | refine x_run_f rfl rfl (by first | rfl | assumption) ?_ | with_reducible (first | refine q_then ?_ | refine awp_seq ?_ | refine awp_block ?_ | refine awp_skip ?_) | ((with_reducible refine w_region ?_ ?_); kernel_rfl) | refine w_cond_f rfl (by first | rfl | assumption) ?_)
    refine awp_loop (ι := Nat) (fun k => k ≤ s.size - 1 ∧ (s.data.toList.take k).all okB = true) (fun k => s.size - 1 - k) (fun v k => [(0, .v (.string s)), (4, .v (.int .i64 ((s.size : Int) - 1))), (21, .v (.int .i64 ((s.size : Int) - 1))), (22, .v (.int .i64 k))]) (fun v k => []) ?_ ?_
    · exact ⟨0, ⟨Nat.zero_le _, by simp⟩, trivial, ⟨rfl, rfl, rfl, rfl, trivial⟩, trivial⟩
    rintro v k ⟨hk, hall⟩
    repeat (first | ((with_reducible refine k_bin ?_); refine m_binI rfl rfl rfl ?_)  | refine e_nrm ?_ | refine x_none rfl ?_ | with_reducible (first | refine q_then ?_ | refine awp_seq ?_) | ((with_reducible refine w_region ?_ ?_); kernel_rfl))
    refine w_cond rfl (fun h => ?_) (fun h => ?_)
    · have hlt : k < s.size - 1 := by simp at h; omega
      obtain ⟨c, hx⟩ := some_at (L := s.data.toList) (k := k) (by omega)
      have ix := nidxS s k c hx
      repeat (first | ((with_reducible refine k_move ?_); refine m_move rfl ?_) | ((with_reducible refine k_assign ?_); refine m_assign rfl ?_) | ((with_reducible refine k_index ?_); refine x_index rfl rfl (by assumption) ?_) | ((with_reducible refine k_bin ?_); refine m_binI rfl rfl rfl ?_)  | refine e_nrm ?_ | refine x_none rfl ?_ | with_reducible (first | refine q_then ?_ | refine awp_seq ?_ | refine awp_block ?_ | refine awp_skip ?_) | ((with_reducible refine w_region ?_ ?_); kernel_rfl))
      by_cases hc10 : c = 10
      · subst hc10
        have q1 : (((10 : UInt8).toNat : Int) != 10) = false := rfl
        repeat (first | ((with_reducible refine k_move ?_); refine m_move rfl ?_) | ((with_reducible refine k_pick ?_); refine m_pickf rfl (by first | rfl | assumption) rfl ?_) | ((with_reducible refine k_bin ?_); refine x_add_in rfl rfl (by omega) ?_)  | refine e_nrm ?_ | refine x_none rfl ?_ | refine x_skip_t rfl rfl (by first | rfl | assumption) ?_ | refine x_skip' rfl rfl rfl ?_ | with_reducible (first | refine q_then ?_ | refine q_block ?_ | refine awp_skip ?_) | ((with_reducible refine w_region ?_ ?_); kernel_rfl) | refine w_cond_f rfl (by first | rfl | assumption) ?_)
        exact ⟨k + 1, ⟨by omega, all_take hx (by decide) hall⟩, by omega, ⟨rfl, rfl, rfl, rfl, trivial⟩, trivial⟩
      · have q1 : ((c.toNat : Int) != 10) = true := by rw [bne_iff_ne]; exact ne10 hc10
        by_cases hlo : c.toNat < 32
        · have q2 : decide ((c.toNat : Int) < 32) = true := by simp; omega
          have hb : okB c = false := by
            cases hq : okB c with
            | false => rfl
            | true => rcases okB_iff.1 hq with h | h; exact absurd h hc10; omega
          rw [lines_none hne (.inr (all_bad hx hb))]
          repeat (first | ((with_reducible refine k_move ?_); refine m_move rfl ?_) | ((with_reducible refine k_assign ?_); refine m_assign rfl ?_) | ((with_reducible refine k_pick ?_); refine m_pickt rfl (by first | rfl | assumption) rfl ?_) | ((with_reducible refine k_bin ?_); refine m_binI rfl rfl rfl ?_)  | refine e_nrm ?_ | refine x_none rfl ?_ | refine x_run_t rfl rfl (by first | rfl | assumption) ?_ | refine x_skip_f rfl rfl (by first | rfl | assumption) ?_ | with_reducible (first | refine q_then ?_ | refine q_then_ret ?_ | refine q_block_ret ?_ | refine awp_seq ?_ | refine awp_ret ?_) | ((with_reducible refine w_region ?_ ?_); kernel_rfl) | refine w_cond_t rfl (by first | rfl | assumption) ?_)
          refine ret0_2 (by first | exact .inr rfl | exact .inl rfl) rfl rfl rfl ?_
          repeat' (first | exact trivial | exact Ren.v _ | exact Ren.sl _ _ | exact Ren.ep _ | exact Ren.ptr _ _ _ _ rfl | exact Ren.bs _ _ _ _ _ rfl | exact Ren.nil _ | exact Ren.own _ _ _ _ ⟨_, rfl⟩ | refine ren_ag ?_ | refine ren_tu ?_ | refine ren_fn ?_ | refine ⟨?_, ?_⟩)
        · have q2 : decide ((c.toNat : Int) < 32) = false := by simp; omega
          by_cases hhi : 126 < c.toNat
          · have q3 : decide ((c.toNat : Int) > 126) = true := by simp; omega
            have hb : okB c = false := by
              cases hq : okB c with
              | false => rfl
              | true => rcases okB_iff.1 hq with h | h; exact absurd h hc10; omega
            rw [lines_none hne (.inr (all_bad hx hb))]
            repeat (first | ((with_reducible refine k_move ?_); refine m_move rfl ?_) | ((with_reducible refine k_assign ?_); refine m_assign rfl ?_) | ((with_reducible refine k_pick ?_); (first | refine m_pickt rfl (by first | rfl | assumption) rfl ?_ | refine m_pickf rfl (by first | rfl | assumption) rfl ?_)) | ((with_reducible refine k_bin ?_); refine m_binI rfl rfl rfl ?_)  | refine e_nrm ?_ | refine x_none rfl ?_ | refine x_run_t rfl rfl (by first | rfl | assumption) ?_ | refine x_run_f rfl rfl (by first | rfl | assumption) ?_ | with_reducible (first | refine q_then ?_ | refine q_then_ret ?_ | refine q_block_ret ?_ | refine awp_seq ?_ | refine awp_ret ?_) | ((with_reducible refine w_region ?_ ?_); kernel_rfl) | refine w_cond_t rfl (by first | rfl | assumption) ?_)
            refine ret0_2 (by first | exact .inr rfl | exact .inl rfl) rfl rfl rfl ?_
            repeat' (first | exact trivial | exact Ren.v _ | exact Ren.sl _ _ | exact Ren.ep _ | exact Ren.ptr _ _ _ _ rfl | exact Ren.bs _ _ _ _ _ rfl | exact Ren.nil _ | exact Ren.own _ _ _ _ ⟨_, rfl⟩ | refine ren_ag ?_ | refine ren_tu ?_ | refine ren_fn ?_ | refine ⟨?_, ?_⟩)
          · have q3 : decide ((c.toNat : Int) > 126) = false := by simp; omega
            repeat (first | ((with_reducible refine k_move ?_); refine m_move rfl ?_) | ((with_reducible refine k_pick ?_); (first | refine m_pickt rfl (by first | rfl | assumption) rfl ?_ | refine m_pickf rfl (by first | rfl | assumption) rfl ?_)) | ((with_reducible refine k_bin ?_); (first | refine x_add_in rfl rfl (by omega) ?_ | refine m_binI rfl rfl rfl ?_))  | refine e_nrm ?_ | refine x_none rfl ?_ | refine x_run_t rfl rfl (by first | rfl | assumption) ?_ | refine x_run_f rfl rfl (by first | rfl | assumption) ?_ | with_reducible (first | refine q_then ?_ | refine q_block ?_ | refine awp_skip ?_) | ((with_reducible refine w_region ?_ ?_); kernel_rfl) | refine w_cond_f rfl (by first | rfl | assumption) ?_)
            exact ⟨k + 1, ⟨by omega, all_take hx (okB_iff.2 (.inr (by omega))) hall⟩, by omega, ⟨rfl, rfl, rfl, rfl, trivial⟩, trivial⟩
    · obtain rfl : k = s.size - 1 := by simp at h; omega
      have hdec : s.data.toList = s.data.toList.take (s.size - 1) ++ [10] := by
        have := take_at hx0
        rw [← this, List.take_of_length_le (by omega)]
      have hall2 : s.data.toList.all okB = true := by rw [hdec, List.all_append, hall]; rfl
      have hsz : (s.extract (0 : Int).toNat ((s.size : Int) - 1).toNat).size ≤ s.size := by rw [ByteArray.size_extract]; omega
      have hex : (s.extract (0 : Int).toNat ((s.size : Int) - 1).toNat).data.toList = s.data.toList.take (s.size - 1) := by
        rw [ext_strL, strL_data, extL]
        simp only [Int.toNat_zero, List.drop_zero]
        congr 1
        omega
      have hS := split_A (G := X.G) (s.extract (0 : Int).toNat ((s.size : Int) - 1).toNat) 10 hG (by omega)
      rw [hex, ← ll_split, ← hdec] at hS
      rw [lines_some hne (by omega) hlast hall2]
      repeat (first | ((with_reducible refine k_move ?_); refine m_move rfl ?_) | ((with_reducible refine k_slice ?_); refine x_sliceS (by exact Tryz.underlying9) rfl rfl rfl (by refine ⟨?_, ?_, ?_⟩ <;> omega) ?_)  | refine x_none rfl ?_ | with_reducible (first | refine q_then ?_ | refine q_then_exit ?_ | refine awp_seq ?_ | refine awp_exit ?_) | ((with_reducible refine q_block_exit ?_ ?_); rfl) | ((with_reducible refine w_region ?_ ?_); kernel_rfl))
      refine zC (hS) ?_
      repeat (first | ((with_reducible refine k_assign ?_); refine m_assign rfl ?_)  | refine e_nrm ?_ | refine x_none rfl ?_ | with_reducible (first | refine q_then ?_ | refine awp_ret ?_) )
      refine ret0_2 (by first | exact .inr rfl | exact .inl rfl) rfl rfl rfl ?_
      repeat' (first | exact trivial | exact Ren.v _ | exact Ren.sl _ _ | exact Ren.ep _ | exact Ren.ptr _ _ _ _ rfl | exact Ren.bs _ _ _ _ _ rfl | exact Ren.nil _ | exact Ren.own _ _ _ _ ⟨_, rfl⟩ | refine ren_ag ?_ | refine ren_tu ?_ | refine ren_fn ?_ | refine ⟨?_, ?_⟩)
  · have p2 : ((c0.toNat : Int) != 10) = true := by rw [bne_iff_ne]; exact ne10 h10
    rw [lines_none hne (.inl (.inr (by rw [hlast]; intro e; injection e with e; exact h10 e)))]
    repeat (first | ((with_reducible refine k_move ?_); refine m_move rfl ?_) | ((with_reducible refine k_assign ?_); refine m_assign rfl ?_) | ((with_reducible refine k_pick ?_); refine m_pickf rfl (by first | rfl | assumption) rfl ?_) | ((with_reducible refine k_index ?_); refine x_index rfl rfl (by assumption) ?_) | ((with_reducible refine k_bin ?_); refine m_binI rfl rfl rfl ?_)  | refine e_nrm ?_ | refine x_none rfl ?_ | refine x_run_f rfl rfl (by first | rfl | assumption) ?_ | with_reducible (first | refine q_then ?_ | refine q_then_ret ?_ | refine awp_seq ?_ | refine awp_ret ?_) | ((with_reducible refine w_region ?_ ?_); kernel_rfl) | refine w_cond_t rfl (by first | rfl | assumption) ?_)
    refine ret0_2 (by first | exact .inr rfl | exact .inl rfl) rfl rfl rfl ?_
    repeat' (first | exact trivial | exact Ren.v _ | exact Ren.sl _ _ | exact Ren.ep _ | exact Ren.ptr _ _ _ _ rfl | exact Ren.bs _ _ _ _ _ rfl | exact Ren.nil _ | exact Ren.own _ _ _ _ ⟨_, rfl⟩ | refine ren_ag ?_ | refine ren_tu ?_ | refine ren_fn ?_ | refine ⟨?_, ?_⟩)
set_option maxHeartbeats 2000000 in
theorem rlines_A (s : ByteArray) (hs : s.size ≤ 4294967296) : ACalls Tryz.prog G 48 [.v (.string s)] [] (.tu [.sl 1 (((linesL s.data.toList).getD []).map svL), .v (.bool (linesL s.data.toList).isSome)]) [] := by
  have hz := nsizeS s
  by_cases hbig : 65536 < s.size
  · have hne : s.data.toList ≠ [] := fun e => by rw [hz, e] at hbig; simp at hbig
    have p1 : decide ((s.size : Int) > 65536) = true := by simp; omega
    refine acalls_of tbOk (enter_of Tryz.func48 (by kernel_rfl) rfl) Tryz.func48 rfl _ Tryz.ntmps48 (Nat.le_of_ble_eq_true rfl) fun X hX => ?_
    subst hX
    rw [lines_none hne (.inl (.inl (by omega)))]
    repeat (first | ((with_reducible refine k_move ?_); refine m_move rfl ?_) | ((with_reducible refine k_assign ?_); refine m_assign rfl ?_) | ((with_reducible refine k_pick ?_); refine m_pickt rfl (by first | rfl | assumption) rfl ?_) | ((with_reducible refine k_call ?_); refine x_len_str (by exact Tryz.underlying9) rfl ?_) | ((with_reducible refine k_bin ?_); refine m_binI rfl rfl rfl ?_)  | refine e_nrm ?_ | refine x_none rfl ?_ | refine x_skip_f rfl rfl (by first | rfl | assumption) ?_ | refine x_skip' rfl rfl rfl ?_ | with_reducible (first | refine q_then ?_ | refine q_then_ret ?_ | refine awp_seq ?_ | refine awp_ret ?_) | ((with_reducible refine w_region ?_ ?_); kernel_rfl) | refine w_cond_t rfl (by first | rfl | assumption) ?_)
    refine ret0_2 (by first | exact .inr rfl | exact .inl rfl) rfl rfl rfl ?_
    repeat' (first | exact trivial | exact Ren.v _ | exact Ren.sl _ _ | exact Ren.ep _ | exact Ren.ptr _ _ _ _ rfl | exact Ren.bs _ _ _ _ _ rfl | exact Ren.nil _ | exact Ren.own _ _ _ _ ⟨_, rfl⟩ | refine ren_ag ?_ | refine ren_tu ?_ | refine ren_fn ?_ | refine ⟨?_, ?_⟩)
  have p1 : decide ((s.size : Int) > 65536) = false := by simp; omega
  have hfin : ∀ (h : s.data.toList = [] ∨ s.data.toList.getLast? = some 10) (h2 : s.data.toList.all okB = true), linesL s.data.toList = some (ll [] s.data.toList) := fun h h2 => by
    by_cases hn : s.data.toList = []
    · rw [hn]; rfl
    · exact lines_some hn (by omega) (by rcases h with h | h; exact absurd h hn; exact h) h2
  refine acalls_of tbOk (enter_of Tryz.func48 (by kernel_rfl) rfl) Tryz.func48 rfl _ Tryz.ntmps48 (Nat.le_of_ble_eq_true rfl) fun X hX => ?_
  subst hX
  repeat (first | ((with_reducible refine k_move ?_); refine m_move rfl ?_) | ((with_reducible refine k_assign ?_); refine m_assign rfl ?_) | ((with_reducible refine k_call ?_); refine x_len_str (by exact Tryz.underlying9) rfl ?_) | ((with_reducible refine k_bin ?_); refine m_binI rfl rfl rfl ?_)  | refine e_nrm ?_ | refine x_none rfl ?_ | refine x_run_f rfl rfl (by first | rfl | assumption) ?_ | with_reducible (first | refine q_then ?_ | refine awp_seq ?_) | ((with_reducible refine w_region ?_ ?_); kernel_rfl))
  by_cases h0 : s.size = 0
  · have p2 : decide ((s.size : Int) > 0) = false := by rw [h0]; rfl
    have hok : s.data.toList = [] ∨ s.data.toList.getLast? = some 10 := .inl (List.eq_nil_of_length_eq_zero (by omega))
    repeat (first | ((with_reducible refine k_assign ?_); refine m_assign rfl ?_) | ((with_reducible refine k_pick ?_); refine m_pickf rfl (by first | rfl | assumption) rfl ?_)  | refine e_nrm ?_ | refine x_none rfl ?_ | refine x_skip_t rfl rfl (by first | rfl | assumption) ?_ | refine x_run_f rfl rfl (by first | rfl | assumption) ?_ | with_reducible (first | refine q_then ?_ | refine awp_seq ?_ | refine awp_block ?_ | refine awp_skip ?_) | ((with_reducible refine w_region ?_ ?_); kernel_rfl) | refine w_cond_f rfl (by first | rfl | assumption) ?_)
    refine awp_own (t := 4) (s := 39) 9 1 rfl rfl ?_
    refine awp_loop (ι := Nat × Nat × List (List UInt8)) (fun q => q.1 ≤ q.2.1 ∧ q.2.1 ≤ s.size ∧ q.2.2.length ≤ q.2.1 ∧ (s.data.toList.take q.2.1).all okB = true ∧ q.2.2 ++ ll (extL s (q.1, q.2.1)) (s.data.toList.drop q.2.1) = ll [] s.data.toList) (fun q => s.size - q.2.1) (fun v q => [(0, .v (.string s)), (4, .own 39 (v 39)), (5, .v (.int .i64 (q.1 : Nat))), (6, .v (.int .i64 (q.2.1 : Nat)))]) (fun v q => [(39, .buf 9 1 (q.2.2.map svL))]) ?_ ?_
    · refine ⟨(0, 0, []), ⟨Nat.le_refl _, Nat.zero_le _, Nat.zero_le _, by simp, ?_⟩, trivial, ⟨rfl, rfl, rfl, rfl, trivial⟩, ⟨rfl, trivial⟩⟩
      show [] ++ ll (extL s (0, 0)) _ = _
      rw [extL_self]; rfl
    rintro v ⟨a, k, D⟩ ⟨ha, hk, hD, hall, hw⟩
    simp only at ha hk hD hall hw
    dsimp only
    repeat (first | ((with_reducible refine k_move ?_); refine m_move rfl ?_) | ((with_reducible refine k_call ?_); refine x_len_str (by exact Tryz.underlying9) rfl ?_) | ((with_reducible refine k_bin ?_); refine m_binI rfl rfl rfl ?_)  | refine e_nrm ?_ | refine x_none rfl ?_ | with_reducible (first | refine q_then ?_ | refine awp_seq ?_) | ((with_reducible refine w_region ?_ ?_); kernel_rfl))
    refine w_cond rfl (fun h => ?_) (fun h => ?_)
    · have hlt : k < s.size := by simp at h; omega
      have hne : s.data.toList ≠ [] := fun e => by rw [hz, e] at hlt; simp at hlt
      obtain ⟨c, hx⟩ := some_at (L := s.data.toList) (k := k) (by omega)
      have ix := nidxS s k c hx
      rw [drop_at hx, ll] at hw
      repeat (first | ((with_reducible refine k_move ?_); refine m_move rfl ?_) | ((with_reducible refine k_index ?_); refine x_index rfl rfl (by assumption) ?_) | ((with_reducible refine k_bin ?_); refine m_binI rfl rfl rfl ?_)  | refine e_nrm ?_ | refine x_none rfl ?_ | with_reducible (first | refine q_then ?_ | refine awp_seq ?_ | refine awp_block ?_ | refine awp_skip ?_) | ((with_reducible refine w_region ?_ ?_); kernel_rfl))
      by_cases hc10 : c = 10
      · subst hc10
        have q1 : (((10 : UInt8).toNat : Int) == 10) = true := rfl
        rw [if_pos rfl] at hw
        repeat (first | ((with_reducible refine k_move ?_); refine m_move rfl ?_) | ((with_reducible refine k_slice ?_); refine x_sliceS (by exact Tryz.underlying9) rfl rfl rfl (by refine ⟨?_, ?_, ?_⟩ <;> omega) ?_) | ((with_reducible refine k_buildSlice ?_); refine m_buildSlice tbOk rfl rfl rfl rfl rfl (by omega) rfl rfl rfl ?_) | refine x_none rfl ?_ | with_reducible refine awp_seq ?_ | ((with_reducible refine w_region ?_ ?_); kernel_rfl) | refine w_cond_t rfl (by first | rfl | assumption) ?_)
        rw [ext_strL]
        refine x_append_own tbOk rfl rfl rfl rfl rfl (by decide) rfl rfl rfl rfl rfl (fun x hx => by simp at hx; subst hx; rfl) (by simp only [List.length_map, List.length_cons, List.length_nil]; omega) (by simp only [List.length_map, List.length_cons, List.length_nil]; omega) ?_
        repeat (first | ((with_reducible refine k_move ?_); refine m_move rfl ?_) | ((with_reducible refine k_assign ?_); refine m_assign rfl ?_) | ((with_reducible refine k_bin ?_); refine x_add_in rfl rfl (by omega) ?_)  | refine e_nrm ?_ | refine x_none rfl ?_ | with_reducible (first | refine q_then ?_ | refine q_block ?_) | ((with_reducible refine w_region ?_ ?_); kernel_rfl))
        refine ⟨(k + 1, k + 1, D ++ [extL s (a, k)]), ⟨Nat.le_refl _, by show k + 1 ≤ s.size; omega, by simp; omega, all_take hx (by decide) hall, ?_⟩, by show s.size - (k + 1) < s.size - k; omega, ⟨rfl, rfl, rfl, rfl, trivial⟩, ⟨?_, trivial⟩⟩
        · show D ++ [extL s (a, k)] ++ ll (extL s (k + 1, k + 1)) _ = _
          rw [extL_self, ← hw]; simp
        · exact hc_buf (by rw [List.map_append]; rfl)
      · have q1 : ((c.toNat : Int) == 10) = false := by rw [beq_eq_false_iff_ne]; exact ne10 hc10
        rw [if_neg hc10] at hw
        by_cases hlo : c.toNat < 32
        · have q2 : decide ((c.toNat : Int) < 32) = true := by simp; omega
          have hb : okB c = false := by
            cases hq : okB c with
            | false => rfl
            | true => rcases okB_iff.1 hq with h | h; exact absurd h hc10; omega
          rw [lines_none hne (.inr (all_bad hx hb))]
          repeat (first | ((with_reducible refine k_move ?_); refine m_move rfl ?_) | ((with_reducible refine k_assign ?_); refine m_assign rfl ?_) | ((with_reducible refine k_pick ?_); refine m_pickt rfl (by first | rfl | assumption) rfl ?_) | ((with_reducible refine k_index ?_); refine x_index rfl rfl (by assumption) ?_) | ((with_reducible refine k_bin ?_); refine m_binI rfl rfl rfl ?_)  | refine e_nrm ?_ | refine x_none rfl ?_ | refine x_skip_f rfl rfl (by first | rfl | assumption) ?_ | with_reducible (first | refine q_then ?_ | refine q_then_ret ?_ | refine q_block_ret ?_ | refine awp_seq ?_ | refine awp_ret ?_) | ((with_reducible refine w_region ?_ ?_); kernel_rfl) | refine w_cond_t rfl (by first | rfl | assumption) ?_ | refine w_cond_f rfl (by first | rfl | assumption) ?_)
          refine ret0_2 (by first | exact .inr rfl | exact .inl rfl) rfl rfl rfl ?_
          repeat' (first | exact trivial | exact Ren.v _ | exact Ren.sl _ _ | exact Ren.ep _ | exact Ren.ptr _ _ _ _ rfl | exact Ren.bs _ _ _ _ _ rfl | exact Ren.nil _ | exact Ren.own _ _ _ _ ⟨_, rfl⟩ | refine ren_ag ?_ | refine ren_tu ?_ | refine ren_fn ?_ | refine ⟨?_, ?_⟩)
        · have q2 : decide ((c.toNat : Int) < 32) = false := by simp; omega
          by_cases hhi : 126 < c.toNat
          · have q3 : decide ((c.toNat : Int) > 126) = true := by simp; omega
            have hb : okB c = false := by
              cases hq : okB c with
              | false => rfl
              | true => rcases okB_iff.1 hq with h | h; exact absurd h hc10; omega
            rw [lines_none hne (.inr (all_bad hx hb))]
            repeat (first | ((with_reducible refine k_move ?_); refine m_move rfl ?_) | ((with_reducible refine k_assign ?_); refine m_assign rfl ?_) | ((with_reducible refine k_pick ?_); refine m_pickf rfl (by first | rfl | assumption) rfl ?_) | ((with_reducible refine k_index ?_); refine x_index rfl rfl (by assumption) ?_) | ((with_reducible refine k_bin ?_); refine m_binI rfl rfl rfl ?_)  | refine e_nrm ?_ | refine x_none rfl ?_ | refine x_run_f rfl rfl (by first | rfl | assumption) ?_ | with_reducible (first | refine q_then ?_ | refine q_then_ret ?_ | refine q_block_ret ?_ | refine awp_seq ?_ | refine awp_ret ?_) | ((with_reducible refine w_region ?_ ?_); kernel_rfl) | refine w_cond_t rfl (by first | rfl | assumption) ?_ | refine w_cond_f rfl (by first | rfl | assumption) ?_)
            refine ret0_2 (by first | exact .inr rfl | exact .inl rfl) rfl rfl rfl ?_
            repeat' (first | exact trivial | exact Ren.v _ | exact Ren.sl _ _ | exact Ren.ep _ | exact Ren.ptr _ _ _ _ rfl | exact Ren.bs _ _ _ _ _ rfl | exact Ren.nil _ | exact Ren.own _ _ _ _ ⟨_, rfl⟩ | refine ren_ag ?_ | refine ren_tu ?_ | refine ren_fn ?_ | refine ⟨?_, ?_⟩)
          · have q3 : decide ((c.toNat : Int) > 126) = false := by simp; omega
            repeat (first | ((with_reducible refine k_move ?_); refine m_move rfl ?_) | ((with_reducible refine k_assign ?_); refine m_assign rfl ?_) | ((with_reducible refine k_pick ?_); refine m_pickf rfl (by first | rfl | assumption) rfl ?_) | ((with_reducible refine k_index ?_); refine x_index rfl rfl (by assumption) ?_) | ((with_reducible refine k_bin ?_); (first | refine x_add_in rfl rfl (by omega) ?_ | refine m_binI rfl rfl rfl ?_))  | refine e_nrm ?_ | refine x_none rfl ?_ | refine x_run_f rfl rfl (by first | rfl | assumption) ?_ | with_reducible (first | refine q_then ?_ | refine q_block ?_ | refine awp_seq ?_ | refine awp_skip ?_) | ((with_reducible refine w_region ?_ ?_); kernel_rfl) | refine w_cond_f rfl (by first | rfl | assumption) ?_)
            refine ⟨(a, k + 1, D), ⟨by show a ≤ k + 1; omega, by show k + 1 ≤ s.size; omega, by show D.length ≤ k + 1; omega, all_take hx (okB_iff.2 (.inr (by omega))) hall, ?_⟩, by show s.size - (k + 1) < s.size - k; omega, ⟨rfl, rfl, rfl, rfl, trivial⟩, ⟨rfl, trivial⟩⟩
            show D ++ ll (extL s (a, k + 1)) _ = _
            rw [extL_next hx ha, ← hw]
    · obtain rfl : k = s.size := by simp at h; omega
      rw [List.drop_of_length_le (by omega), ll, List.append_nil] at hw
      rw [List.take_of_length_le (by omega)] at hall
      rw [hfin hok hall, ← hw]
      repeat (first | ((with_reducible refine k_move ?_); refine m_move rfl ?_) | ((with_reducible refine k_assign ?_); refine m_assign rfl ?_)  | refine e_nrm ?_ | refine x_none rfl ?_ | with_reducible (first | refine q_then ?_ | refine q_then_exit ?_ | refine awp_seq ?_ | refine awp_exit ?_ | refine awp_ret ?_) | ((with_reducible refine q_block_exit ?_ ?_); rfl) | ((with_reducible refine w_region ?_ ?_); kernel_rfl))
      refine ret0_2 (by first | exact .inr rfl | exact .inl rfl) rfl rfl rfl ?_
      repeat' (first | exact trivial | exact Ren.v _ | exact Ren.sl _ _ | exact Ren.ep _ | exact Ren.ptr _ _ _ _ rfl | exact Ren.bs _ _ _ _ _ rfl | exact Ren.nil _ | exact Ren.own _ _ _ _ ⟨_, rfl⟩ | refine ren_ag ?_ | refine ren_tu ?_ | refine ren_fn ?_ | refine ⟨?_, ?_⟩)
  have p2 : decide ((s.size : Int) > 0) = true := by simp; omega
  have hne : s.data.toList ≠ [] := fun e => h0 (by rw [hz, e]; rfl)
  obtain ⟨c0, hx0⟩ := some_at (L := s.data.toList) (k := s.size - 1) (by omega)
  have ix0 : ∀ w : World, (Instr.index 9 (.string s) (.int .i64 ((s.size : Int) - 1))).run Tryz.prog w = .ok (.int .u8 (c0.toNat : Int)) w := fun w => by
    have := nidxS s (s.size - 1) c0 hx0 w
    rwa [show ((s.size - 1 : Nat) : Int) = (s.size : Int) - 1 by omega] at this
  have hlast : s.data.toList.getLast? = some c0 := last_at (by rw [← hz]; exact hx0)
  repeat (first | ((with_reducible refine k_move ?_); refine m_move rfl ?_) | ((with_reducible refine k_pick ?_); (first | refine m_pickt rfl (by first | rfl | assumption) rfl ?_ | refine m_pickf rfl (by first | rfl | assumption) rfl ?_)) | ((with_reducible refine k_index ?_); refine x_index rfl rfl (by assumption) ?_) | ((with_reducible refine k_call ?_); refine x_len_str (by exact Tryz.underlying9) rfl ?_) | ((with_reducible refine k_bin ?_); (first | refine x_sub_in rfl rfl (by omega) ?_ | refine m_binI rfl rfl rfl ?_))  | refine e_nrm ?_ | refine x_none rfl ?_ | refine x_run_t rfl rfl (by first | rfl | assumption) ?_ | refine x_run_f rfl rfl (by first | rfl | assumption) ?_ | with_reducible refine q_then ?_ )
  by_cases h10 : c0 = 10
  · have p3 : ((c0.toNat : Int) != 10) = false := by rw [h10]; rfl
    have hok : s.data.toList = [] ∨ s.data.toList.getLast? = some 10 := .inr (by rw [hlast, h10])
    repeat (first | ((with_reducible refine k_assign ?_); refine m_assign rfl ?_)  | refine e_nrm ?_ | refine x_none rfl ?_ | with_reducible (first | refine q_then ?_ | refine awp_seq ?_ | refine awp_block ?_ | refine awp_skip ?_) | ((with_reducible refine w_region ?_ ?_); kernel_rfl) | refine w_cond_f rfl (by first | rfl | assumption) ?_)
    refine awp_own (t := 4) (s := 39) 9 1 rfl rfl ?_
    refine awp_loop (ι := Nat × Nat × List (List UInt8)) (fun q => q.1 ≤ q.2.1 ∧ q.2.1 ≤ s.size ∧ q.2.2.length ≤ q.2.1 ∧ (s.data.toList.take q.2.1).all okB = true ∧ q.2.2 ++ ll (extL s (q.1, q.2.1)) (s.data.toList.drop q.2.1) = ll [] s.data.toList) (fun q => s.size - q.2.1) (fun v q => [(0, .v (.string s)), (4, .own 39 (v 39)), (5, .v (.int .i64 (q.1 : Nat))), (6, .v (.int .i64 (q.2.1 : Nat)))]) (fun v q => [(39, .buf 9 1 (q.2.2.map svL))]) ?_ ?_
    · refine ⟨(0, 0, []), ⟨Nat.le_refl _, Nat.zero_le _, Nat.zero_le _, by simp, ?_⟩, trivial, ⟨rfl, rfl, rfl, rfl, trivial⟩, ⟨rfl, trivial⟩⟩
      show [] ++ ll (extL s (0, 0)) _ = _
      rw [extL_self]; rfl
    rintro v ⟨a, k, D⟩ ⟨ha, hk, hD, hall, hw⟩
    simp only at ha hk hD hall hw
    dsimp only
    repeat (first | ((with_reducible refine k_move ?_); refine m_move rfl ?_) | ((with_reducible refine k_call ?_); refine x_len_str (by exact Tryz.underlying9) rfl ?_) | ((with_reducible refine k_bin ?_); refine m_binI rfl rfl rfl ?_)  | refine e_nrm ?_ | refine x_none rfl ?_ | with_reducible (first | refine q_then ?_ | refine awp_seq ?_) | ((with_reducible refine w_region ?_ ?_); kernel_rfl))
    refine w_cond rfl (fun h => ?_) (fun h => ?_)
    · have hlt : k < s.size := by simp at h; omega
      have hne : s.data.toList ≠ [] := fun e => by rw [hz, e] at hlt; simp at hlt
      obtain ⟨c, hx⟩ := some_at (L := s.data.toList) (k := k) (by omega)
      have ix := nidxS s k c hx
      rw [drop_at hx, ll] at hw
      repeat (first | ((with_reducible refine k_move ?_); refine m_move rfl ?_) | ((with_reducible refine k_index ?_); refine x_index rfl rfl (by assumption) ?_) | ((with_reducible refine k_bin ?_); refine m_binI rfl rfl rfl ?_)  | refine e_nrm ?_ | refine x_none rfl ?_ | with_reducible (first | refine q_then ?_ | refine awp_seq ?_ | refine awp_block ?_ | refine awp_skip ?_) | ((with_reducible refine w_region ?_ ?_); kernel_rfl))
      by_cases hc10 : c = 10
      · subst hc10
        have q1 : (((10 : UInt8).toNat : Int) == 10) = true := rfl
        rw [if_pos rfl] at hw
        repeat (first | ((with_reducible refine k_move ?_); refine m_move rfl ?_) | ((with_reducible refine k_slice ?_); refine x_sliceS (by exact Tryz.underlying9) rfl rfl rfl (by refine ⟨?_, ?_, ?_⟩ <;> omega) ?_) | ((with_reducible refine k_buildSlice ?_); refine m_buildSlice tbOk rfl rfl rfl rfl rfl (by omega) rfl rfl rfl ?_) | refine x_none rfl ?_ | with_reducible refine awp_seq ?_ | ((with_reducible refine w_region ?_ ?_); kernel_rfl) | refine w_cond_t rfl (by first | rfl | assumption) ?_)
        rw [ext_strL]
        refine x_append_own tbOk rfl rfl rfl rfl rfl (by decide) rfl rfl rfl rfl rfl (fun x hx => by simp at hx; subst hx; rfl) (by simp only [List.length_map, List.length_cons, List.length_nil]; omega) (by simp only [List.length_map, List.length_cons, List.length_nil]; omega) ?_
        repeat (first | ((with_reducible refine k_move ?_); refine m_move rfl ?_) | ((with_reducible refine k_assign ?_); refine m_assign rfl ?_) | ((with_reducible refine k_bin ?_); refine x_add_in rfl rfl (by omega) ?_)  | refine e_nrm ?_ | refine x_none rfl ?_ | with_reducible (first | refine q_then ?_ | refine q_block ?_) | ((with_reducible refine w_region ?_ ?_); kernel_rfl))
        refine ⟨(k + 1, k + 1, D ++ [extL s (a, k)]), ⟨Nat.le_refl _, by show k + 1 ≤ s.size; omega, by simp; omega, all_take hx (by decide) hall, ?_⟩, by show s.size - (k + 1) < s.size - k; omega, ⟨rfl, rfl, rfl, rfl, trivial⟩, ⟨?_, trivial⟩⟩
        · show D ++ [extL s (a, k)] ++ ll (extL s (k + 1, k + 1)) _ = _
          rw [extL_self, ← hw]; simp
        · exact hc_buf (by rw [List.map_append]; rfl)
      · have q1 : ((c.toNat : Int) == 10) = false := by rw [beq_eq_false_iff_ne]; exact ne10 hc10
        rw [if_neg hc10] at hw
        by_cases hlo : c.toNat < 32
        · have q2 : decide ((c.toNat : Int) < 32) = true := by simp; omega
          have hb : okB c = false := by
            cases hq : okB c with
            | false => rfl
            | true => rcases okB_iff.1 hq with h | h; exact absurd h hc10; omega
          rw [lines_none hne (.inr (all_bad hx hb))]
          repeat (first | ((with_reducible refine k_move ?_); refine m_move rfl ?_) | ((with_reducible refine k_assign ?_); refine m_assign rfl ?_) | ((with_reducible refine k_pick ?_); refine m_pickt rfl (by first | rfl | assumption) rfl ?_) | ((with_reducible refine k_index ?_); refine x_index rfl rfl (by assumption) ?_) | ((with_reducible refine k_bin ?_); refine m_binI rfl rfl rfl ?_)  | refine e_nrm ?_ | refine x_none rfl ?_ | refine x_skip_f rfl rfl (by first | rfl | assumption) ?_ | with_reducible (first | refine q_then ?_ | refine q_then_ret ?_ | refine q_block_ret ?_ | refine awp_seq ?_ | refine awp_ret ?_) | ((with_reducible refine w_region ?_ ?_); kernel_rfl) | refine w_cond_t rfl (by first | rfl | assumption) ?_ | refine w_cond_f rfl (by first | rfl | assumption) ?_)
          refine ret0_2 (by first | exact .inr rfl | exact .inl rfl) rfl rfl rfl ?_
          repeat' (first | exact trivial | exact Ren.v _ | exact Ren.sl _ _ | exact Ren.ep _ | exact Ren.ptr _ _ _ _ rfl | exact Ren.bs _ _ _ _ _ rfl | exact Ren.nil _ | exact Ren.own _ _ _ _ ⟨_, rfl⟩ | refine ren_ag ?_ | refine ren_tu ?_ | refine ren_fn ?_ | refine ⟨?_, ?_⟩)
        · have q2 : decide ((c.toNat : Int) < 32) = false := by simp; omega
          by_cases hhi : 126 < c.toNat
          · have q3 : decide ((c.toNat : Int) > 126) = true := by simp; omega
            have hb : okB c = false := by
              cases hq : okB c with
              | false => rfl
              | true => rcases okB_iff.1 hq with h | h; exact absurd h hc10; omega
            rw [lines_none hne (.inr (all_bad hx hb))]
            repeat (first | ((with_reducible refine k_move ?_); refine m_move rfl ?_) | ((with_reducible refine k_assign ?_); refine m_assign rfl ?_) | ((with_reducible refine k_pick ?_); refine m_pickf rfl (by first | rfl | assumption) rfl ?_) | ((with_reducible refine k_index ?_); refine x_index rfl rfl (by assumption) ?_) | ((with_reducible refine k_bin ?_); refine m_binI rfl rfl rfl ?_)  | refine e_nrm ?_ | refine x_none rfl ?_ | refine x_run_f rfl rfl (by first | rfl | assumption) ?_ | with_reducible (first | refine q_then ?_ | refine q_then_ret ?_ | refine q_block_ret ?_ | refine awp_seq ?_ | refine awp_ret ?_) | ((with_reducible refine w_region ?_ ?_); kernel_rfl) | refine w_cond_t rfl (by first | rfl | assumption) ?_ | refine w_cond_f rfl (by first | rfl | assumption) ?_)
            refine ret0_2 (by first | exact .inr rfl | exact .inl rfl) rfl rfl rfl ?_
            repeat' (first | exact trivial | exact Ren.v _ | exact Ren.sl _ _ | exact Ren.ep _ | exact Ren.ptr _ _ _ _ rfl | exact Ren.bs _ _ _ _ _ rfl | exact Ren.nil _ | exact Ren.own _ _ _ _ ⟨_, rfl⟩ | refine ren_ag ?_ | refine ren_tu ?_ | refine ren_fn ?_ | refine ⟨?_, ?_⟩)
          · have q3 : decide ((c.toNat : Int) > 126) = false := by simp; omega
            repeat (first | ((with_reducible refine k_move ?_); refine m_move rfl ?_) | ((with_reducible refine k_assign ?_); refine m_assign rfl ?_) | ((with_reducible refine k_pick ?_); refine m_pickf rfl (by first | rfl | assumption) rfl ?_) | ((with_reducible refine k_index ?_); refine x_index rfl rfl (by assumption) ?_) | ((with_reducible refine k_bin ?_); (first | refine x_add_in rfl rfl (by omega) ?_ | refine m_binI rfl rfl rfl ?_))  | refine e_nrm ?_ | refine x_none rfl ?_ | refine x_run_f rfl rfl (by first | rfl | assumption) ?_ | with_reducible (first | refine q_then ?_ | refine q_block ?_ | refine awp_seq ?_ | refine awp_skip ?_) | ((with_reducible refine w_region ?_ ?_); kernel_rfl) | refine w_cond_f rfl (by first | rfl | assumption) ?_)
            refine ⟨(a, k + 1, D), ⟨by show a ≤ k + 1; omega, by show k + 1 ≤ s.size; omega, by show D.length ≤ k + 1; omega, all_take hx (okB_iff.2 (.inr (by omega))) hall, ?_⟩, by show s.size - (k + 1) < s.size - k; omega, ⟨rfl, rfl, rfl, rfl, trivial⟩, ⟨rfl, trivial⟩⟩
            show D ++ ll (extL s (a, k + 1)) _ = _
            rw [extL_next hx ha, ← hw]
    · obtain rfl : k = s.size := by simp at h; omega
      rw [List.drop_of_length_le (by omega), ll, List.append_nil] at hw
      rw [List.take_of_length_le (by omega)] at hall
      rw [hfin hok hall, ← hw]
      repeat (first | ((with_reducible refine k_move ?_); refine m_move rfl ?_) | ((with_reducible refine k_assign ?_); refine m_assign rfl ?_)  | refine e_nrm ?_ | refine x_none rfl ?_ | with_reducible (first | refine q_then ?_ | refine q_then_exit ?_ | refine awp_seq ?_ | refine awp_exit ?_ | refine awp_ret ?_) | ((with_reducible refine q_block_exit ?_ ?_); rfl) | ((with_reducible refine w_region ?_ ?_); kernel_rfl))
      refine ret0_2 (by first | exact .inr rfl | exact .inl rfl) rfl rfl rfl ?_
      repeat' (first | exact trivial | exact Ren.v _ | exact Ren.sl _ _ | exact Ren.ep _ | exact Ren.ptr _ _ _ _ rfl | exact Ren.bs _ _ _ _ _ rfl | exact Ren.nil _ | exact Ren.own _ _ _ _ ⟨_, rfl⟩ | refine ren_ag ?_ | refine ren_tu ?_ | refine ren_fn ?_ | refine ⟨?_, ?_⟩)
  · have p3 : ((c0.toNat : Int) != 10) = true := by rw [bne_iff_ne]; exact ne10 h10
    rw [lines_none hne (.inl (.inr (by rw [hlast]; intro e; injection e with e; exact h10 e)))]
    repeat (first | ((with_reducible refine k_assign ?_); refine m_assign rfl ?_)  | refine e_nrm ?_ | refine x_none rfl ?_ | with_reducible (first | refine q_then ?_ | refine q_then_ret ?_ | refine awp_seq ?_ | refine awp_ret ?_) | ((with_reducible refine w_region ?_ ?_); kernel_rfl) | refine w_cond_t rfl (by first | rfl | assumption) ?_)
    refine ret0_2 (by first | exact .inr rfl | exact .inl rfl) rfl rfl rfl ?_
    repeat' (first | exact trivial | exact Ren.v _ | exact Ren.sl _ _ | exact Ren.ep _ | exact Ren.ptr _ _ _ _ rfl | exact Ren.bs _ _ _ _ _ rfl | exact Ren.nil _ | exact Ren.own _ _ _ _ ⟨_, rfl⟩ | refine ren_ag ?_ | refine ren_tu ?_ | refine ren_fn ?_ | refine ⟨?_, ?_⟩)
end Go.Proofs.YtggagmafkdhjcaaGreatDoor
