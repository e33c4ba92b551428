/- The reference of calendar.Parse, by the abstract machine; conditions: none. -/
import Derived.Test.YtggagmafkdhjcaaGreatDoorCdC
set_option linter.unusedVariables false
set_option linter.unusedSimpArgs false
namespace Go.Proofs.YtggagmafkdhjcaaGreatDoor
open Go Go.RowKit
set_option maxRecDepth 10000
variable {G : Nat → Option (List Value)}
def ivC (n : Int) : AV := .v (.int .i64 n)
def pCells (a b x y : UInt8) (k : Nat) : List AV := (([a, b, x, y].take k).map fun q => ivC (dig q)) ++ List.replicate (4 - k) (ivC 0)
theorem tailP_bad {d : Int} {a b c x y : UInt8} (h : ¬ (isDig a = true ∧ isDig b = true ∧ isDig x = true ∧ isDig y = true)) : tailP d [a, b, c, x, y] = (0, 2) := by
  show (if _ then _ else _) = ((0 : Int), (2 : Int))
  rw [if_neg (fun e => h e.2)]
theorem tailP_ok {d : Int} {a b x y : UInt8} (da : isDig a = true) (db : isDig b = true) (dx : isDig x = true) (dy : isDig y = true) : tailP d [a, b, 58, x, y] = if (makeP d (dig a * 10 + dig b) (dig x * 10 + dig y)).2 = 0 then ((makeP d (dig a * 10 + dig b) (dig x * 10 + dig y)).1, 0) else (0, 2) := by
  show (if _ then _ else _) = _
  rw [if_pos ⟨rfl, da, db, dx, dy⟩]
theorem partsP_bad' {f : List UInt8} {a b c x y : UInt8} (h : ¬ (isDig a = true ∧ isDig b = true ∧ isDig x = true ∧ isDig y = true)) : partsP f [a, b, c, x, y] = (0, 2) := by
  unfold partsP
  split
  · exact tailP_bad h
  · rfl
set_option maxHeartbeats 4000000 in
theorem rparse_A (s : ByteArray) (hm : s.size ≤ maxLen) : ACalls Tryz.prog G 73 [.v (.string s)] [] (.tu [.v (.int .i64 (parseP s.data.toList).1), .v (.int .i64 (parseP s.data.toList).2)]) [] := by
  have hs := nsizeS s
  have hm9 : s.size ≤ 9223372036854775807 := by unfold maxLen at hm; omega
  by_cases h7 : s.size < 7
  · rw [parse_short (by omega)]
    have q : decide ((s.size : Int) < 7) = true := by simp; omega
    refine acalls_of tbOk (enter_of Tryz.func73 (by kernel_rfl) rfl) Tryz.func73 rfl _ Tryz.ntmps73 (Nat.le_of_ble_eq_true rfl) fun X hX => ?_
    subst hX
    repeat (first | ((with_reducible refine k_move ?_); refine m_move rfl ?_) | ((with_reducible refine k_assign ?_); refine m_assign rfl ?_) | ((with_reducible refine k_pick ?_); refine m_pickt rfl (by first | rfl | assumption) rfl ?_) | ((with_reducible refine k_call ?_); refine x_len_str (by exact Tryz.underlying9) rfl ?_) | ((with_reducible refine k_bin ?_); refine m_binI rfl rfl rfl ?_)  | refine e_nrm ?_ | refine x_none rfl ?_ | refine x_skip_f rfl rfl (by first | rfl | assumption) ?_ | with_reducible (first | refine q_then ?_ | refine q_then_ret ?_ | refine awp_seq ?_ | refine awp_ret ?_) | ((with_reducible refine w_region ?_ ?_); kernel_rfl) | refine w_cond_t rfl (by first | rfl | assumption) ?_)
    refine ret0_2 (by first | exact .inr rfl | exact .inl rfl) rfl rfl rfl ?_
    repeat' (first | exact trivial | exact Ren.v _ | exact Ren.sl _ _ | exact Ren.ep _ | exact Ren.ptr _ _ _ _ rfl | exact Ren.bs _ _ _ _ _ rfl | exact Ren.nil _ | exact Ren.own _ _ _ _ ⟨_, rfl⟩ | refine ren_ag ?_ | refine ren_tu ?_ | refine ren_fn ?_ | refine ⟨?_, ?_⟩)
  have q7 : decide ((s.size : Int) < 7) = false := by simp; omega
  obtain ⟨f, s6, a, b, c, x, y, hl⟩ : ∃ f s6 a b c x y, s.data.toList = f ++ s6 :: [a, b, c, x, y] := by
    have h6 : (s.data.toList.drop (s.size - 6)).length = 6 := by rw [List.length_drop]; omega
    match hd : s.data.toList.drop (s.size - 6), h6 with
    | [s6, a, b, c, x, y], _ => exact ⟨s.data.toList.take (s.size - 6), s6, a, b, c, x, y, by rw [← hd, List.take_append_drop]⟩
  have hz := congrArg List.length hl
  rw [List.length_append, ← hs] at hz
  simp only [List.length_cons, List.length_nil] at hz
  have ix : ∀ (j : Nat) (q : UInt8) (z : Int), (s6 :: [a, b, c, x, y])[j]? = some q → z = ((f.length + j : Nat) : Int) → ∀ w : World, (Instr.index 9 (.string s) (.int .i64 z)).run Tryz.prog w = .ok (.int .u8 (q.toNat : Int)) w := fun j q z hq hz w => by
    subst hz
    exact nidxS s _ q (by rw [hl, List.getElem?_append_right (by omega)]; simpa using hq) w
  have i6 := ix 0 s6 ((s.size : Int) - 6) rfl (by omega)
  have i3 := ix 3 c ((s.size : Int) - 3) rfl (by omega)
  have ia := ix 1 a ((s.size : Int) - 5) rfl (by omega)
  have ib := ix 2 b ((s.size : Int) - 4) rfl (by omega)
  have ixx := ix 4 x ((s.size : Int) - 2) rfl (by omega)
  have iy := ix 5 y ((s.size : Int) - 1) rfl (by omega)
  clear ix
  rw [hl, parse_split f [a, b, c, x, y] s6 rfl]
  by_cases h6 : s6 = 47
  · subst h6
    rw [if_pos rfl]
    have p6 : (((47 : UInt8).toNat : Int) != 47) = false := rfl
    by_cases h58 : c = 58
    · subst h58
      have p3 : (((58 : UInt8).toNat : Int) != 58) = false := rfl
      have hbad : ∀ q : UInt8, q ∈ [a, b, x, y] → ¬ isDig q = true → partsP f [a, b, 58, x, y] = (0, 2) := fun q hq hn => partsP_bad' (by
        rintro ⟨e1, e2, e3, e4⟩
        simp at hq
        rcases hq with rfl | rfl | rfl | rfl
        · exact hn e1
        · exact hn e2
        · exact hn e3
        · exact hn e4)
      have hex : s.extract (0 : Int).toNat ((s.size : Int) - 6).toNat = ⟨f.toArray⟩ := by
        refine ba_ext ?_
        rw [ba_sub, hl]
        have : ((s.size : Int) - 6).toNat = f.length := by omega
        rw [this]
        simp
      have hfl : (ByteArray.mk f.toArray).size = f.length := by simp [ByteArray.size]
      have hN := rnumber_A (G := G) ⟨f.toArray⟩ 16777216 (by rw [hfl]; omega) (by omega) (by omega)
      rw [bytesOf] at hN
      have hP : partsP f [a, b, 58, x, y] = match numP f 16777216 with
        | some d => tailP d [a, b, 58, x, y]
        | none => (0, 2) := rfl
      generalize hnum : numP f 16777216 = num at hN hP
      have hM0 : num = none → num.getD 0 = 0 := fun h => by rw [h]; rfl
      clear hnum
      clear hl hz hs hfl
      refine acalls_of tbOk (enter_of Tryz.func73 (by kernel_rfl) rfl) Tryz.func73 rfl _ Tryz.ntmps73 (Nat.le_of_ble_eq_true rfl) fun X hX => ?_
      subst hX
      repeat (first | ((with_reducible refine k_move ?_); refine m_move rfl ?_) | ((with_reducible refine k_assign ?_); refine m_assign rfl ?_) | ((with_reducible refine k_pick ?_); refine m_pickf rfl (by first | rfl | assumption) rfl ?_) | ((with_reducible refine k_index ?_); refine x_index rfl rfl (by assumption) ?_) | ((with_reducible refine k_slice ?_); refine x_sliceS (by exact Tryz.underlying9) rfl rfl rfl (by refine ⟨?_, ?_, ?_⟩ <;> omega) ?_) | ((with_reducible refine k_call ?_); refine x_len_str (by exact Tryz.underlying9) rfl ?_) | ((with_reducible refine k_bin ?_); (first | refine x_sub_in rfl rfl (by omega) ?_ | refine m_binI rfl rfl rfl ?_))  | refine e_nrm ?_ | refine x_none rfl ?_ | refine x_run_f rfl rfl (by first | rfl | assumption) ?_ | with_reducible (first | refine q_then ?_ | refine awp_seq ?_ | refine awp_skip ?_) | ((with_reducible refine w_region ?_ ?_); kernel_rfl) | refine w_cond_f rfl (by first | rfl | assumption) ?_)
      rw [hex]
      refine zC (hN) ?_
      repeat (first | ((with_reducible refine k_move ?_); refine m_move rfl ?_) | ((with_reducible refine k_assign ?_); refine m_assign rfl ?_) | ((with_reducible refine k_alloc ?_); refine x_alloc tbOk rfl rfl ?_) | ((with_reducible refine k_extract ?_); refine x_extract rfl rfl ?_) | ((with_reducible refine k_bin ?_); refine x_sub_in rfl rfl (by omega) ?_)  | refine e_nrm ?_ | refine x_none rfl ?_ | with_reducible (first | refine q_then ?_ | refine awp_seq ?_) | ((with_reducible refine w_region ?_ ?_); kernel_rfl))
      with_reducible refine k_build ?_
      refine m_build_arr tbOk Tryz.underlying106 rfl rfl rfl rfl ?_
      repeat (first | ((with_reducible refine k_assign ?_); refine m_assign rfl ?_) | ((with_reducible refine k_store ?_); refine m_store tbOk rfl rfl rfl rfl rfl rfl rfl (Nat.le_of_ble_eq_true rfl) rfl ?_) | ((with_reducible refine k_alloc ?_); refine x_alloc tbOk rfl rfl ?_)  | refine e_nrm ?_ | refine x_none rfl ?_ | with_reducible (first | refine q_then ?_ | refine awp_seq ?_ | refine awp_block ?_) | ((with_reducible refine w_region ?_ ?_); kernel_rfl))
      refine awp_loop (ι := Nat) (fun k => k ≤ 4 ∧ ∀ j, j < k → ∀ q, [a, b, x, y][j]? = some q → isDig q = true) (fun k => 4 - k) (fun v k => [(0, .v (.string s)), (5, .v (.int .i64 (num.getD 0))), (6, .v (.bool num.isSome)), (7, .ptr 7 (v 7) 0), (8, .ptr 8 (v 8) 0), (9, .v (.int .i64 k))]) (fun v k => [(7, .box (pCells a b x y k)), (8, .box [.v (.int .i64 ((s.size : Int) - 5)), .v (.int .i64 ((s.size : Int) - 4)), .v (.int .i64 ((s.size : Int) - 2)), .v (.int .i64 ((s.size : Int) - 1))])]) ?_ ?_
      · exact ⟨0, ⟨by omega, fun j hj => absurd hj (by omega)⟩, trivial, ⟨rfl, rfl, rfl, rfl, rfl, rfl, trivial⟩, ⟨rfl, rfl, trivial⟩⟩
      rintro v k ⟨hk, hall⟩
      repeat (first | ((with_reducible refine k_move ?_); refine m_move rfl ?_) | ((with_reducible refine k_bin ?_); refine m_binI rfl rfl rfl ?_)  | refine e_nrm ?_ | refine x_none rfl ?_ | with_reducible (first | refine q_then ?_ | refine awp_seq ?_) | ((with_reducible refine w_region ?_ ?_); kernel_rfl))
      refine w_cond rfl (fun h => ?_) (fun h => ?_)
      · have hlt : k < 4 := by simp at h; omega
        obtain rfl | rfl | rfl | rfl : k = 0 ∨ k = 1 ∨ k = 2 ∨ k = 3 := by omega
        · have hall2 : ∀ hd : isDig a = true, ∀ j, j < 0 + 1 → ∀ q, [a, b, x, y][j]? = some q → isDig q = true := fun hd j hj q hq => by
            rcases Nat.lt_succ_iff_lt_or_eq.1 hj with hj | rfl
            · exact hall j hj q hq
            · injection hq with hq; subst hq; exact hd
          repeat (first | ((with_reducible refine k_move ?_); refine m_move rfl ?_)  | refine x_none rfl ?_ | with_reducible (first | refine q_then ?_ | refine awp_seq ?_ | refine awp_block ?_ | refine awp_skip ?_) | ((with_reducible refine w_region ?_ ?_); kernel_rfl))
          with_reducible refine k_indexAddr ?_
          refine x_indexAddr_arr tbOk Tryz.underlying106 rfl rfl rfl ⟨by omega, by omega⟩ ?_
          repeat (first | ((with_reducible refine k_move ?_); refine m_move rfl ?_) | ((with_reducible refine k_assign ?_); refine m_assign rfl ?_) | ((with_reducible refine k_load ?_); refine x_load_one tbOk rfl rfl rfl rfl rfl ?_) | ((with_reducible refine k_index ?_); refine x_index rfl rfl (by assumption) ?_) | ((with_reducible refine k_bin ?_); refine m_binI rfl rfl rfl ?_)  | refine e_nrm ?_ | refine x_none rfl ?_ | with_reducible (first | refine q_then ?_ | refine awp_seq ?_) | ((with_reducible refine w_region ?_ ?_); kernel_rfl))
          by_cases hd : isDig a = true
          · obtain ⟨d1, d2, d3⟩ := dig_rng hd
            have p1 : decide ((a.toNat : Int) < 48) = false := by simp; omega
            have p2 : decide ((a.toNat : Int) > 57) = false := by simp; omega
            have hw8 : IntKind.u8.wrap ((a.toNat : Int) - 48) = dig a := (wrap_u8_in (by omega)).trans (by omega)
            repeat (first | ((with_reducible refine k_move ?_); refine m_move rfl ?_) | ((with_reducible refine k_pick ?_); refine m_pickf rfl (by first | rfl | assumption) rfl ?_) | ((with_reducible refine k_convert ?_); refine x_conv_in tbOk rfl rfl rfl (by first | assumption | exact wrap_u64_in (by omega) | exact wrap_i64_in (by omega) | exact wrap_u8_in (by omega)) ?_) | ((with_reducible refine k_bin ?_); refine m_binI rfl rfl rfl ?_)  | refine e_nrm ?_ | refine x_none rfl ?_ | refine x_run_f rfl rfl (by first | rfl | assumption) ?_ | with_reducible (first | refine q_then ?_ | refine awp_skip ?_) | ((with_reducible refine w_region ?_ ?_); kernel_rfl) | refine w_cond_f rfl (by first | rfl | assumption) ?_)
            with_reducible refine k_indexAddr ?_
            refine x_indexAddr_arr tbOk Tryz.underlying106 rfl rfl rfl ⟨by omega, by omega⟩ ?_
            repeat (first | ((with_reducible refine k_move ?_); refine m_move rfl ?_) | ((with_reducible refine k_assign ?_); refine m_assign rfl ?_) | ((with_reducible refine k_store ?_); refine m_store tbOk rfl rfl rfl rfl rfl rfl rfl (Nat.le_of_ble_eq_true rfl) rfl ?_) | ((with_reducible refine k_bin ?_); refine x_add_in rfl rfl (by omega) ?_)  | refine e_nrm ?_ | refine x_none rfl ?_ | with_reducible (first | refine q_then ?_ | refine q_block ?_) | ((with_reducible refine w_region ?_ ?_); kernel_rfl))
            rw [hw8]
            exact ⟨0 + 1, ⟨by omega, hall2 hd⟩, by omega, ⟨rfl, rfl, rfl, rfl, rfl, rfl, trivial⟩, ⟨rfl, rfl, trivial⟩⟩
          · rw [hbad a (by simp) hd]
            have hnd : ¬ (48 ≤ a.toNat ∧ a.toNat ≤ 57) := fun hh => hd (by unfold isDig; simp; exact hh)
            by_cases hlo : (a.toNat : Int) < 48
            · have p1 : decide ((a.toNat : Int) < 48) = true := by simpa using hlo
              repeat (first | ((with_reducible refine k_assign ?_); refine m_assign rfl ?_) | ((with_reducible refine k_pick ?_); refine m_pickt rfl (by first | rfl | assumption) rfl ?_)  | refine e_nrm ?_ | refine x_none rfl ?_ | refine x_skip_f rfl rfl (by first | rfl | assumption) ?_ | with_reducible (first | refine q_then ?_ | refine q_then_ret ?_ | refine q_block_ret ?_ | refine awp_seq ?_ | refine awp_ret ?_) | ((with_reducible refine w_region ?_ ?_); kernel_rfl) | refine w_cond_t rfl (by first | rfl | assumption) ?_)
              refine ret0_2 (by first | exact .inr rfl | exact .inl rfl) rfl rfl rfl ?_
              repeat' (first | exact trivial | exact Ren.v _ | exact Ren.sl _ _ | exact Ren.ep _ | exact Ren.ptr _ _ _ _ rfl | exact Ren.bs _ _ _ _ _ rfl | exact Ren.nil _ | exact Ren.own _ _ _ _ ⟨_, rfl⟩ | refine ren_ag ?_ | refine ren_tu ?_ | refine ren_fn ?_ | refine ⟨?_, ?_⟩)
            · have p1 : decide ((a.toNat : Int) < 48) = false := by simpa using hlo
              have p2 : decide ((a.toNat : Int) > 57) = true := by simp; omega
              repeat (first | ((with_reducible refine k_move ?_); refine m_move rfl ?_) | ((with_reducible refine k_assign ?_); refine m_assign rfl ?_) | ((with_reducible refine k_pick ?_); refine m_pickf rfl (by first | rfl | assumption) rfl ?_) | ((with_reducible refine k_bin ?_); refine m_binI rfl rfl rfl ?_)  | refine e_nrm ?_ | refine x_none rfl ?_ | refine x_run_f rfl rfl (by first | rfl | assumption) ?_ | with_reducible (first | refine q_then ?_ | refine q_then_ret ?_ | refine q_block_ret ?_ | refine awp_seq ?_ | refine awp_ret ?_) | ((with_reducible refine w_region ?_ ?_); kernel_rfl) | refine w_cond_t rfl (by first | rfl | assumption) ?_)
              refine ret0_2 (by first | exact .inr rfl | exact .inl rfl) rfl rfl rfl ?_
              repeat' (first | exact trivial | exact Ren.v _ | exact Ren.sl _ _ | exact Ren.ep _ | exact Ren.ptr _ _ _ _ rfl | exact Ren.bs _ _ _ _ _ rfl | exact Ren.nil _ | exact Ren.own _ _ _ _ ⟨_, rfl⟩ | refine ren_ag ?_ | refine ren_tu ?_ | refine ren_fn ?_ | refine ⟨?_, ?_⟩)
        · have hall2 : ∀ hd : isDig b = true, ∀ j, j < 1 + 1 → ∀ q, [a, b, x, y][j]? = some q → isDig q = true := fun hd j hj q hq => by
            rcases Nat.lt_succ_iff_lt_or_eq.1 hj with hj | rfl
            · exact hall j hj q hq
            · injection hq with hq; subst hq; exact hd
          repeat (first | ((with_reducible refine k_move ?_); refine m_move rfl ?_)  | refine x_none rfl ?_ | with_reducible (first | refine q_then ?_ | refine awp_seq ?_ | refine awp_block ?_ | refine awp_skip ?_) | ((with_reducible refine w_region ?_ ?_); kernel_rfl))
          with_reducible refine k_indexAddr ?_
          refine x_indexAddr_arr tbOk Tryz.underlying106 rfl rfl rfl ⟨by omega, by omega⟩ ?_
          repeat (first | ((with_reducible refine k_move ?_); refine m_move rfl ?_) | ((with_reducible refine k_assign ?_); refine m_assign rfl ?_) | ((with_reducible refine k_load ?_); refine x_load_one tbOk rfl rfl rfl rfl rfl ?_) | ((with_reducible refine k_index ?_); refine x_index rfl rfl (by assumption) ?_) | ((with_reducible refine k_bin ?_); refine m_binI rfl rfl rfl ?_)  | refine e_nrm ?_ | refine x_none rfl ?_ | with_reducible (first | refine q_then ?_ | refine awp_seq ?_) | ((with_reducible refine w_region ?_ ?_); kernel_rfl))
          by_cases hd : isDig b = true
          · obtain ⟨d1, d2, d3⟩ := dig_rng hd
            have p1 : decide ((b.toNat : Int) < 48) = false := by simp; omega
            have p2 : decide ((b.toNat : Int) > 57) = false := by simp; omega
            have hw8 : IntKind.u8.wrap ((b.toNat : Int) - 48) = dig b := (wrap_u8_in (by omega)).trans (by omega)
            repeat (first | ((with_reducible refine k_move ?_); refine m_move rfl ?_) | ((with_reducible refine k_pick ?_); refine m_pickf rfl (by first | rfl | assumption) rfl ?_) | ((with_reducible refine k_convert ?_); refine x_conv_in tbOk rfl rfl rfl (by first | assumption | exact wrap_u64_in (by omega) | exact wrap_i64_in (by omega) | exact wrap_u8_in (by omega)) ?_) | ((with_reducible refine k_bin ?_); refine m_binI rfl rfl rfl ?_)  | refine e_nrm ?_ | refine x_none rfl ?_ | refine x_run_f rfl rfl (by first | rfl | assumption) ?_ | with_reducible (first | refine q_then ?_ | refine awp_skip ?_) | ((with_reducible refine w_region ?_ ?_); kernel_rfl) | refine w_cond_f rfl (by first | rfl | assumption) ?_)
            with_reducible refine k_indexAddr ?_
            refine x_indexAddr_arr tbOk Tryz.underlying106 rfl rfl rfl ⟨by omega, by omega⟩ ?_
            repeat (first | ((with_reducible refine k_move ?_); refine m_move rfl ?_) | ((with_reducible refine k_assign ?_); refine m_assign rfl ?_) | ((with_reducible refine k_store ?_); refine m_store tbOk rfl rfl rfl rfl rfl rfl rfl (Nat.le_of_ble_eq_true rfl) rfl ?_) | ((with_reducible refine k_bin ?_); refine x_add_in rfl rfl (by omega) ?_)  | refine e_nrm ?_ | refine x_none rfl ?_ | with_reducible (first | refine q_then ?_ | refine q_block ?_) | ((with_reducible refine w_region ?_ ?_); kernel_rfl))
            rw [hw8]
            exact ⟨1 + 1, ⟨by omega, hall2 hd⟩, by omega, ⟨rfl, rfl, rfl, rfl, rfl, rfl, trivial⟩, ⟨rfl, rfl, trivial⟩⟩
          · rw [hbad b (by simp) hd]
            have hnd : ¬ (48 ≤ b.toNat ∧ b.toNat ≤ 57) := fun hh => hd (by unfold isDig; simp; exact hh)
            by_cases hlo : (b.toNat : Int) < 48
            · have p1 : decide ((b.toNat : Int) < 48) = true := by simpa using hlo
              repeat (first | ((with_reducible refine k_assign ?_); refine m_assign rfl ?_) | ((with_reducible refine k_pick ?_); refine m_pickt rfl (by first | rfl | assumption) rfl ?_)  | refine e_nrm ?_ | refine x_none rfl ?_ | refine x_skip_f rfl rfl (by first | rfl | assumption) ?_ | with_reducible (first | refine q_then ?_ | refine q_then_ret ?_ | refine q_block_ret ?_ | refine awp_seq ?_ | refine awp_ret ?_) | ((with_reducible refine w_region ?_ ?_); kernel_rfl) | refine w_cond_t rfl (by first | rfl | assumption) ?_)
              refine ret0_2 (by first | exact .inr rfl | exact .inl rfl) rfl rfl rfl ?_
              repeat' (first | exact trivial | exact Ren.v _ | exact Ren.sl _ _ | exact Ren.ep _ | exact Ren.ptr _ _ _ _ rfl | exact Ren.bs _ _ _ _ _ rfl | exact Ren.nil _ | exact Ren.own _ _ _ _ ⟨_, rfl⟩ | refine ren_ag ?_ | refine ren_tu ?_ | refine ren_fn ?_ | refine ⟨?_, ?_⟩)
            · have p1 : decide ((b.toNat : Int) < 48) = false := by simpa using hlo
              have p2 : decide ((b.toNat : Int) > 57) = true := by simp; omega
              repeat (first | ((with_reducible refine k_move ?_); refine m_move rfl ?_) | ((with_reducible refine k_assign ?_); refine m_assign rfl ?_) | ((with_reducible refine k_pick ?_); refine m_pickf rfl (by first | rfl | assumption) rfl ?_) | ((with_reducible refine k_bin ?_); refine m_binI rfl rfl rfl ?_)  | refine e_nrm ?_ | refine x_none rfl ?_ | refine x_run_f rfl rfl (by first | rfl | assumption) ?_ | with_reducible (first | refine q_then ?_ | refine q_then_ret ?_ | refine q_block_ret ?_ | refine awp_seq ?_ | refine awp_ret ?_) | ((with_reducible refine w_region ?_ ?_); kernel_rfl) | refine w_cond_t rfl (by first | rfl | assumption) ?_)
              refine ret0_2 (by first | exact .inr rfl | exact .inl rfl) rfl rfl rfl ?_
              repeat' (first | exact trivial | exact Ren.v _ | exact Ren.sl _ _ | exact Ren.ep _ | exact Ren.ptr _ _ _ _ rfl | exact Ren.bs _ _ _ _ _ rfl | exact Ren.nil _ | exact Ren.own _ _ _ _ ⟨_, rfl⟩ | refine ren_ag ?_ | refine ren_tu ?_ | refine ren_fn ?_ | refine ⟨?_, ?_⟩)
        · have hall2 : ∀ hd : isDig x = true, ∀ j, j < 2 + 1 → ∀ q, [a, b, x, y][j]? = some q → isDig q = true := fun hd j hj q hq => by
            rcases Nat.lt_succ_iff_lt_or_eq.1 hj with hj | rfl
            · exact hall j hj q hq
            · injection hq with hq; subst hq; exact hd
          repeat (first | ((with_reducible refine k_move ?_); refine m_move rfl ?_)  | refine x_none rfl ?_ | with_reducible (first | refine q_then ?_ | refine awp_seq ?_ | refine awp_block ?_ | refine awp_skip ?_) | ((with_reducible refine w_region ?_ ?_); kernel_rfl))
          with_reducible refine k_indexAddr ?_
          refine x_indexAddr_arr tbOk Tryz.underlying106 rfl rfl rfl ⟨by omega, by omega⟩ ?_
          repeat (first | ((with_reducible refine k_move ?_); refine m_move rfl ?_) | ((with_reducible refine k_assign ?_); refine m_assign rfl ?_) | ((with_reducible refine k_load ?_); refine x_load_one tbOk rfl rfl rfl rfl rfl ?_) | ((with_reducible refine k_index ?_); refine x_index rfl rfl (by assumption) ?_) | ((with_reducible refine k_bin ?_); refine m_binI rfl rfl rfl ?_)  | refine e_nrm ?_ | refine x_none rfl ?_ | with_reducible (first | refine q_then ?_ | refine awp_seq ?_) | ((with_reducible refine w_region ?_ ?_); kernel_rfl))
          by_cases hd : isDig x = true
          · obtain ⟨d1, d2, d3⟩ := dig_rng hd
            have p1 : decide ((x.toNat : Int) < 48) = false := by simp; omega
            have p2 : decide ((x.toNat : Int) > 57) = false := by simp; omega
            have hw8 : IntKind.u8.wrap ((x.toNat : Int) - 48) = dig x := (wrap_u8_in (by omega)).trans (by omega)
            repeat (first | ((with_reducible refine k_move ?_); refine m_move rfl ?_) | ((with_reducible refine k_pick ?_); refine m_pickf rfl (by first | rfl | assumption) rfl ?_) | ((with_reducible refine k_convert ?_); refine x_conv_in tbOk rfl rfl rfl (by first | assumption | exact wrap_u64_in (by omega) | exact wrap_i64_in (by omega) | exact wrap_u8_in (by omega)) ?_) | ((with_reducible refine k_bin ?_); refine m_binI rfl rfl rfl ?_)  | refine e_nrm ?_ | refine x_none rfl ?_ | refine x_run_f rfl rfl (by first | rfl | assumption) ?_ | with_reducible (first | refine q_then ?_ | refine awp_skip ?_) | ((with_reducible refine w_region ?_ ?_); kernel_rfl) | refine w_cond_f rfl (by first | rfl | assumption) ?_)
            with_reducible refine k_indexAddr ?_
            refine x_indexAddr_arr tbOk Tryz.underlying106 rfl rfl rfl ⟨by omega, by omega⟩ ?_
            repeat (first | ((with_reducible refine k_move ?_); refine m_move rfl ?_) | ((with_reducible refine k_assign ?_); refine m_assign rfl ?_) | ((with_reducible refine k_store ?_); refine m_store tbOk rfl rfl rfl rfl rfl rfl rfl (Nat.le_of_ble_eq_true rfl) rfl ?_) | ((with_reducible refine k_bin ?_); refine x_add_in rfl rfl (by omega) ?_)  | refine e_nrm ?_ | refine x_none rfl ?_ | with_reducible (first | refine q_then ?_ | refine q_block ?_) | ((with_reducible refine w_region ?_ ?_); kernel_rfl))
            rw [hw8]
            exact ⟨2 + 1, ⟨by omega, hall2 hd⟩, by omega, ⟨rfl, rfl, rfl, rfl, rfl, rfl, trivial⟩, ⟨rfl, rfl, trivial⟩⟩
          · rw [hbad x (by simp) hd]
            have hnd : ¬ (48 ≤ x.toNat ∧ x.toNat ≤ 57) := fun hh => hd (by unfold isDig; simp; exact hh)
            by_cases hlo : (x.toNat : Int) < 48
            · have p1 : decide ((x.toNat : Int) < 48) = true := by simpa using hlo
              repeat (first | ((with_reducible refine k_assign ?_); refine m_assign rfl ?_) | ((with_reducible refine k_pick ?_); refine m_pickt rfl (by first | rfl | assumption) rfl ?_)  | refine e_nrm ?_ | refine x_none rfl ?_ | refine x_skip_f rfl rfl (by first | rfl | assumption) ?_ | with_reducible (first | refine q_then ?_ | refine q_then_ret ?_ | refine q_block_ret ?_ | refine awp_seq ?_ | refine awp_ret ?_) | ((with_reducible refine w_region ?_ ?_); kernel_rfl) | refine w_cond_t rfl (by first | rfl | assumption) ?_)
              refine ret0_2 (by first | exact .inr rfl | exact .inl rfl) rfl rfl rfl ?_
              repeat' (first | exact trivial | exact Ren.v _ | exact Ren.sl _ _ | exact Ren.ep _ | exact Ren.ptr _ _ _ _ rfl | exact Ren.bs _ _ _ _ _ rfl | exact Ren.nil _ | exact Ren.own _ _ _ _ ⟨_, rfl⟩ | refine ren_ag ?_ | refine ren_tu ?_ | refine ren_fn ?_ | refine ⟨?_, ?_⟩)
            · have p1 : decide ((x.toNat : Int) < 48) = false := by simpa using hlo
              have p2 : decide ((x.toNat : Int) > 57) = true := by simp; omega
              repeat (first | ((with_reducible refine k_move ?_); refine m_move rfl ?_) | ((with_reducible refine k_assign ?_); refine m_assign rfl ?_) | ((with_reducible refine k_pick ?_); refine m_pickf rfl (by first | rfl | assumption) rfl ?_) | ((with_reducible refine k_bin ?_); refine m_binI rfl rfl rfl ?_)  | refine e_nrm ?_ | refine x_none rfl ?_ | refine x_run_f rfl rfl (by first | rfl | assumption) ?_ | with_reducible (first | refine q_then ?_ | refine q_then_ret ?_ | refine q_block_ret ?_ | refine awp_seq ?_ | refine awp_ret ?_) | ((with_reducible refine w_region ?_ ?_); kernel_rfl) | refine w_cond_t rfl (by first | rfl | assumption) ?_)
              refine ret0_2 (by first | exact .inr rfl | exact .inl rfl) rfl rfl rfl ?_
              repeat' (first | exact trivial | exact Ren.v _ | exact Ren.sl _ _ | exact Ren.ep _ | exact Ren.ptr _ _ _ _ rfl | exact Ren.bs _ _ _ _ _ rfl | exact Ren.nil _ | exact Ren.own _ _ _ _ ⟨_, rfl⟩ | refine ren_ag ?_ | refine ren_tu ?_ | refine ren_fn ?_ | refine ⟨?_, ?_⟩)
        · have hall2 : ∀ hd : isDig y = true, ∀ j, j < 3 + 1 → ∀ q, [a, b, x, y][j]? = some q → isDig q = true := fun hd j hj q hq => by
            rcases Nat.lt_succ_iff_lt_or_eq.1 hj with hj | rfl
            · exact hall j hj q hq
            · injection hq with hq; subst hq; exact hd
          repeat (first | ((with_reducible refine k_move ?_); refine m_move rfl ?_)  | refine x_none rfl ?_ | with_reducible (first | refine q_then ?_ | refine awp_seq ?_ | refine awp_block ?_ | refine awp_skip ?_) | ((with_reducible refine w_region ?_ ?_); kernel_rfl))
          with_reducible refine k_indexAddr ?_
          refine x_indexAddr_arr tbOk Tryz.underlying106 rfl rfl rfl ⟨by omega, by omega⟩ ?_
          repeat (first | ((with_reducible refine k_move ?_); refine m_move rfl ?_) | ((with_reducible refine k_assign ?_); refine m_assign rfl ?_) | ((with_reducible refine k_load ?_); refine x_load_one tbOk rfl rfl rfl rfl rfl ?_) | ((with_reducible refine k_index ?_); refine x_index rfl rfl (by assumption) ?_) | ((with_reducible refine k_bin ?_); refine m_binI rfl rfl rfl ?_)  | refine e_nrm ?_ | refine x_none rfl ?_ | with_reducible (first | refine q_then ?_ | refine awp_seq ?_) | ((with_reducible refine w_region ?_ ?_); kernel_rfl))
          by_cases hd : isDig y = true
          · obtain ⟨d1, d2, d3⟩ := dig_rng hd
            have p1 : decide ((y.toNat : Int) < 48) = false := by simp; omega
            have p2 : decide ((y.toNat : Int) > 57) = false := by simp; omega
            have hw8 : IntKind.u8.wrap ((y.toNat : Int) - 48) = dig y := (wrap_u8_in (by omega)).trans (by omega)
            repeat (first | ((with_reducible refine k_move ?_); refine m_move rfl ?_) | ((with_reducible refine k_pick ?_); refine m_pickf rfl (by first | rfl | assumption) rfl ?_) | ((with_reducible refine k_convert ?_); refine x_conv_in tbOk rfl rfl rfl (by first | assumption | exact wrap_u64_in (by omega) | exact wrap_i64_in (by omega) | exact wrap_u8_in (by omega)) ?_) | ((with_reducible refine k_bin ?_); refine m_binI rfl rfl rfl ?_)  | refine e_nrm ?_ | refine x_none rfl ?_ | refine x_run_f rfl rfl (by first | rfl | assumption) ?_ | with_reducible (first | refine q_then ?_ | refine awp_skip ?_) | ((with_reducible refine w_region ?_ ?_); kernel_rfl) | refine w_cond_f rfl (by first | rfl | assumption) ?_)
            with_reducible refine k_indexAddr ?_
            refine x_indexAddr_arr tbOk Tryz.underlying106 rfl rfl rfl ⟨by omega, by omega⟩ ?_
            repeat (first | ((with_reducible refine k_move ?_); refine m_move rfl ?_) | ((with_reducible refine k_assign ?_); refine m_assign rfl ?_) | ((with_reducible refine k_store ?_); refine m_store tbOk rfl rfl rfl rfl rfl rfl rfl (Nat.le_of_ble_eq_true rfl) rfl ?_) | ((with_reducible refine k_bin ?_); refine x_add_in rfl rfl (by omega) ?_)  | refine e_nrm ?_ | refine x_none rfl ?_ | with_reducible (first | refine q_then ?_ | refine q_block ?_) | ((with_reducible refine w_region ?_ ?_); kernel_rfl))
            rw [hw8]
            exact ⟨3 + 1, ⟨by omega, hall2 hd⟩, by omega, ⟨rfl, rfl, rfl, rfl, rfl, rfl, trivial⟩, ⟨rfl, rfl, trivial⟩⟩
          · rw [hbad y (by simp) hd]
            have hnd : ¬ (48 ≤ y.toNat ∧ y.toNat ≤ 57) := fun hh => hd (by unfold isDig; simp; exact hh)
            by_cases hlo : (y.toNat : Int) < 48
            · have p1 : decide ((y.toNat : Int) < 48) = true := by simpa using hlo
              repeat (first | ((with_reducible refine k_assign ?_); refine m_assign rfl ?_) | ((with_reducible refine k_pick ?_); refine m_pickt rfl (by first | rfl | assumption) rfl ?_)  | refine e_nrm ?_ | refine x_none rfl ?_ | refine x_skip_f rfl rfl (by first | rfl | assumption) ?_ | with_reducible (first | refine q_then ?_ | refine q_then_ret ?_ | refine q_block_ret ?_ | refine awp_seq ?_ | refine awp_ret ?_) | ((with_reducible refine w_region ?_ ?_); kernel_rfl) | refine w_cond_t rfl (by first | rfl | assumption) ?_)
              refine ret0_2 (by first | exact .inr rfl | exact .inl rfl) rfl rfl rfl ?_
              repeat' (first | exact trivial | exact Ren.v _ | exact Ren.sl _ _ | exact Ren.ep _ | exact Ren.ptr _ _ _ _ rfl | exact Ren.bs _ _ _ _ _ rfl | exact Ren.nil _ | exact Ren.own _ _ _ _ ⟨_, rfl⟩ | refine ren_ag ?_ | refine ren_tu ?_ | refine ren_fn ?_ | refine ⟨?_, ?_⟩)
            · have p1 : decide ((y.toNat : Int) < 48) = false := by simpa using hlo
              have p2 : decide ((y.toNat : Int) > 57) = true := by simp; omega
              repeat (first | ((with_reducible refine k_move ?_); refine m_move rfl ?_) | ((with_reducible refine k_assign ?_); refine m_assign rfl ?_) | ((with_reducible refine k_pick ?_); refine m_pickf rfl (by first | rfl | assumption) rfl ?_) | ((with_reducible refine k_bin ?_); refine m_binI rfl rfl rfl ?_)  | refine e_nrm ?_ | refine x_none rfl ?_ | refine x_run_f rfl rfl (by first | rfl | assumption) ?_ | with_reducible (first | refine q_then ?_ | refine q_then_ret ?_ | refine q_block_ret ?_ | refine awp_seq ?_ | refine awp_ret ?_) | ((with_reducible refine w_region ?_ ?_); kernel_rfl) | refine w_cond_t rfl (by first | rfl | assumption) ?_)
              refine ret0_2 (by first | exact .inr rfl | exact .inl rfl) rfl rfl rfl ?_
              repeat' (first | exact trivial | exact Ren.v _ | exact Ren.sl _ _ | exact Ren.ep _ | exact Ren.ptr _ _ _ _ rfl | exact Ren.bs _ _ _ _ _ rfl | exact Ren.nil _ | exact Ren.own _ _ _ _ ⟨_, rfl⟩ | refine ren_ag ?_ | refine ren_tu ?_ | refine ren_fn ?_ | refine ⟨?_, ?_⟩)
      · obtain rfl : k = 4 := by simp at h; omega
        have da := hall 0 (by omega) a rfl
        have db := hall 1 (by omega) b rfl
        have dx := hall 2 (by omega) x rfl
        have dy := hall 3 (by omega) y rfl
        obtain ⟨a1, a2, a3⟩ := dig_rng da
        obtain ⟨b1, b2, b3⟩ := dig_rng db
        obtain ⟨x1, x2, x3⟩ := dig_rng dx
        obtain ⟨y1, y2, y3⟩ := dig_rng dy
        have w1 : IntKind.i64.wrap (10 * dig a) = dig a * 10 := (wrap_i64_in (by omega)).trans (by omega)
        have w2 : IntKind.i64.wrap (10 * dig x) = dig x * 10 := (wrap_i64_in (by omega)).trans (by omega)
        have hM := rmake_A (G := X.G) (num.getD 0) (dig a * 10 + dig b) (dig x * 10 + dig y)
        repeat (first | ((with_reducible refine k_move ?_); refine m_move rfl ?_)  | refine x_none rfl ?_ | with_reducible (first | refine q_then ?_ | refine q_then_exit ?_ | refine awp_seq ?_ | refine awp_exit ?_) | ((with_reducible refine q_block_exit ?_ ?_); rfl) | ((with_reducible refine w_region ?_ ?_); kernel_rfl))
        with_reducible refine k_indexAddr ?_
        refine x_indexAddr_arr tbOk Tryz.underlying106 rfl rfl rfl ⟨by omega, by omega⟩ ?_
        repeat (first | ((with_reducible refine k_load ?_); refine x_load_one tbOk rfl rfl rfl rfl rfl ?_) | ((with_reducible refine k_bin ?_); refine m_binI rfl rfl rfl ?_)  | refine x_none rfl ?_  )
        with_reducible refine k_indexAddr ?_
        refine x_indexAddr_arr tbOk Tryz.underlying106 rfl rfl rfl ⟨by omega, by omega⟩ ?_
        repeat (first | ((with_reducible refine k_load ?_); refine x_load_one tbOk rfl rfl rfl rfl rfl ?_) | ((with_reducible refine k_bin ?_); refine x_add_in rfl rfl (by omega) ?_)  | refine x_none rfl ?_  )
        with_reducible refine k_indexAddr ?_
        refine x_indexAddr_arr tbOk Tryz.underlying106 rfl rfl rfl ⟨by omega, by omega⟩ ?_
        repeat (first | ((with_reducible refine k_load ?_); refine x_load_one tbOk rfl rfl rfl rfl rfl ?_) | ((with_reducible refine k_bin ?_); refine m_binI rfl rfl rfl ?_)  | refine x_none rfl ?_  )
        with_reducible refine k_indexAddr ?_
        refine x_indexAddr_arr tbOk Tryz.underlying106 rfl rfl rfl ⟨by omega, by omega⟩ ?_
        repeat (first | ((with_reducible refine k_load ?_); refine x_load_one tbOk rfl rfl rfl rfl rfl ?_) | ((with_reducible refine k_bin ?_); refine x_add_in rfl rfl (by omega) ?_)  | refine x_none rfl ?_  )
        rw [w1, w2]
        refine zC (hM) ?_
        repeat (first | ((with_reducible refine k_move ?_); refine m_move rfl ?_) | ((with_reducible refine k_assign ?_); refine m_assign rfl ?_) | ((with_reducible refine k_un ?_); refine x_not rfl ?_) | ((with_reducible refine k_extract ?_); refine x_extract rfl rfl ?_)  | refine e_nrm ?_ | refine x_none rfl ?_ | with_reducible (first | refine q_then ?_ | refine awp_seq ?_) | ((with_reducible refine w_region ?_ ?_); kernel_rfl))
        have hP2 : partsP f [a, b, 58, x, y] = if num.isSome = true ∧ (makeP (num.getD 0) (dig a * 10 + dig b) (dig x * 10 + dig y)).2 = 0 then ((makeP (num.getD 0) (dig a * 10 + dig b) (dig x * 10 + dig y)).1, 0) else (0, 2) := by
          rw [hP]
          cases num with
          | none => rw [if_neg (fun e => by cases e.1)]
          | some d =>
            show tailP d [a, b, 58, x, y] = _
            rw [tailP_ok da db dx dy]
            simp
        rw [hP2]
        generalize makeP (num.getD 0) (dig a * 10 + dig b) (dig x * 10 + dig y) = mk
        cases hok : num.isSome with
        | false =>
          rw [if_neg (fun e => by cases e.1)]
          repeat (first | ((with_reducible refine k_assign ?_); refine m_assign rfl ?_) | ((with_reducible refine k_pick ?_); refine m_pickt rfl (by first | rfl | assumption) rfl ?_)  | refine e_nrm ?_ | refine x_none rfl ?_ | refine x_skip_f rfl rfl (by first | rfl | assumption) ?_ | with_reducible (first | refine q_then ?_ | refine q_then_ret ?_ | refine awp_seq ?_ | refine awp_ret ?_) | ((with_reducible refine w_region ?_ ?_); kernel_rfl) | refine w_cond_t rfl (by first | rfl | assumption) ?_)
          refine ret0_2 (by first | exact .inr rfl | exact .inl rfl) rfl rfl rfl ?_
          repeat' (first | exact trivial | exact Ren.v _ | exact Ren.sl _ _ | exact Ren.ep _ | exact Ren.ptr _ _ _ _ rfl | exact Ren.bs _ _ _ _ _ rfl | exact Ren.nil _ | exact Ren.own _ _ _ _ ⟨_, rfl⟩ | refine ren_ag ?_ | refine ren_tu ?_ | refine ren_fn ?_ | refine ⟨?_, ?_⟩)
        | true =>
          repeat (first | ((with_reducible refine k_move ?_); refine m_move rfl ?_) | ((with_reducible refine k_pick ?_); refine m_pickf rfl (by first | rfl | assumption) rfl ?_) | ((with_reducible refine k_bin ?_); refine m_binI rfl rfl rfl ?_)  | refine e_nrm ?_ | refine x_none rfl ?_ | refine x_run_f rfl rfl (by first | rfl | assumption) ?_ | with_reducible refine q_then ?_ )
          refine w_cond rfl (fun h => ?_) (fun h => ?_)
          · have e0 : ¬ mk.2 = 0 := by simpa using h
            rw [if_neg (fun e => e0 e.2)]
            repeat (first | ((with_reducible refine k_assign ?_); refine m_assign rfl ?_)  | refine e_nrm ?_ | refine x_none rfl ?_ | with_reducible (first | refine q_then ?_ | refine q_then_ret ?_ | refine awp_seq ?_ | refine awp_ret ?_) | ((with_reducible refine w_region ?_ ?_); kernel_rfl))
            refine ret0_2 (by first | exact .inr rfl | exact .inl rfl) rfl rfl rfl ?_
            repeat' (first | exact trivial | exact Ren.v _ | exact Ren.sl _ _ | exact Ren.ep _ | exact Ren.ptr _ _ _ _ rfl | exact Ren.bs _ _ _ _ _ rfl | exact Ren.nil _ | exact Ren.own _ _ _ _ ⟨_, rfl⟩ | refine ren_ag ?_ | refine ren_tu ?_ | refine ren_fn ?_ | refine ⟨?_, ?_⟩)
          · have e0 : mk.2 = 0 := by simpa using h
            rw [if_pos ⟨rfl, e0⟩]
            repeat (first | ((with_reducible refine k_move ?_); refine m_move rfl ?_) | ((with_reducible refine k_assign ?_); refine m_assign rfl ?_)  | refine e_nrm ?_ | refine x_none rfl ?_ | with_reducible (first | refine q_then ?_ | refine awp_seq ?_ | refine awp_skip ?_ | refine awp_ret ?_) | ((with_reducible refine w_region ?_ ?_); kernel_rfl))
            refine ret0_2 (by first | exact .inr rfl | exact .inl rfl) rfl rfl rfl ?_
            repeat' (first | exact trivial | exact Ren.v _ | exact Ren.sl _ _ | exact Ren.ep _ | exact Ren.ptr _ _ _ _ rfl | exact Ren.bs _ _ _ _ _ rfl | exact Ren.nil _ | exact Ren.own _ _ _ _ ⟨_, rfl⟩ | refine ren_ag ?_ | refine ren_tu ?_ | refine ren_fn ?_ | refine ⟨?_, ?_⟩)
    · have hP : partsP f [a, b, c, x, y] = (0, 2) := by
        unfold partsP
        split
        · show (if _ then _ else _) = ((0 : Int), (2 : Int))
          rw [if_neg (fun e => h58 e.1)]
        · rfl
      rw [hP]
      have p3 : ((c.toNat : Int) != 58) = true := by
        simp
        intro h
        exact h58 (UInt8.toNat_inj.1 (by show c.toNat = 58; omega))
      refine acalls_of tbOk (enter_of Tryz.func73 (by kernel_rfl) rfl) Tryz.func73 rfl _ Tryz.ntmps73 (Nat.le_of_ble_eq_true rfl) fun X hX => ?_
      subst hX
      repeat (first | ((with_reducible refine k_move ?_); refine m_move rfl ?_) | ((with_reducible refine k_assign ?_); refine m_assign rfl ?_) | ((with_reducible refine k_pick ?_); refine m_pickf rfl (by first | rfl | assumption) rfl ?_) | ((with_reducible refine k_index ?_); refine x_index rfl rfl (by assumption) ?_) | ((with_reducible refine k_call ?_); refine x_len_str (by exact Tryz.underlying9) rfl ?_) | ((with_reducible refine k_bin ?_); (first | refine x_sub_in rfl rfl (by omega) ?_ | refine m_binI rfl rfl rfl ?_))  | refine e_nrm ?_ | refine x_none rfl ?_ | refine x_run_f rfl rfl (by first | rfl | assumption) ?_ | with_reducible (first | refine q_then ?_ | refine q_then_ret ?_ | refine awp_seq ?_ | refine awp_ret ?_) | ((with_reducible refine w_region ?_ ?_); kernel_rfl) | refine w_cond_t rfl (by first | rfl | assumption) ?_)
      refine ret0_2 (by first | exact .inr rfl | exact .inl rfl) rfl rfl rfl ?_
      repeat' (first | exact trivial | exact Ren.v _ | exact Ren.sl _ _ | exact Ren.ep _ | exact Ren.ptr _ _ _ _ rfl | exact Ren.bs _ _ _ _ _ rfl | exact Ren.nil _ | exact Ren.own _ _ _ _ ⟨_, rfl⟩ | refine ren_ag ?_ | refine ren_tu ?_ | refine ren_fn ?_ | refine ⟨?_, ?_⟩)
  · rw [if_neg h6]
    have p6 : ((s6.toNat : Int) != 47) = true := by
      simp
      intro h
      exact h6 (UInt8.toNat_inj.1 (by show s6.toNat = 47; omega))
    refine acalls_of tbOk (enter_of Tryz.func73 (by kernel_rfl) rfl) Tryz.func73 rfl _ Tryz.ntmps73 (Nat.le_of_ble_eq_true rfl) fun X hX => ?_
    subst hX
    repeat (first | ((with_reducible refine k_move ?_); refine m_move rfl ?_) | ((with_reducible refine k_assign ?_); refine m_assign rfl ?_) | ((with_reducible refine k_pick ?_); (first | refine m_pickt rfl (by first | rfl | assumption) rfl ?_ | refine m_pickf rfl (by first | rfl | assumption) rfl ?_)) | ((with_reducible refine k_index ?_); refine x_index rfl rfl (by assumption) ?_) | ((with_reducible refine k_call ?_); refine x_len_str (by exact Tryz.underlying9) rfl ?_) | ((with_reducible refine k_bin ?_); (first | refine x_sub_in rfl rfl (by omega) ?_ | refine m_binI rfl rfl rfl ?_))  | refine e_nrm ?_ | refine x_none rfl ?_ | refine x_run_f rfl rfl (by first | rfl | assumption) ?_ | refine x_skip_f rfl rfl (by first | rfl | assumption) ?_ | with_reducible (first | refine q_then ?_ | refine q_then_ret ?_ | refine awp_seq ?_ | refine awp_ret ?_) | ((with_reducible refine w_region ?_ ?_); kernel_rfl) | refine w_cond_t rfl (by first | rfl | assumption) ?_)
    refine ret0_2 (by first | exact .inr rfl | exact .inl rfl) rfl rfl rfl ?_
    repeat' (first | exact trivial | exact Ren.v _ | exact Ren.sl _ _ | exact Ren.ep _ | exact Ren.ptr _ _ _ _ rfl | exact Ren.bs _ _ _ _ _ rfl | exact Ren.nil _ | exact Ren.own _ _ _ _ ⟨_, rfl⟩ | refine ren_ag ?_ | refine ren_tu ?_ | refine ren_fn ?_ | refine ⟨?_, ?_⟩)
end Go.Proofs.YtggagmafkdhjcaaGreatDoor
