/- Programmes compared: slices.Equal at steps, programme.Same and its reference; the operations of a programme, by the abstract machine; conditions: none. -/
import Derived.Test.YtggngllfnboehaaDoorPgB
import Derived.Test.YtggngllfnboehaaDoorAbsZ
set_option linter.unusedVariables false
set_option linter.unusedSimpArgs false
namespace Go.Proofs.YtggngllfnboehaaDoor
open Go Go.RowKit
set_option maxRecDepth 10000
variable {G : Nat → Option (List Value)}
theorem seq_A (L M : List St) (hl : L.length ≤ maxLen) : ACalls Tryd.prog G 39 [.sl 5 (L.map St.av), .sl 5 (M.map St.av)] [] (.v (.bool (decide (L = M)))) [] := by
  have hml : L.length ≤ 9223372036854775807 := by unfold maxLen at hl; omega
  refine acalls_of tbOk (enter_of Tryd.func39 (by kernel_rfl) rfl) Tryd.func39 rfl _ Tryd.ntmps39 (Nat.le_of_ble_eq_true rfl) fun X hX => ?_
  subst hX
  repeat (first | ((with_reducible refine k_move ?_); refine m_move rfl ?_) | ((with_reducible refine k_assign ?_); refine m_assign rfl ?_) | ((with_reducible refine k_call ?_); refine x_len tbOk rfl rfl ?_) | ((with_reducible refine k_bin ?_); refine m_binI rfl rfl rfl ?_)  | refine e_nrm ?_ | refine x_none rfl ?_ | with_reducible refine q_then ?_ | with_reducible refine awp_seq ?_ | ((with_reducible refine w_region ?_ ?_); kernel_rfl))
  refine w_cond rfl (fun h => ?_) (fun h => ?_)
  · repeat (first | ((with_reducible refine k_assign ?_); refine m_assign rfl ?_)  | refine e_nrm ?_ | refine x_none rfl ?_ | with_reducible refine q_then ?_ | with_reducible refine q_then_ret ?_ | with_reducible refine awp_seq ?_ | with_reducible refine awp_ret ?_ | ((with_reducible refine w_region ?_ ?_); kernel_rfl))
    refine ret_v (by first | exact .inr rfl | exact .inl rfl) rfl rfl ?_
    have : ¬ L.length = M.length := by simp at h; omega
    rw [decide_eq_false (fun e => this (by rw [e]))]
  · have hlm : L.length = M.length := by simp at h; omega
    repeat (first | ((with_reducible refine k_move ?_); refine m_move rfl ?_) | ((with_reducible refine k_call ?_); refine x_len tbOk rfl rfl ?_)  | refine e_nrm ?_ | refine x_none rfl ?_ | with_reducible refine q_then ?_ | with_reducible refine awp_seq ?_ | with_reducible refine awp_block ?_ | with_reducible refine awp_skip ?_ | ((with_reducible refine w_region ?_ ?_); kernel_rfl))
    refine awp_loop (ι := Nat) (fun k => k ≤ L.length ∧ (L = M ↔ L.drop k = M.drop k)) (fun k => L.length - k) (fun v k => [(0, .sl 5 (L.map St.av)), (1, .sl 5 (M.map St.av)), (12, .v (.int .i64 (L.map St.av).length)), (13, .v (.int .i64 k))]) (fun v k => []) ?_ ?_
    · exact ⟨0, ⟨Nat.zero_le _, Iff.rfl⟩, trivial, ⟨rfl, rfl, rfl, rfl, trivial⟩, trivial⟩
    · rintro v k ⟨hk, hf⟩
      repeat (first | ((with_reducible refine k_bin ?_); refine m_binI rfl rfl rfl ?_)  | refine e_nrm ?_ | refine x_none rfl ?_ | with_reducible refine q_then ?_ | with_reducible refine awp_seq ?_ | ((with_reducible refine w_region ?_ ?_); kernel_rfl))
      refine w_cond rfl (fun h => ?_) (fun h => ?_)
      · have hlt : k < L.length := by simpa using h
        obtain ⟨r, hx⟩ := some_at hlt
        obtain ⟨q, hq⟩ := some_at (L := M) (k := k) (by omega)
        have hy := st_at hx
        have hz := st_at hq
        rw [drop_at hx, drop_at hq, List.cons.injEq] at hf
        repeat (first | ((with_reducible refine k_move ?_); refine m_move rfl ?_) | ((with_reducible refine k_assign ?_); refine m_assign rfl ?_) | ((with_reducible refine k_load ?_); refine x_load_ep_agg tbOk rfl rfl (Nat.le_of_ble_eq_true rfl) ?_) | ((with_reducible refine k_indexAddr ?_); refine x_indexAddr_n tbOk rfl rfl rfl rfl (by assumption) ?_)  | refine e_nrm ?_ | refine x_none rfl ?_ | with_reducible refine q_then ?_ | with_reducible refine awp_seq ?_ | with_reducible refine awp_block ?_ | with_reducible refine awp_skip ?_ | ((with_reducible refine w_region ?_ ?_); kernel_rfl) | ((with_reducible refine w_draw mixd ?_ ?_); kernel_rfl))
        with_reducible refine k_bin ?_
        refine x_bin_ag rfl rfl (rfl : concL _ = some r.vals) (rfl : concL _ = some q.vals) (fun w => stNeq _ _ _ _ w) ?_
        repeat (first   | refine e_drw (by kernel_rfl) ?_ | with_reducible refine q_then ?_ )
        refine w_cond rfl (fun he => ?_) (fun he => ?_)
        · have he' : ¬ r = q := by simpa using he
          repeat (first | ((with_reducible refine k_assign ?_); refine m_assign rfl ?_)  | refine e_nrm ?_ | refine x_none rfl ?_ | with_reducible refine q_then ?_ | with_reducible refine q_then_ret ?_ | with_reducible refine q_block_ret ?_ | with_reducible refine awp_seq ?_ | with_reducible refine awp_ret ?_ | ((with_reducible refine w_region ?_ ?_); kernel_rfl))
          refine ret_v (by first | exact .inr rfl | exact .inl rfl) rfl rfl ?_
          rw [decide_eq_false (fun e => he' (hf.1 e).1)]
        · have he' : r = q := by simpa using he
          repeat (first | ((with_reducible refine k_move ?_); refine m_move rfl ?_) | ((with_reducible refine k_bin ?_); refine x_add_in rfl rfl (by omega) ?_)  | refine e_nrm ?_ | refine x_none rfl ?_ | with_reducible refine q_then ?_ | with_reducible refine q_block ?_ | with_reducible refine awp_skip ?_ | ((with_reducible refine w_region ?_ ?_); kernel_rfl))
          exact ⟨k + 1, ⟨by omega, ⟨fun e => (hf.1 e).2, fun e => hf.2 ⟨he', e⟩⟩⟩, by omega, ⟨rfl, rfl, rfl, rfl, trivial⟩, trivial⟩
      · have hlt : ¬ k < L.length := by simpa using h
        repeat (first | ((with_reducible refine k_assign ?_); refine m_assign rfl ?_)  | refine e_nrm ?_ | refine x_none rfl ?_ | with_reducible refine q_then ?_ | with_reducible refine q_then_exit ?_ | with_reducible refine awp_seq ?_ | with_reducible refine awp_exit ?_ | with_reducible refine awp_ret ?_ | ((with_reducible refine q_block_exit ?_ ?_); rfl) | ((with_reducible refine w_region ?_ ?_); kernel_rfl))
        refine ret_v (by first | exact .inr rfl | exact .inl rfl) rfl rfl ?_
        rw [decide_eq_true (hf.2 (by rw [List.drop_of_length_le (by omega), List.drop_of_length_le (by omega)]))]
def psameB (a b : Pg) : Bool := strEq a.n b.n && decide (a.st = b.st)
theorem psameB_refl (a : Pg) : psameB a a = true := by
  unfold psameB
  rw [strEq_iff.2 rfl]; simp
theorem psame_A (a b : Pg) (hl : a.st.length ≤ maxLen) : ACalls Tryd.prog G 19 [a.av, b.av] [] (.v (.bool (psameB a b))) [] := by
  refine acalls_of tbOk (enter_of Tryd.func19 (by kernel_rfl) rfl) Tryd.func19 rfl _ Tryd.ntmps19 (Nat.le_of_ble_eq_true rfl) fun X hX => ?_
  subst hX
  repeat (first | ((with_reducible refine k_move ?_); refine m_move rfl ?_) | ((with_reducible refine k_assign ?_); refine m_assign rfl ?_) | ((with_reducible refine k_fieldAddr ?_); refine x_fieldAddr_ptr tbOk rfl rfl rfl rfl ?_) | ((with_reducible refine k_load ?_); refine x_load_one tbOk rfl rfl rfl rfl rfl ?_) | ((with_reducible refine k_box ?_); refine m_box rfl rfl rfl ?_) | ((with_reducible refine k_bin ?_); refine m_binS rfl rfl rfl ?_)  | refine e_nrm ?_ | refine x_none rfl ?_ | with_reducible refine q_then ?_ | with_reducible refine awp_seq ?_ | ((with_reducible refine w_region ?_ ?_); kernel_rfl))
  refine x_split rfl rfl (fun b1 => ?_) (fun b1 => ?_)
  · repeat (first | ((with_reducible refine k_fieldAddr ?_); refine x_fieldAddr_ptr tbOk rfl rfl rfl rfl ?_) | ((with_reducible refine k_load ?_); refine x_load_one tbOk rfl rfl rfl rfl rfl ?_)  | refine x_run_t rfl rfl (by first | rfl | assumption) ?_  )
    refine x_call0 (seq_A a.st b.st hl) (by repeat' (first | exact trivial | exact Ren.v _ | exact Ren.sl _ _ | exact Ren.ep _ | exact Ren.ptr _ _ _ _ rfl | exact Ren.bs _ _ _ _ _ rfl | exact Ren.nil _ | exact Ren.own _ _ _ _ ⟨_, rfl⟩ | refine ren_ag ?_ | refine ren_tu ?_ | refine ren_fn ?_ | refine ⟨?_, ?_⟩)) (by repeat' (first | exact trivial | exact RenB.v _ | exact RenB.sl _ _ | exact RenB.ep _ | exact RenB.ptr _ _ _ _ rfl | refine renb_ag ?_ | refine renb_tu ?_ | refine ⟨?_, ?_⟩)) ?_
    repeat (first | ((with_reducible refine k_assign ?_); refine m_assign rfl ?_) | ((with_reducible refine k_pick ?_); refine m_pickt rfl (by first | rfl | assumption) rfl ?_)  | refine e_nrm ?_ | refine x_none rfl ?_ | with_reducible refine q_then ?_ | with_reducible refine awp_ret ?_ )
    refine ret_v (by first | exact .inr rfl | exact .inl rfl) rfl rfl ?_
    have e1 : strEq a.n b.n = true := b1
    unfold psameB
    rw [e1]; rfl
  · repeat (first | ((with_reducible refine k_assign ?_); refine m_assign rfl ?_) | ((with_reducible refine k_pick ?_); refine m_pickf rfl (by first | rfl | assumption) rfl ?_)  | refine e_nrm ?_ | refine x_none rfl ?_ | refine x_skip_t rfl rfl (by first | rfl | assumption) ?_ | with_reducible refine q_then ?_ | with_reducible refine awp_ret ?_ )
    refine ret_v (by first | exact .inr rfl | exact .inl rfl) rfl rfl ?_
    have e1 : strEq a.n b.n = false := b1
    unfold psameB
    rw [e1]; rfl
set_option maxHeartbeats 1000000 in
theorem prsame_A (a b : Pg) (hl : a.st.length ≤ maxLen) (hl2 : b.st.length ≤ maxLen) : ACalls Tryd.prog G 17 [a.av, b.av] [] (.v (.bool (psameB a b))) [] := by
  have hml : a.st.length ≤ 9223372036854775807 := by unfold maxLen at hl; omega
  refine acalls_of tbOk (enter_of Tryd.func17 (by kernel_rfl) rfl) Tryd.func17 rfl _ Tryd.ntmps17 (Nat.le_of_ble_eq_true rfl) fun X hX => ?_
  subst hX
  unfold psameB
  repeat (first | ((with_reducible refine k_move ?_); refine m_move rfl ?_) | ((with_reducible refine k_assign ?_); refine m_assign rfl ?_) | ((with_reducible refine k_fieldAddr ?_); refine x_fieldAddr_ptr tbOk rfl rfl rfl rfl ?_) | ((with_reducible refine k_load ?_); refine x_load_one tbOk rfl rfl rfl rfl rfl ?_) | ((with_reducible refine k_box ?_); refine m_box rfl rfl rfl ?_) | ((with_reducible refine k_bin ?_); refine m_binS rfl rfl rfl ?_)  | refine e_nrm ?_ | refine x_none rfl ?_ | with_reducible refine q_then ?_ | with_reducible refine awp_seq ?_ | ((with_reducible refine w_region ?_ ?_); kernel_rfl))
  refine x_split rfl rfl (fun b1 => ?_) (fun b1 => ?_)
  · repeat (first | ((with_reducible refine k_assign ?_); refine m_assign rfl ?_) | ((with_reducible refine k_pick ?_); refine m_pickt rfl (by first | rfl | assumption) rfl ?_)  | refine e_nrm ?_ | refine x_none rfl ?_ | refine x_skip_f rfl rfl (by first | rfl | assumption) ?_ | with_reducible refine q_then ?_ | with_reducible refine q_then_ret ?_ | with_reducible refine awp_seq ?_ | with_reducible refine awp_ret ?_ | ((with_reducible refine w_region ?_ ?_); kernel_rfl) | refine w_cond_t rfl (by first | rfl | assumption) ?_)
    refine ret_v (by first | exact .inr rfl | exact .inl rfl) rfl rfl ?_
    have e1 : strEq a.n b.n = false := by simpa using b1
    rw [e1]; rfl
  · repeat (first | ((with_reducible refine k_fieldAddr ?_); refine x_fieldAddr_ptr tbOk rfl rfl rfl rfl ?_) | ((with_reducible refine k_load ?_); refine x_load_one tbOk rfl rfl rfl rfl rfl ?_) | ((with_reducible refine k_pick ?_); refine m_pickf rfl (by first | rfl | assumption) rfl ?_) | ((with_reducible refine k_call ?_); refine x_len tbOk rfl rfl ?_) | ((with_reducible refine k_bin ?_); refine m_binI rfl rfl rfl ?_)  | refine e_nrm ?_ | refine x_none rfl ?_ | refine x_run_f rfl rfl (by first | rfl | assumption) ?_ | with_reducible refine q_then ?_ )
    refine w_cond rfl (fun h => ?_) (fun h => ?_)
    · repeat (first | ((with_reducible refine k_assign ?_); refine m_assign rfl ?_)  | refine e_nrm ?_ | refine x_none rfl ?_ | with_reducible refine q_then ?_ | with_reducible refine q_then_ret ?_ | with_reducible refine awp_seq ?_ | with_reducible refine awp_ret ?_ | ((with_reducible refine w_region ?_ ?_); kernel_rfl))
      refine ret_v (by first | exact .inr rfl | exact .inl rfl) rfl rfl ?_
      have : ¬ a.st.length = b.st.length := by simp at h; omega
      rw [decide_eq_false (fun e => this (by rw [e]))]; simp
    have e1 : strEq a.n b.n = true := by simpa using b1
    rw [e1]
    have hlm : a.st.length = b.st.length := by simp at h; omega
    repeat (first | ((with_reducible refine k_assign ?_); refine m_assign rfl ?_)  | refine e_nrm ?_ | refine x_none rfl ?_ | with_reducible refine q_then ?_ | with_reducible refine awp_seq ?_ | with_reducible refine awp_block ?_ | with_reducible refine awp_skip ?_ | ((with_reducible refine w_region ?_ ?_); kernel_rfl))
    refine awp_loop (ι := Nat) (fun k => k ≤ a.st.length ∧ (a.st = b.st ↔ a.st.drop k = b.st.drop k)) (fun k => a.st.length - k) (fun v k => [(2, .ptr 2 (v 2) 0), (3, .ptr 3 (v 3) 0), (5, .v (.int .i64 (k : Nat)))]) (fun v k => [(2, .box [.v (.string a.n), .sl 5 (a.st.map St.av)]), (3, .box [.v (.string b.n), .sl 5 (b.st.map St.av)])]) ?_ ?_
    · exact ⟨0, ⟨Nat.zero_le _, Iff.rfl⟩, trivial, ⟨rfl, rfl, rfl, trivial⟩, ⟨rfl, rfl, trivial⟩⟩
    rintro v k ⟨hk, hf⟩
    repeat (first | ((with_reducible refine k_move ?_); refine m_move rfl ?_) | ((with_reducible refine k_fieldAddr ?_); refine x_fieldAddr_ptr tbOk rfl rfl rfl rfl ?_) | ((with_reducible refine k_load ?_); refine x_load_one tbOk rfl rfl rfl rfl rfl ?_) | ((with_reducible refine k_call ?_); refine x_len tbOk rfl rfl ?_) | ((with_reducible refine k_bin ?_); refine m_binI rfl rfl rfl ?_)  | refine e_nrm ?_ | refine x_none rfl ?_ | with_reducible refine q_then ?_ | with_reducible refine awp_seq ?_ | ((with_reducible refine w_region ?_ ?_); kernel_rfl))
    refine w_cond rfl (fun h => ?_) (fun h => ?_)
    · have hlt : k < a.st.length := by simpa using h
      obtain ⟨r, hx⟩ := some_at hlt
      obtain ⟨q, hq⟩ := some_at (L := b.st) (k := k) (by omega)
      have hy := st_at hx
      have hz := st_at hq
      rw [drop_at hx, drop_at hq, List.cons.injEq] at hf
      repeat (first | ((with_reducible refine k_move ?_); refine m_move rfl ?_) | ((with_reducible refine k_fieldAddr ?_); refine x_fieldAddr_ptr tbOk rfl rfl rfl rfl ?_) | ((with_reducible refine k_load ?_); refine x_load_one tbOk rfl rfl rfl rfl rfl ?_) | ((with_reducible refine k_load ?_); refine x_load_ep_agg tbOk rfl rfl (Nat.le_of_ble_eq_true rfl) ?_) | ((with_reducible refine k_indexAddr ?_); refine x_indexAddr_n tbOk rfl rfl rfl rfl (by assumption) ?_)  | refine x_none rfl ?_ | with_reducible refine q_then ?_ | with_reducible refine awp_seq ?_ | with_reducible refine awp_block ?_ | with_reducible refine awp_skip ?_ | ((with_reducible refine w_draw mixd ?_ ?_); kernel_rfl))
      with_reducible refine k_bin ?_
      refine x_bin_ag rfl rfl (rfl : concL _ = some r.vals) (rfl : concL _ = some q.vals) (fun w => stNeq _ _ _ _ w) ?_
      repeat (first   | refine e_drw (by kernel_rfl) ?_ | with_reducible refine q_then ?_ )
      refine w_cond rfl (fun he => ?_) (fun he => ?_)
      · have he' : ¬ r = q := by simpa using he
        repeat (first | ((with_reducible refine k_assign ?_); refine m_assign rfl ?_)  | refine e_nrm ?_ | refine x_none rfl ?_ | with_reducible refine q_then ?_ | with_reducible refine q_then_ret ?_ | with_reducible refine q_block_ret ?_ | with_reducible refine awp_seq ?_ | with_reducible refine awp_ret ?_ | ((with_reducible refine w_region ?_ ?_); kernel_rfl))
        refine ret_v (by first | exact .inr rfl | exact .inl rfl) rfl rfl ?_
        rw [decide_eq_false (fun e => he' (hf.1 e).1)]; rfl
      · have he' : r = q := by simpa using he
        repeat (first | ((with_reducible refine k_move ?_); refine m_move rfl ?_) | ((with_reducible refine k_assign ?_); refine m_assign rfl ?_) | ((with_reducible refine k_bin ?_); refine x_add_in rfl rfl (by omega) ?_)  | refine e_nrm ?_ | refine x_none rfl ?_ | with_reducible refine q_then ?_ | with_reducible refine q_block ?_ | with_reducible refine awp_skip ?_ | ((with_reducible refine w_region ?_ ?_); kernel_rfl))
        exact ⟨k + 1, ⟨by omega, ⟨fun e => (hf.1 e).2, fun e => hf.2 ⟨he', e⟩⟩⟩, by omega, ⟨rfl, rfl, rfl, trivial⟩, ⟨rfl, rfl, trivial⟩⟩
    · have hlt : ¬ k < a.st.length := by simpa using h
      repeat (first | ((with_reducible refine k_assign ?_); refine m_assign rfl ?_)  | refine e_nrm ?_ | refine x_none rfl ?_ | with_reducible refine q_then ?_ | with_reducible refine q_then_exit ?_ | with_reducible refine awp_seq ?_ | with_reducible refine awp_exit ?_ | with_reducible refine awp_ret ?_ | ((with_reducible refine q_block_exit ?_ ?_); rfl) | ((with_reducible refine w_region ?_ ?_); kernel_rfl))
      refine ret_v (by first | exact .inr rfl | exact .inl rfl) rfl rfl ?_
      rw [decide_eq_true (hf.2 (by rw [List.drop_of_length_le (by omega), List.drop_of_length_le (by omega)]))]; rfl
structure On where
  d : Int
  p : Int
  deriving DecidableEq
def On.av (o : On) : AV := .ag [.v (.int .i64 o.d), .v (.int .i64 o.p)]
def onOf (s : St) : List On := if s.k = 1 then [⟨s.d, 1⟩] else if s.k = 2 then [⟨s.d, 2⟩] else []
theorem onOf_len (s : St) : (onOf s).length ≤ 1 := by unfold onOf; split; · simp
                                                      split <;> simp
def opsP (L : List St) : List On := L.flatMap onOf
theorem opsP_len : ∀ L : List St, (opsP L).length ≤ L.length
  | [] => by simp [opsP]
  | s :: l => by
    have := opsP_len l
    have := onOf_len s
    unfold opsP at *
    rw [List.flatMap_cons, List.length_append, List.length_cons]; omega
theorem opsP_take {L : List St} {k : Nat} {s : St} (h : L[k]? = some s) : opsP (L.take (k + 1)) = opsP (L.take k) ++ onOf s := by
  unfold opsP
  rw [take_at h, List.flatMap_append]; simp
set_option maxHeartbeats 2000000 in
theorem pops_A (P : Pg) (hl : P.st.length ≤ 1000000) : ACalls Tryd.prog G 18 [P.av] [] (.sl 2 ((opsP P.st).map On.av)) [] := by
  refine acalls_of tbOk (enter_of Tryd.func18 (by kernel_rfl) rfl) Tryd.func18 rfl _ Tryd.ntmps18 (Nat.le_of_ble_eq_true rfl) fun X hX => ?_
  subst hX
  repeat (first | ((with_reducible refine k_move ?_); refine m_move rfl ?_) | ((with_reducible refine k_assign ?_); refine m_assign rfl ?_) | ((with_reducible refine k_fieldAddr ?_); refine x_fieldAddr_ptr tbOk rfl rfl rfl rfl ?_) | ((with_reducible refine k_load ?_); refine x_load_one tbOk rfl rfl rfl rfl rfl ?_) | ((with_reducible refine k_box ?_); refine m_box rfl rfl rfl ?_) | ((with_reducible refine k_call ?_); refine x_len tbOk rfl rfl ?_)  | refine e_nrm ?_ | refine x_none rfl ?_ | with_reducible refine q_then ?_ | with_reducible refine awp_seq ?_ | with_reducible refine awp_block ?_ | ((with_reducible refine w_region ?_ ?_); kernel_rfl))
  refine awp_own (t := 3) (s := 22) 54 2 rfl rfl ?_
  refine awp_loop (ι := Nat) (fun k => k ≤ P.st.length) (fun k => P.st.length - k) (fun v k => [(1, .ptr 1 (v 1) 0), (3, .own 22 (v 22)), (7, .sl 5 (P.st.map St.av)), (8, .v (.int .i64 (P.st.map St.av).length)), (9, .v (.int .i64 (k : Nat)))]) (fun v k => [(1, .box [.v (.string P.n), .sl 5 (P.st.map St.av)]), (22, .buf 54 2 ((opsP (P.st.take k)).map On.av))]) ?_ ?_
  · exact ⟨0, Nat.zero_le _, trivial, ⟨rfl, rfl, rfl, rfl, rfl, trivial⟩, ⟨rfl, rfl, trivial⟩⟩
  rintro v k hk
  repeat (first | ((with_reducible refine k_bin ?_); refine m_binI rfl rfl rfl ?_)  | refine e_nrm ?_ | refine x_none rfl ?_ | with_reducible refine q_then ?_ | with_reducible refine awp_seq ?_ | ((with_reducible refine w_region ?_ ?_); kernel_rfl))
  refine w_cond rfl (fun h => ?_) (fun h => ?_)
  · have hlt : k < P.st.length := by simpa using h
    obtain ⟨s, hs⟩ := some_at hlt
    have hy := st_at hs
    have hlen := opsP_len (P.st.take k)
    rw [List.length_take, Nat.min_eq_left (by omega)] at hlen
    have hnext := opsP_take hs
    repeat (first | ((with_reducible refine k_assign ?_); refine m_assign rfl ?_) | ((with_reducible refine k_fieldAddr ?_); refine x_fieldAddr_ptr tbOk rfl rfl rfl rfl ?_) | ((with_reducible refine k_load ?_); refine x_load_one tbOk rfl rfl rfl rfl rfl ?_) | ((with_reducible refine k_load ?_); refine x_load_ep_agg tbOk rfl rfl (Nat.le_of_ble_eq_true rfl) ?_) | ((with_reducible refine k_store ?_); refine m_store tbOk rfl rfl rfl rfl rfl rfl rfl (Nat.le_of_ble_eq_true rfl) rfl ?_) | ((with_reducible refine k_alloc ?_); refine x_alloc tbOk rfl rfl ?_) | ((with_reducible refine k_indexAddr ?_); refine x_indexAddr_n tbOk rfl rfl rfl rfl (by assumption) ?_) | ((with_reducible refine k_bin ?_); refine m_binI rfl rfl rfl ?_)  | refine e_nrm ?_ | refine x_none rfl ?_ | with_reducible refine q_then ?_ | with_reducible refine awp_seq ?_ | with_reducible refine awp_block ?_ | with_reducible refine awp_skip ?_ | ((with_reducible refine w_region ?_ ?_); kernel_rfl))
    refine w_cond rfl (fun q => ?_) (fun q => ?_)
    · have q' : s.k = 1 := by simpa using q
      have e : onOf s = [⟨s.d, 1⟩] := by unfold onOf; rw [if_pos q']
      rw [e] at hnext
      repeat (first | ((with_reducible refine k_move ?_); refine m_move rfl ?_) | ((with_reducible refine k_fieldAddr ?_); refine x_fieldAddr_ptr tbOk rfl rfl rfl rfl ?_) | ((with_reducible refine k_load ?_); refine x_load_one tbOk rfl rfl rfl rfl rfl ?_) | ((with_reducible refine k_build ?_); refine m_build tbOk rfl rfl rfl rfl rfl ?_) | ((with_reducible refine k_buildSlice ?_); refine m_buildSlice tbOk rfl rfl rfl rfl rfl (by omega) rfl rfl rfl ?_) | refine x_none rfl ?_  | ((with_reducible refine w_region ?_ ?_); kernel_rfl))
      refine x_append_own tbOk rfl rfl rfl rfl rfl (by decide) rfl rfl rfl rfl rfl (fun x hx => by simp at hx; subst hx; rfl) (by simp only [List.length_map, List.length_cons, List.length_nil]; omega) (by simp only [List.length_map, List.length_cons, List.length_nil]; omega) ?_
      repeat (first | ((with_reducible refine k_move ?_); refine m_move rfl ?_) | ((with_reducible refine k_assign ?_); refine m_assign rfl ?_) | ((with_reducible refine k_bin ?_); refine x_add_in rfl rfl (by omega) ?_)  | refine e_nrm ?_ | refine x_none rfl ?_ | with_reducible refine q_then ?_ | with_reducible refine q_block ?_ | ((with_reducible refine w_region ?_ ?_); kernel_rfl))
      exact ⟨k + 1, by omega, by omega, ⟨rfl, rfl, rfl, rfl, rfl, trivial⟩, ⟨rfl, hc_buf (by rw [hnext, List.map_append]; rfl), trivial⟩⟩
    have q' : ¬ s.k = 1 := by simpa using q
    repeat (first | ((with_reducible refine k_assign ?_); refine m_assign rfl ?_) | ((with_reducible refine k_bin ?_); refine m_binI rfl rfl rfl ?_)  | refine e_nrm ?_ | refine x_none rfl ?_ | with_reducible refine q_then ?_ | with_reducible refine awp_seq ?_ | ((with_reducible refine w_region ?_ ?_); kernel_rfl))
    refine w_cond rfl (fun q2 => ?_) (fun q2 => ?_)
    · have q2' : s.k = 2 := by simpa using q2
      have e : onOf s = [⟨s.d, 2⟩] := by unfold onOf; rw [if_neg q', if_pos q2']
      rw [e] at hnext
      repeat (first | ((with_reducible refine k_move ?_); refine m_move rfl ?_) | ((with_reducible refine k_fieldAddr ?_); refine x_fieldAddr_ptr tbOk rfl rfl rfl rfl ?_) | ((with_reducible refine k_load ?_); refine x_load_one tbOk rfl rfl rfl rfl rfl ?_) | ((with_reducible refine k_build ?_); refine m_build tbOk rfl rfl rfl rfl rfl ?_) | ((with_reducible refine k_buildSlice ?_); refine m_buildSlice tbOk rfl rfl rfl rfl rfl (by omega) rfl rfl rfl ?_) | refine x_none rfl ?_  | ((with_reducible refine w_region ?_ ?_); kernel_rfl))
      refine x_append_own tbOk rfl rfl rfl rfl rfl (by decide) rfl rfl rfl rfl rfl (fun x hx => by simp at hx; subst hx; rfl) (by simp only [List.length_map, List.length_cons, List.length_nil]; omega) (by simp only [List.length_map, List.length_cons, List.length_nil]; omega) ?_
      repeat (first | ((with_reducible refine k_assign ?_); refine m_assign rfl ?_) | refine e_nrm ?_ | refine x_none rfl ?_ | with_reducible refine q_then ?_ | with_reducible refine q_block ?_)
      refine awp_reown (t := 3) (s := 30) (d := 22) rfl rfl rfl (by decide) ?_
      repeat (first | ((with_reducible refine k_move ?_); refine m_move rfl ?_) | ((with_reducible refine k_bin ?_); refine x_add_in rfl rfl (by omega) ?_)  | refine e_nrm ?_ | refine x_none rfl ?_ | with_reducible refine q_then ?_ | ((with_reducible refine w_region ?_ ?_); kernel_rfl))
      exact ⟨k + 1, by omega, by omega, ⟨rfl, rfl, rfl, rfl, rfl, trivial⟩, ⟨rfl, hc_buf (by rw [hnext, List.map_append]; rfl), trivial⟩⟩
    · have q2' : ¬ s.k = 2 := by simpa using q2
      have e : onOf s = [] := by unfold onOf; rw [if_neg q', if_neg q2']
      rw [e, List.append_nil] at hnext
      repeat (first | ((with_reducible refine k_move ?_); refine m_move rfl ?_) | ((with_reducible refine k_bin ?_); refine x_add_in rfl rfl (by omega) ?_)  | refine e_nrm ?_ | refine x_none rfl ?_ | with_reducible refine q_then ?_ | with_reducible refine q_block ?_ | with_reducible refine awp_skip ?_ | ((with_reducible refine w_region ?_ ?_); kernel_rfl))
      exact ⟨k + 1, by omega, by omega, ⟨rfl, rfl, rfl, rfl, rfl, trivial⟩, ⟨rfl, hc_buf (by rw [hnext]), trivial⟩⟩
  · have hge : P.st.length ≤ k := by simpa using h
    rw [List.take_of_length_le hge]
    refine awp_freeze (t := 3) (s := 22) rfl rfl ?_
    repeat (first | ((with_reducible refine k_move ?_); refine m_move rfl ?_) | ((with_reducible refine k_assign ?_); refine m_assign rfl ?_)  | refine e_nrm ?_ | refine x_none rfl ?_ | with_reducible refine q_then ?_ | with_reducible refine q_then_exit ?_ | with_reducible refine awp_seq ?_ | with_reducible refine awp_exit ?_ | with_reducible refine awp_ret ?_ | ((with_reducible refine q_block_exit ?_ ?_); rfl) | ((with_reducible refine w_region ?_ ?_); kernel_rfl))
    refine ret0_1 (by first | exact .inr rfl | exact .inl rfl) rfl rfl ?_
    repeat' (first | exact trivial | exact Ren.v _ | exact Ren.sl _ _ | exact Ren.ep _ | exact Ren.ptr _ _ _ _ rfl | exact Ren.bs _ _ _ _ _ rfl | exact Ren.nil _ | exact Ren.own _ _ _ _ ⟨_, rfl⟩ | refine ren_ag ?_ | refine ren_tu ?_ | refine ren_fn ?_ | refine ⟨?_, ?_⟩)
end Go.Proofs.YtggngllfnboehaaDoor
