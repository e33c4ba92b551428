/- The reference for safes (has, named, Check), by the abstract machine: the same functions; conditions: none. -/
import Derived.Test.YtlmkloghbgglkaaDoorSfC
import Derived.Test.YtlmkloghbgglkaaDoorAbsZ
set_option linter.unusedVariables false
set_option linter.unusedSimpArgs false
namespace Go.Proofs.YtlmkloghbgglkaaDoor
open Go Go.RowKit
set_option maxRecDepth 10000
variable {G : Nat → Option (List Value)}
theorem leqS (a b : ByteArray) : (strLt a b || strEq a b) = !strLt b a := by
  cases h1 : strLt a b with
  | true => rw [strLt_ord.asymm h1]; rfl
  | false =>
    cases h2 : strLt b a with
    | true =>
      have : strEq a b = false := by
        cases h3 : strEq a b with
        | false => rfl
        | true => rw [strEq_iff.1 h3, strLt_ord.irr] at h2; cases h2
      rw [this]; rfl
    | false => rw [strEq_iff.2 (strLt_ord.tot _ _ h1 h2)]; rfl
theorem gtrS (a b : ByteArray) : (!(strLt a b || strEq a b)) = strLt b a := by rw [leqS]; simp
theorem rhasI_A (L : List Int) (x : Int) (hm : L.length ≤ 900) : ACalls Tryd.prog G 43 [.sl 1 (L.map iv), iv x] [] (.v (.bool (hasI L x))) [] := by
  have hml : (L.map iv).length = L.length := by simp
  refine acalls_of tbOk (enter_of Tryd.func43 (by kernel_rfl) rfl) Tryd.func43 rfl _ Tryd.ntmps43 (Nat.le_of_ble_eq_true rfl) fun X hX => ?_
  subst hX
  repeat (first | ((with_reducible refine k_assign ?_); refine m_assign rfl ?_)  | refine e_nrm ?_ | refine x_none rfl ?_ | with_reducible refine q_then ?_ | with_reducible refine awp_seq ?_ | with_reducible refine awp_block ?_ | ((with_reducible refine w_region ?_ ?_); kernel_rfl))
  refine awp_loop (ι := Nat) (fun k => k ≤ L.length ∧ hasI (L.drop k) x = hasI L x) (fun k => L.length - k) (fun v k => [(0, .sl 1 (L.map iv)), (1, iv x), (5, .v (.int .i64 k))]) (fun v k => []) ?_ ?_
  · exact ⟨0, ⟨Nat.zero_le _, rfl⟩, trivial, ⟨rfl, rfl, rfl, trivial⟩, trivial⟩
  rintro v k ⟨hk, hf⟩
  repeat (first | ((with_reducible refine k_move ?_); refine m_move rfl ?_) | ((with_reducible refine k_call ?_); refine x_len tbOk rfl rfl ?_) | ((with_reducible refine k_bin ?_); refine m_binI rfl rfl rfl ?_)  | refine e_nrm ?_ | refine x_none rfl ?_ | with_reducible refine q_then ?_ | with_reducible refine awp_seq ?_ | ((with_reducible refine w_region ?_ ?_); kernel_rfl))
  refine w_cond rfl (fun h => ?_) (fun h => ?_)
  · have hlt : k < L.length := by simp at h; omega
    obtain ⟨r, hx⟩ := some_at hlt
    have hy : (L.map iv)[k]? = some (iv r) := by rw [List.getElem?_map, hx]; rfl
    unfold hasI at hf
    rw [drop_at hx, List.any_cons] at hf
    repeat (first | ((with_reducible refine k_move ?_); refine m_move rfl ?_) | ((with_reducible refine k_load ?_); refine x_load_ep_one tbOk rfl rfl rfl ?_) | ((with_reducible refine k_indexAddr ?_); refine x_indexAddr_n tbOk rfl rfl rfl rfl (by assumption) ?_) | ((with_reducible refine k_bin ?_); refine m_binI rfl rfl rfl ?_)  | refine e_nrm ?_ | refine x_none rfl ?_ | with_reducible refine q_then ?_ | with_reducible refine awp_seq ?_ | with_reducible refine awp_block ?_ | with_reducible refine awp_skip ?_ | ((with_reducible refine w_region ?_ ?_); kernel_rfl))
    refine w_cond rfl (fun h => ?_) (fun h => ?_)
    · have e : r = x := by first | exact strEq_iff.1 h | simpa using h
      rw [decide_eq_true e, Bool.true_or] at hf
      repeat (first | ((with_reducible refine k_assign ?_); refine m_assign rfl ?_)  | refine e_nrm ?_ | refine x_none rfl ?_ | with_reducible refine q_then ?_ | with_reducible refine q_then_ret ?_ | with_reducible refine q_block_ret ?_ | with_reducible refine awp_seq ?_ | with_reducible refine awp_ret ?_ | ((with_reducible refine w_region ?_ ?_); kernel_rfl))
      refine ret_v (by first | exact .inr rfl | exact .inl rfl) rfl rfl ?_
      rw [show hasI L x = true from hf.symm]
    · have e : ¬ r = x := by
        rintro rfl
        first | (rw [strEq_iff.2 rfl] at h; cases h) | simp at h
      rw [decide_eq_false e, Bool.false_or] at hf
      repeat (first | ((with_reducible refine k_move ?_); refine m_move rfl ?_) | ((with_reducible refine k_assign ?_); refine m_assign rfl ?_) | ((with_reducible refine k_bin ?_); refine x_add_in rfl rfl (by omega) ?_)  | refine e_nrm ?_ | refine x_none rfl ?_ | with_reducible refine q_then ?_ | with_reducible refine q_block ?_ | with_reducible refine awp_skip ?_ | ((with_reducible refine w_region ?_ ?_); kernel_rfl))
      exact ⟨k + 1, ⟨by omega, hf⟩, by omega, ⟨rfl, rfl, rfl, trivial⟩, trivial⟩
  · have hlt : ¬ k < L.length := by simp at h; omega
    rw [List.drop_of_length_le (by omega)] at hf
    repeat (first | ((with_reducible refine k_assign ?_); refine m_assign rfl ?_)  | refine e_nrm ?_ | refine x_none rfl ?_ | with_reducible refine q_then ?_ | with_reducible refine q_then_exit ?_ | with_reducible refine awp_seq ?_ | with_reducible refine awp_exit ?_ | with_reducible refine awp_ret ?_ | ((with_reducible refine q_block_exit ?_ ?_); rfl) | ((with_reducible refine w_region ?_ ?_); kernel_rfl))
    refine ret_v (by first | exact .inr rfl | exact .inl rfl) rfl rfl ?_
    rw [← hf]; rfl
theorem rhasS_A (L : List ByteArray) (x : ByteArray) (hm : L.length ≤ 900) : ACalls Tryd.prog G 50 [.sl 1 (L.map sv), sv x] [] (.v (.bool (hasS L x))) [] := by
  have hml : (L.map sv).length = L.length := by simp
  refine acalls_of tbOk (enter_of Tryd.func50 (by kernel_rfl) rfl) Tryd.func50 rfl _ Tryd.ntmps50 (Nat.le_of_ble_eq_true rfl) fun X hX => ?_
  subst hX
  repeat (first | ((with_reducible refine k_assign ?_); refine m_assign rfl ?_)  | refine e_nrm ?_ | refine x_none rfl ?_ | with_reducible refine q_then ?_ | with_reducible refine awp_seq ?_ | with_reducible refine awp_block ?_ | ((with_reducible refine w_region ?_ ?_); kernel_rfl))
  refine awp_loop (ι := Nat) (fun k => k ≤ L.length ∧ hasS (L.drop k) x = hasS L x) (fun k => L.length - k) (fun v k => [(0, .sl 1 (L.map sv)), (1, sv x), (5, .v (.int .i64 k))]) (fun v k => []) ?_ ?_
  · exact ⟨0, ⟨Nat.zero_le _, rfl⟩, trivial, ⟨rfl, rfl, rfl, trivial⟩, trivial⟩
  rintro v k ⟨hk, hf⟩
  repeat (first | ((with_reducible refine k_move ?_); refine m_move rfl ?_) | ((with_reducible refine k_call ?_); refine x_len tbOk rfl rfl ?_) | ((with_reducible refine k_bin ?_); refine m_binI rfl rfl rfl ?_)  | refine e_nrm ?_ | refine x_none rfl ?_ | with_reducible refine q_then ?_ | with_reducible refine awp_seq ?_ | ((with_reducible refine w_region ?_ ?_); kernel_rfl))
  refine w_cond rfl (fun h => ?_) (fun h => ?_)
  · have hlt : k < L.length := by simp at h; omega
    obtain ⟨r, hx⟩ := some_at hlt
    have hy : (L.map sv)[k]? = some (sv r) := by rw [List.getElem?_map, hx]; rfl
    unfold hasS at hf
    rw [drop_at hx, List.any_cons] at hf
    repeat (first | ((with_reducible refine k_move ?_); refine m_move rfl ?_) | ((with_reducible refine k_load ?_); refine x_load_ep_one tbOk rfl rfl rfl ?_) | ((with_reducible refine k_indexAddr ?_); refine x_indexAddr_n tbOk rfl rfl rfl rfl (by assumption) ?_) | ((with_reducible refine k_bin ?_); refine m_binS rfl rfl rfl ?_)  | refine e_nrm ?_ | refine x_none rfl ?_ | with_reducible refine q_then ?_ | with_reducible refine awp_seq ?_ | with_reducible refine awp_block ?_ | with_reducible refine awp_skip ?_ | ((with_reducible refine w_region ?_ ?_); kernel_rfl))
    refine w_cond rfl (fun h => ?_) (fun h => ?_)
    · have e : r = x := by first | exact strEq_iff.1 h | simpa using h
      rw [decide_eq_true e, Bool.true_or] at hf
      repeat (first | ((with_reducible refine k_assign ?_); refine m_assign rfl ?_)  | refine e_nrm ?_ | refine x_none rfl ?_ | with_reducible refine q_then ?_ | with_reducible refine q_then_ret ?_ | with_reducible refine q_block_ret ?_ | with_reducible refine awp_seq ?_ | with_reducible refine awp_ret ?_ | ((with_reducible refine w_region ?_ ?_); kernel_rfl))
      refine ret_v (by first | exact .inr rfl | exact .inl rfl) rfl rfl ?_
      rw [show hasS L x = true from hf.symm]
    · have e : ¬ r = x := by
        rintro rfl
        first | (rw [strEq_iff.2 rfl] at h; cases h) | simp at h
      rw [decide_eq_false e, Bool.false_or] at hf
      repeat (first | ((with_reducible refine k_move ?_); refine m_move rfl ?_) | ((with_reducible refine k_assign ?_); refine m_assign rfl ?_) | ((with_reducible refine k_bin ?_); refine x_add_in rfl rfl (by omega) ?_)  | refine e_nrm ?_ | refine x_none rfl ?_ | with_reducible refine q_then ?_ | with_reducible refine q_block ?_ | with_reducible refine awp_skip ?_ | ((with_reducible refine w_region ?_ ?_); kernel_rfl))
      exact ⟨k + 1, ⟨by omega, hf⟩, by omega, ⟨rfl, rfl, rfl, trivial⟩, trivial⟩
  · have hlt : ¬ k < L.length := by simp at h; omega
    rw [List.drop_of_length_le (by omega)] at hf
    repeat (first | ((with_reducible refine k_assign ?_); refine m_assign rfl ?_)  | refine e_nrm ?_ | refine x_none rfl ?_ | with_reducible refine q_then ?_ | with_reducible refine q_then_exit ?_ | with_reducible refine awp_seq ?_ | with_reducible refine awp_exit ?_ | with_reducible refine awp_ret ?_ | ((with_reducible refine q_block_exit ?_ ?_); rfl) | ((with_reducible refine w_region ?_ ?_); kernel_rfl))
    refine ret_v (by first | exact .inr rfl | exact .inl rfl) rfl rfl ?_
    rw [← hf]; rfl
set_option maxHeartbeats 4000000 in
theorem rscheck_A (L : List Sf) (hm : ∀ x ∈ L, SfMax x) (hl : L.length ≤ maxLen) : ACalls Tryd.prog G 17 [.sl 3 (L.map Sf.av)] [] (.v (.int .i64 (chkS L))) [] := by
  have hml : (L.map Sf.av).length = L.length := by simp
  refine acalls_of tbOk (enter_of Tryd.func17 (by kernel_rfl) rfl) Tryd.func17 rfl _ Tryd.ntmps17 (Nat.le_of_ble_eq_true rfl) fun X hX => ?_
  subst hX
  unfold chkS
  repeat (first | ((with_reducible refine k_move ?_); refine m_move rfl ?_) | ((with_reducible refine k_assign ?_); refine m_assign rfl ?_) | ((with_reducible refine k_call ?_); refine x_len tbOk rfl rfl ?_) | ((with_reducible refine k_bin ?_); refine m_binI rfl rfl rfl ?_)  | refine e_nrm ?_ | refine x_none rfl ?_ | with_reducible refine q_then ?_ | with_reducible refine awp_seq ?_ | ((with_reducible refine w_region ?_ ?_); kernel_rfl))
  refine w_cond rfl (fun h => ?_) (fun h => ?_)
  · rw [if_pos (by simp at h; omega)]
    repeat (first | ((with_reducible refine k_assign ?_); refine m_assign rfl ?_)  | refine e_nrm ?_ | refine x_none rfl ?_ | with_reducible refine q_then ?_ | with_reducible refine q_then_ret ?_ | with_reducible refine awp_seq ?_ | with_reducible refine awp_ret ?_ | ((with_reducible refine w_region ?_ ?_); kernel_rfl))
    refine ret_v (by first | exact .inr rfl | exact .inl rfl) rfl rfl ?_
    rfl
  have h16 : L.length ≤ 16 := by simp at h; omega
  rw [if_neg (by omega)]
  repeat (first | ((with_reducible refine k_assign ?_); refine m_assign rfl ?_)  | refine e_nrm ?_ | refine x_none rfl ?_ | with_reducible refine q_then ?_ | with_reducible refine awp_seq ?_ | with_reducible refine awp_block ?_ | with_reducible refine awp_skip ?_ | ((with_reducible refine w_region ?_ ?_); kernel_rfl))
  refine awp_loop (ι := Nat) (fun k => k ≤ L.length ∧ sfGo (L.take k) (prevL L k) (L.drop k) = sfGo [] none L) (fun k => L.length - k) (fun v k => [(0, .sl 3 (L.map Sf.av)), (3, .v (.int .i64 k))]) (fun v k => []) ?_ ?_
  · exact ⟨0, ⟨Nat.zero_le _, rfl⟩, trivial, ⟨rfl, rfl, trivial⟩, trivial⟩
  rintro v k ⟨hk, hf⟩
  repeat (first | ((with_reducible refine k_move ?_); refine m_move rfl ?_) | ((with_reducible refine k_call ?_); refine x_len tbOk rfl rfl ?_) | ((with_reducible refine k_bin ?_); refine m_binI rfl rfl rfl ?_)  | refine e_nrm ?_ | refine x_none rfl ?_ | with_reducible refine q_then ?_ | with_reducible refine awp_seq ?_ | ((with_reducible refine w_region ?_ ?_); kernel_rfl))
  refine w_cond rfl (fun h => ?_) (fun h => ?_)
  rotate_left
  · have hge : ¬ k < L.length := by simp at h; omega
    rw [List.drop_of_length_le (by omega)] at hf
    repeat (first | ((with_reducible refine k_assign ?_); refine m_assign rfl ?_)  | refine e_nrm ?_ | refine x_none rfl ?_ | with_reducible refine q_then ?_ | with_reducible refine q_then_exit ?_ | with_reducible refine awp_seq ?_ | with_reducible refine awp_exit ?_ | with_reducible refine awp_ret ?_ | ((with_reducible refine q_block_exit ?_ ?_); rfl) | ((with_reducible refine w_region ?_ ?_); kernel_rfl))
    refine ret_v (by first | exact .inr rfl | exact .inl rfl) rfl rfl ?_
    rw [← hf]; rfl
  have hlt : k < L.length := by simp at h; omega
  obtain ⟨x, hx⟩ := some_at hlt
  have hy := sf_at hx
  obtain ⟨hx1, hx2, hx3⟩ := hm x (List.mem_of_getElem? hx)
  have hkl : (x.keys.map iv).length = x.keys.length := by simp
  have hll : (x.locked.map sv).length = x.locked.length := by simp
  rw [sfGo_at hx] at hf
  by_cases c1 : x.num < 1 ∨ 16 < x.num
  · have hE : sfE (L.take k) (prevL L k) x = 5 := by unfold sfE; rw [if_pos c1]
    rw [hE, if_pos (by decide)] at hf
    by_cases c0 : x.num < 1
    · have b0 : decide (x.num < 1) = true := by simpa using c0
      repeat (first | ((with_reducible refine k_move ?_); refine m_move rfl ?_) | ((with_reducible refine k_assign ?_); refine m_assign rfl ?_) | ((with_reducible refine k_fieldAddr ?_); refine x_fieldAddr_ep tbOk rfl rfl rfl rfl ?_) | ((with_reducible refine k_load ?_); refine x_load_ep_one tbOk rfl rfl rfl ?_) | ((with_reducible refine k_pick ?_); refine m_pickt rfl (by first | rfl | assumption) rfl ?_) | ((with_reducible refine k_indexAddr ?_); refine x_indexAddr_n tbOk rfl rfl rfl rfl (by assumption) ?_) | ((with_reducible refine k_bin ?_); refine m_binI rfl rfl rfl ?_)  | refine e_nrm ?_ | refine x_none rfl ?_ | refine x_skip_f rfl rfl (by first | rfl | assumption) ?_ | with_reducible refine q_then ?_ | with_reducible refine q_then_ret ?_ | with_reducible refine q_block_ret ?_ | with_reducible refine awp_seq ?_ | with_reducible refine awp_block ?_ | with_reducible refine awp_skip ?_ | with_reducible refine awp_ret ?_ | ((with_reducible refine w_region ?_ ?_); kernel_rfl) | refine w_cond_t rfl (by first | rfl | assumption) ?_)
      refine ret_v (by first | exact .inr rfl | exact .inl rfl) rfl rfl ?_
      rw [← hf]
    · have b0 : decide (x.num < 1) = false := by simpa using c0
      have b1 : decide (x.num > 16) = true := by simp; omega
      repeat (first | ((with_reducible refine k_move ?_); refine m_move rfl ?_) | ((with_reducible refine k_assign ?_); refine m_assign rfl ?_) | ((with_reducible refine k_fieldAddr ?_); refine x_fieldAddr_ep tbOk rfl rfl rfl rfl ?_) | ((with_reducible refine k_load ?_); refine x_load_ep_one tbOk rfl rfl rfl ?_) | ((with_reducible refine k_pick ?_); refine m_pickf rfl (by first | rfl | assumption) rfl ?_) | ((with_reducible refine k_indexAddr ?_); refine x_indexAddr_n tbOk rfl rfl rfl rfl (by assumption) ?_) | ((with_reducible refine k_bin ?_); refine m_binI rfl rfl rfl ?_)  | refine e_nrm ?_ | refine x_none rfl ?_ | refine x_run_f rfl rfl (by first | rfl | assumption) ?_ | with_reducible refine q_then ?_ | with_reducible refine q_then_ret ?_ | with_reducible refine q_block_ret ?_ | with_reducible refine awp_seq ?_ | with_reducible refine awp_block ?_ | with_reducible refine awp_skip ?_ | with_reducible refine awp_ret ?_ | ((with_reducible refine w_region ?_ ?_); kernel_rfl) | refine w_cond_t rfl (by first | rfl | assumption) ?_)
      refine ret_v (by first | exact .inr rfl | exact .inl rfl) rfl rfl ?_
      rw [← hf]
  have b0 : decide (x.num < 1) = false := by simp; omega
  have b1 : decide (x.num > 16) = false := by simp; omega
  repeat (first | ((with_reducible refine k_move ?_); refine m_move rfl ?_) | ((with_reducible refine k_fieldAddr ?_); refine x_fieldAddr_ep tbOk rfl rfl rfl rfl ?_) | ((with_reducible refine k_load ?_); refine x_load_ep_one tbOk rfl rfl rfl ?_) | ((with_reducible refine k_pick ?_); refine m_pickf rfl (by first | rfl | assumption) rfl ?_) | ((with_reducible refine k_indexAddr ?_); refine x_indexAddr_n tbOk rfl rfl rfl rfl (by assumption) ?_) | ((with_reducible refine k_bin ?_); refine m_binI rfl rfl rfl ?_)  | refine e_nrm ?_ | refine x_none rfl ?_ | refine x_run_f rfl rfl (by first | rfl | assumption) ?_ | with_reducible refine q_then ?_ | with_reducible refine awp_seq ?_ | with_reducible refine awp_block ?_ | with_reducible refine awp_skip ?_ | ((with_reducible refine w_region ?_ ?_); kernel_rfl) | ((with_reducible refine w_draw mixd ?_ ?_); kernel_rfl) | refine w_cond_f rfl (by first | rfl | assumption) ?_)
  rcases Nat.eq_zero_or_pos k with k0 | k0
  rotate_left
  obtain ⟨q, hq⟩ := some_at (L := L) (k := k - 1) (by omega)
  have hqy := sf_at hq
  have ek : ((k : Nat) : Int) - 1 = ((k - 1 : Nat) : Int) := by omega
  have b2 : decide ((k : Int) > 0) = true := by simpa using k0
  have hpr : prevL L k = some q := by unfold prevL; rw [if_neg (by omega)]; exact hq
  rw [hpr] at hf
  repeat (first | ((with_reducible refine k_move ?_); refine m_move rfl ?_) | ((with_reducible refine k_fieldAddr ?_); refine x_fieldAddr_ep tbOk rfl rfl rfl rfl ?_) | ((with_reducible refine k_load ?_); refine x_load_ep_one tbOk rfl rfl rfl ?_) | ((with_reducible refine k_indexAddr ?_); refine x_indexAddr_n tbOk rfl rfl rfl rfl (by assumption) ?_) | ((with_reducible refine k_bin ?_); refine x_sub_in rfl rfl (by omega) ?_)  | refine x_run_t rfl rfl (by first | rfl | assumption) ?_  )
  with_reducible refine k_indexAddr ?_
  refine x_indexAddr tbOk rfl rfl rfl rfl (by omega) (by rw [ek, Int.toNat_natCast]; exact hqy) ?_
  repeat (first | ((with_reducible refine k_fieldAddr ?_); refine x_fieldAddr_ep tbOk rfl rfl rfl rfl ?_) | ((with_reducible refine k_load ?_); refine x_load_ep_one tbOk rfl rfl rfl ?_) | ((with_reducible refine k_pick ?_); refine m_pickt rfl (by first | rfl | assumption) rfl ?_) | ((with_reducible refine k_bin ?_); refine m_binI rfl rfl rfl ?_)  | refine e_drw (by kernel_rfl) ?_ | refine x_none rfl ?_ | refine x_run_t rfl rfl (by first | rfl | assumption) ?_ | with_reducible refine q_then ?_ )
  refine w_cond rfl (fun c3 => ?_) (fun c3 => ?_)
  · have hE : sfE (L.take k) (some q) x = 14 := by unfold sfE; rw [if_neg c1, if_pos (by simpa [prevN] using c3)]
    rw [hE, if_pos (by decide)] at hf
    repeat (first | ((with_reducible refine k_assign ?_); refine m_assign rfl ?_)  | refine e_nrm ?_ | refine x_none rfl ?_ | with_reducible refine q_then ?_ | with_reducible refine q_then_ret ?_ | with_reducible refine q_block_ret ?_ | with_reducible refine awp_seq ?_ | with_reducible refine awp_ret ?_ | ((with_reducible refine w_region ?_ ?_); kernel_rfl))
    refine ret_v (by first | exact .inr rfl | exact .inl rfl) rfl rfl ?_
    rw [← hf]
  have hE : sfE (L.take k) (some q) x = if keyGo (L.take k) none x.keys ≠ 0 then keyGo (L.take k) none x.keys else peopleE x.locked := by unfold sfE; rw [if_neg c1, if_neg (by simpa [prevN] using c3)]
  rw [hE] at hf
  rotate_left
  have b2 : decide ((k : Int) > 0) = false := by simp [k0]
  have hpr : prevL L k = none := by unfold prevL; rw [if_pos k0]
  have hE : sfE (L.take k) (prevL L k) x = if keyGo (L.take k) none x.keys ≠ 0 then keyGo (L.take k) none x.keys else peopleE x.locked := by unfold sfE; rw [if_neg c1, if_neg (by rw [hpr]; simp [prevN])]
  rw [hE] at hf
  all_goals
    repeat (first | ((with_reducible refine k_assign ?_); refine m_assign rfl ?_) | ((with_reducible refine k_pick ?_); refine m_pickf rfl (by first | rfl | assumption) rfl ?_)  | refine e_nrm ?_ | refine e_drw (by kernel_rfl) ?_ | refine x_none rfl ?_ | refine x_skip_t rfl rfl (by first | rfl | assumption) ?_ | with_reducible refine q_then ?_ | with_reducible refine awp_seq ?_ | with_reducible refine awp_block ?_ | with_reducible refine awp_skip ?_ | ((with_reducible refine w_region ?_ ?_); kernel_rfl) | refine w_cond_f rfl (by first | rfl | assumption) ?_)
    refine awp_loop (ι := Nat) (fun a => a ≤ x.keys.length ∧ keyGo (L.take k) (prevL x.keys a) (x.keys.drop a) = keyGo (L.take k) none x.keys) (fun a => x.keys.length - a) (fun v a => [(0, .sl 3 (L.map Sf.av)), (3, .v (.int .i64 k)), (4, .v (.int .i64 a))]) (fun v a => []) ?_ ?_
    · exact ⟨0, ⟨Nat.zero_le _, rfl⟩, trivial, ⟨rfl, rfl, rfl, trivial⟩, trivial⟩
    clear v
    rintro v a ⟨ha, hg⟩
    repeat (first | ((with_reducible refine k_move ?_); refine m_move rfl ?_) | ((with_reducible refine k_fieldAddr ?_); refine x_fieldAddr_ep tbOk rfl rfl rfl rfl ?_) | ((with_reducible refine k_load ?_); refine x_load_ep_one tbOk rfl rfl rfl ?_) | ((with_reducible refine k_indexAddr ?_); refine x_indexAddr_n tbOk rfl rfl rfl rfl (by assumption) ?_) | ((with_reducible refine k_call ?_); refine x_len tbOk rfl rfl ?_) | ((with_reducible refine k_bin ?_); refine m_binI rfl rfl rfl ?_)  | refine e_nrm ?_ | refine x_none rfl ?_ | with_reducible refine q_then ?_ | with_reducible refine awp_seq ?_ | ((with_reducible refine w_region ?_ ?_); kernel_rfl))
    refine w_cond rfl (fun h => ?_) (fun h => ?_)
    rotate_left
    · have hge : ¬ a < x.keys.length := by simp at h; omega
      rw [List.drop_of_length_le (by omega)] at hg
      have g0 : keyGo (L.take k) none x.keys = 0 := hg.symm
      rw [if_neg (show ¬ keyGo (L.take k) none x.keys ≠ 0 by simp [g0])] at hf
      clear hg
      repeat (first | ((with_reducible refine k_move ?_); refine m_move rfl ?_) | ((with_reducible refine k_fieldAddr ?_); refine x_fieldAddr_ep tbOk rfl rfl rfl rfl ?_) | ((with_reducible refine k_load ?_); refine x_load_ep_one tbOk rfl rfl rfl ?_) | ((with_reducible refine k_indexAddr ?_); refine x_indexAddr_n tbOk rfl rfl rfl rfl (by assumption) ?_) | ((with_reducible refine k_call ?_); refine x_len tbOk rfl rfl ?_) | ((with_reducible refine k_bin ?_); refine m_binI rfl rfl rfl ?_)  | refine e_nrm ?_ | refine x_none rfl ?_ | with_reducible refine q_then ?_ | with_reducible refine q_then_exit ?_ | with_reducible refine awp_seq ?_ | with_reducible refine awp_exit ?_ | ((with_reducible refine q_block_exit ?_ ?_); rfl) | ((with_reducible refine w_region ?_ ?_); kernel_rfl))
      unfold peopleE at hf
      refine w_cond rfl (fun h => ?_) (fun h => ?_)
      · rw [if_pos (show 16 < x.locked.length by simp at h; omega), if_pos (by decide)] at hf
        repeat (first | ((with_reducible refine k_assign ?_); refine m_assign rfl ?_)  | refine e_nrm ?_ | refine x_none rfl ?_ | with_reducible refine q_then ?_ | with_reducible refine q_then_ret ?_ | with_reducible refine q_block_ret ?_ | with_reducible refine awp_seq ?_ | with_reducible refine awp_ret ?_ | ((with_reducible refine w_region ?_ ?_); kernel_rfl))
        refine ret_v (by first | exact .inr rfl | exact .inl rfl) rfl rfl ?_
        rw [← hf]
      rw [if_neg (show ¬ 16 < x.locked.length by simp at h; omega)] at hf
      repeat (first | ((with_reducible refine k_assign ?_); refine m_assign rfl ?_)  | refine e_nrm ?_ | refine x_none rfl ?_ | with_reducible refine q_then ?_ | with_reducible refine awp_seq ?_ | with_reducible refine awp_block ?_ | with_reducible refine awp_skip ?_ | ((with_reducible refine w_region ?_ ?_); kernel_rfl))
      refine awp_loop (ι := Nat) (fun b => b ≤ x.locked.length ∧ nameGo (prevL x.locked b) (x.locked.drop b) = nameGo none x.locked) (fun b => x.locked.length - b) (fun v b => [(0, .sl 3 (L.map Sf.av)), (3, .v (.int .i64 k)), (7, .v (.int .i64 b))]) (fun v b => []) ?_ ?_
      · exact ⟨0, ⟨Nat.zero_le _, rfl⟩, trivial, ⟨rfl, rfl, rfl, trivial⟩, trivial⟩
      clear v
      rintro v b ⟨hb, hg⟩
      repeat (first | ((with_reducible refine k_move ?_); refine m_move rfl ?_) | ((with_reducible refine k_fieldAddr ?_); refine x_fieldAddr_ep tbOk rfl rfl rfl rfl ?_) | ((with_reducible refine k_load ?_); refine x_load_ep_one tbOk rfl rfl rfl ?_) | ((with_reducible refine k_indexAddr ?_); refine x_indexAddr_n tbOk rfl rfl rfl rfl (by assumption) ?_) | ((with_reducible refine k_call ?_); refine x_len tbOk rfl rfl ?_) | ((with_reducible refine k_bin ?_); refine m_binI rfl rfl rfl ?_)  | refine e_nrm ?_ | refine x_none rfl ?_ | with_reducible refine q_then ?_ | with_reducible refine awp_seq ?_ | ((with_reducible refine w_region ?_ ?_); kernel_rfl))
      refine w_cond rfl (fun h => ?_) (fun h => ?_)
      rotate_left
      · have hge : ¬ b < x.locked.length := by simp at h; omega
        rw [List.drop_of_length_le (by omega)] at hg
        rw [if_neg (show ¬ nameGo none x.locked ≠ 0 by rw [← hg]; simp [nameGo])] at hf
        repeat (first | ((with_reducible refine k_move ?_); refine m_move rfl ?_) | ((with_reducible refine k_assign ?_); refine m_assign rfl ?_) | ((with_reducible refine k_bin ?_); refine x_add_in rfl rfl (by omega) ?_)  | refine e_nrm ?_ | refine x_none rfl ?_ | with_reducible refine q_then ?_ | with_reducible refine q_then_exit ?_ | with_reducible refine q_block ?_ | with_reducible refine awp_exit ?_ | ((with_reducible refine q_block_exit ?_ ?_); rfl) | ((with_reducible refine w_region ?_ ?_); kernel_rfl))
        exact ⟨k + 1, ⟨by omega, by rw [prevL_next hx]; exact hf⟩, by omega, ⟨rfl, rfl, trivial⟩, trivial⟩
      have hltb : b < x.locked.length := by simp at h; omega
      obtain ⟨z, hz⟩ := some_at hltb
      have hzy : (x.locked.map sv)[b]? = some (sv z) := by rw [List.getElem?_map, hz]; rfl
      rw [nameGo_at hz] at hg
      have hret : nameE (prevL x.locked b) z ≠ 0 → nameE (prevL x.locked b) z = sfGo [] none L := fun h0 => by
        rw [if_pos h0] at hg
        rw [if_pos (by rw [← hg]; exact h0)] at hf
        rw [hg, hf]
      repeat (first | ((with_reducible refine k_move ?_); refine m_move rfl ?_) | ((with_reducible refine k_fieldAddr ?_); refine x_fieldAddr_ep tbOk rfl rfl rfl rfl ?_) | ((with_reducible refine k_load ?_); refine x_load_ep_one tbOk rfl rfl rfl ?_) | ((with_reducible refine k_indexAddr ?_); refine x_indexAddr_n tbOk rfl rfl rfl rfl (by assumption) ?_)  | refine x_none rfl ?_ | with_reducible refine q_then ?_ | with_reducible refine awp_seq ?_ | with_reducible refine awp_block ?_ | with_reducible refine awp_skip ?_ | ((with_reducible refine w_region ?_ ?_); kernel_rfl))
      refine x_call0 (rname_A z (hx3 z (List.mem_of_getElem? hz))) (by repeat' (first | exact trivial | exact Ren.v _ | exact Ren.sl _ _ | exact Ren.ep _ | exact Ren.ptr _ _ _ _ rfl | exact Ren.nil _ | exact Ren.own _ _ _ _ ⟨_, rfl⟩ | refine ren_ag ?_ | refine ren_tu ?_ | refine ren_fn ?_ | refine ⟨?_, ?_⟩)) (by repeat' (first | exact trivial | exact RenB.v _ | exact RenB.sl _ _ | exact RenB.ep _ | exact RenB.ptr _ _ _ _ rfl | refine renb_ag ?_ | refine renb_tu ?_ | refine ⟨?_, ?_⟩)) ?_
      repeat (first | ((with_reducible refine k_un ?_); refine x_not rfl ?_)  | refine e_nrm ?_ | refine x_none rfl ?_ | with_reducible refine q_then ?_ )
      refine w_cond rfl (fun c4 => ?_) (fun c4 => ?_)
      · have hE : nameE (prevL x.locked b) z = 3 := by unfold nameE; rw [if_pos (by simpa using c4)]
        rw [hE] at hret
        repeat (first | ((with_reducible refine k_assign ?_); refine m_assign rfl ?_)  | refine e_nrm ?_ | refine x_none rfl ?_ | with_reducible refine q_then ?_ | with_reducible refine q_then_ret ?_ | with_reducible refine q_block_ret ?_ | with_reducible refine awp_seq ?_ | with_reducible refine awp_ret ?_ | ((with_reducible refine w_region ?_ ?_); kernel_rfl))
        refine ret_v (by first | exact .inr rfl | exact .inl rfl) rfl rfl ?_
        rw [← hret (by decide)]
      have c4' : ¬ nameB z.data.toList = false := by simpa using c4
      repeat (first | ((with_reducible refine k_move ?_); refine m_move rfl ?_) | ((with_reducible refine k_bin ?_); refine m_binI rfl rfl rfl ?_)  | refine x_none rfl ?_ | with_reducible refine q_then ?_ | with_reducible refine awp_seq ?_ | with_reducible refine awp_skip ?_ | ((with_reducible refine w_draw mixd ?_ ?_); kernel_rfl))
      rcases Nat.eq_zero_or_pos b with b0' | b0'
      · have b5 : decide ((b : Int) > 0) = false := by simp [b0']
        have hpr : prevL x.locked b = none := by unfold prevL; rw [if_pos b0']
        have hE : nameE (prevL x.locked b) z = 0 := by unfold nameE; rw [if_neg c4', if_neg (by rw [hpr]; simp [prevS])]
        rw [if_neg (by simp [hE])] at hg
        repeat (first | ((with_reducible refine k_move ?_); refine m_move rfl ?_) | ((with_reducible refine k_assign ?_); refine m_assign rfl ?_) | ((with_reducible refine k_pick ?_); refine m_pickf rfl (by first | rfl | assumption) rfl ?_) | ((with_reducible refine k_bin ?_); refine x_add_in rfl rfl (by omega) ?_)  | refine e_nrm ?_ | refine e_drw (by kernel_rfl) ?_ | refine x_none rfl ?_ | refine x_skip_t rfl rfl (by first | rfl | assumption) ?_ | with_reducible refine q_then ?_ | with_reducible refine q_block ?_ | with_reducible refine awp_skip ?_ | ((with_reducible refine w_region ?_ ?_); kernel_rfl) | refine w_cond_f rfl (by first | rfl | assumption) ?_)
        exact ⟨b + 1, ⟨by omega, by rw [prevL_next hz]; exact hg⟩, by omega, ⟨rfl, rfl, rfl, trivial⟩, trivial⟩
      · obtain ⟨y, hy1⟩ := some_at (L := x.locked) (k := b - 1) (by omega)
        have hyy : (x.locked.map sv)[b - 1]? = some (sv y) := by rw [List.getElem?_map, hy1]; rfl
        have eb : ((b : Nat) : Int) - 1 = ((b - 1 : Nat) : Int) := by omega
        have b5 : decide ((b : Int) > 0) = true := by simpa using b0'
        have hpr : prevL x.locked b = some y := by unfold prevL; rw [if_neg (by omega)]; exact hy1
        repeat (first | ((with_reducible refine k_move ?_); refine m_move rfl ?_) | ((with_reducible refine k_fieldAddr ?_); refine x_fieldAddr_ep tbOk rfl rfl rfl rfl ?_) | ((with_reducible refine k_load ?_); refine x_load_ep_one tbOk rfl rfl rfl ?_) | ((with_reducible refine k_indexAddr ?_); refine x_indexAddr_n tbOk rfl rfl rfl rfl (by assumption) ?_) | ((with_reducible refine k_bin ?_); refine x_sub_in rfl rfl (by omega) ?_)  | refine x_run_t rfl rfl (by first | rfl | assumption) ?_  )
        with_reducible refine k_indexAddr ?_
        refine x_indexAddr tbOk rfl rfl rfl rfl (by omega) (by rw [eb, Int.toNat_natCast]; exact hyy) ?_
        repeat (first | ((with_reducible refine k_load ?_); refine x_load_ep_one tbOk rfl rfl rfl ?_) | ((with_reducible refine k_pick ?_); refine m_pickt rfl (by first | rfl | assumption) rfl ?_) | ((with_reducible refine k_bin ?_); refine m_binS rfl rfl rfl ?_)  | refine e_drw (by kernel_rfl) ?_ | refine x_none rfl ?_ | refine x_run_t rfl rfl (by first | rfl | assumption) ?_ | with_reducible refine q_then ?_ )
        refine w_cond rfl (fun c5 => ?_) (fun c5 => ?_)
        · have hE : nameE (prevL x.locked b) z = 14 := by
            rw [leqS] at c5
            unfold nameE
            rw [if_neg c4', hpr, if_pos (by exact c5)]
          rw [hE] at hret
          repeat (first | ((with_reducible refine k_assign ?_); refine m_assign rfl ?_)  | refine e_nrm ?_ | refine x_none rfl ?_ | with_reducible refine q_then ?_ | with_reducible refine q_then_ret ?_ | with_reducible refine q_block_ret ?_ | with_reducible refine awp_seq ?_ | with_reducible refine awp_ret ?_ | ((with_reducible refine w_region ?_ ?_); kernel_rfl))
          refine ret_v (by first | exact .inr rfl | exact .inl rfl) rfl rfl ?_
          rw [← hret (by decide)]
        · have hE : nameE (prevL x.locked b) z = 0 := by
            rw [leqS] at c5
            unfold nameE
            rw [if_neg c4', hpr, if_neg (by show ¬ (!strLt y z) = true; rw [c5]; decide)]
          rw [if_neg (by simp [hE])] at hg
          repeat (first | ((with_reducible refine k_move ?_); refine m_move rfl ?_) | ((with_reducible refine k_assign ?_); refine m_assign rfl ?_) | ((with_reducible refine k_bin ?_); refine x_add_in rfl rfl (by omega) ?_)  | refine e_nrm ?_ | refine x_none rfl ?_ | with_reducible refine q_then ?_ | with_reducible refine q_block ?_ | with_reducible refine awp_skip ?_ | ((with_reducible refine w_region ?_ ?_); kernel_rfl))
          exact ⟨b + 1, ⟨by omega, by rw [prevL_next hz]; exact hg⟩, by omega, ⟨rfl, rfl, rfl, trivial⟩, trivial⟩
    have hlta : a < x.keys.length := by simp at h; omega
    obtain ⟨z, hz⟩ := some_at hlta
    have hzy : (x.keys.map iv)[a]? = some (iv z) := by rw [List.getElem?_map, hz]; rfl
    rw [keyGo_at hz] at hg
    have hret : keyE (L.take k) (prevL x.keys a) z ≠ 0 → keyE (L.take k) (prevL x.keys a) z = sfGo [] none L := fun h0 => by
      rw [if_pos h0] at hg
      have h1 : keyGo (L.take k) none x.keys ≠ 0 := by rw [← hg]; exact h0
      rw [if_pos (show (if keyGo (L.take k) none x.keys ≠ 0 then keyGo (L.take k) none x.keys else peopleE x.locked) ≠ 0 by rw [if_pos h1]; exact h1), if_pos h1] at hf
      rw [hg, hf]
    by_cases d1 : z < 0 ∨ 65536 < z
    · have hE : keyE (L.take k) (prevL x.keys a) z = 5 := by unfold keyE; rw [if_pos d1]
      rw [hE] at hret
      by_cases d0 : z < 0
      · have e0 : decide (z < 0) = true := by simpa using d0
        repeat (first | ((with_reducible refine k_move ?_); refine m_move rfl ?_) | ((with_reducible refine k_assign ?_); refine m_assign rfl ?_) | ((with_reducible refine k_fieldAddr ?_); refine x_fieldAddr_ep tbOk rfl rfl rfl rfl ?_) | ((with_reducible refine k_load ?_); refine x_load_ep_one tbOk rfl rfl rfl ?_) | ((with_reducible refine k_pick ?_); refine m_pickt rfl (by first | rfl | assumption) rfl ?_) | ((with_reducible refine k_indexAddr ?_); refine x_indexAddr_n tbOk rfl rfl rfl rfl (by assumption) ?_) | ((with_reducible refine k_bin ?_); refine m_binI rfl rfl rfl ?_)  | refine e_nrm ?_ | refine x_none rfl ?_ | refine x_skip_f rfl rfl (by first | rfl | assumption) ?_ | with_reducible refine q_then ?_ | with_reducible refine q_then_ret ?_ | with_reducible refine q_block_ret ?_ | with_reducible refine awp_seq ?_ | with_reducible refine awp_block ?_ | with_reducible refine awp_skip ?_ | with_reducible refine awp_ret ?_ | ((with_reducible refine w_region ?_ ?_); kernel_rfl) | refine w_cond_t rfl (by first | rfl | assumption) ?_)
        refine ret_v (by first | exact .inr rfl | exact .inl rfl) rfl rfl ?_
        rw [← hret (by decide)]
      · have e0 : decide (z < 0) = false := by simpa using d0
        have e1 : decide (z > 65536) = true := by simp; omega
        repeat (first | ((with_reducible refine k_move ?_); refine m_move rfl ?_) | ((with_reducible refine k_assign ?_); refine m_assign rfl ?_) | ((with_reducible refine k_fieldAddr ?_); refine x_fieldAddr_ep tbOk rfl rfl rfl rfl ?_) | ((with_reducible refine k_load ?_); refine x_load_ep_one tbOk rfl rfl rfl ?_) | ((with_reducible refine k_pick ?_); refine m_pickf rfl (by first | rfl | assumption) rfl ?_) | ((with_reducible refine k_indexAddr ?_); refine x_indexAddr_n tbOk rfl rfl rfl rfl (by assumption) ?_) | ((with_reducible refine k_bin ?_); refine m_binI rfl rfl rfl ?_)  | refine e_nrm ?_ | refine x_none rfl ?_ | refine x_run_f rfl rfl (by first | rfl | assumption) ?_ | with_reducible refine q_then ?_ | with_reducible refine q_then_ret ?_ | with_reducible refine q_block_ret ?_ | with_reducible refine awp_seq ?_ | with_reducible refine awp_block ?_ | with_reducible refine awp_skip ?_ | with_reducible refine awp_ret ?_ | ((with_reducible refine w_region ?_ ?_); kernel_rfl) | refine w_cond_t rfl (by first | rfl | assumption) ?_)
        refine ret_v (by first | exact .inr rfl | exact .inl rfl) rfl rfl ?_
        rw [← hret (by decide)]
    have e0 : decide (z < 0) = false := by simp; omega
    have e1 : decide (z > 65536) = false := by simp; omega
    repeat (first | ((with_reducible refine k_move ?_); refine m_move rfl ?_) | ((with_reducible refine k_assign ?_); refine m_assign rfl ?_) | ((with_reducible refine k_fieldAddr ?_); refine x_fieldAddr_ep tbOk rfl rfl rfl rfl ?_) | ((with_reducible refine k_load ?_); refine x_load_ep_one tbOk rfl rfl rfl ?_) | ((with_reducible refine k_pick ?_); refine m_pickf rfl (by first | rfl | assumption) rfl ?_) | ((with_reducible refine k_indexAddr ?_); refine x_indexAddr_n tbOk rfl rfl rfl rfl (by assumption) ?_) | ((with_reducible refine k_bin ?_); refine m_binI rfl rfl rfl ?_)  | refine e_nrm ?_ | refine x_none rfl ?_ | refine x_run_f rfl rfl (by first | rfl | assumption) ?_ | with_reducible refine q_then ?_ | with_reducible refine awp_seq ?_ | with_reducible refine awp_block ?_ | with_reducible refine awp_skip ?_ | ((with_reducible refine w_region ?_ ?_); kernel_rfl) | refine w_cond_f rfl (by first | rfl | assumption) ?_)
    rcases Nat.eq_zero_or_pos a with a0 | a0
    rotate_left
    obtain ⟨y, hy1⟩ := some_at (L := x.keys) (k := a - 1) (by omega)
    have hyy : (x.keys.map iv)[a - 1]? = some (iv y) := by rw [List.getElem?_map, hy1]; rfl
    have ea : ((a : Nat) : Int) - 1 = ((a - 1 : Nat) : Int) := by omega
    have e2 : decide ((a : Int) > 0) = true := by simpa using a0
    have hpa : prevL x.keys a = some y := by unfold prevL; rw [if_neg (by omega)]; exact hy1
    repeat (first | ((with_reducible refine k_move ?_); refine m_move rfl ?_) | ((with_reducible refine k_fieldAddr ?_); refine x_fieldAddr_ep tbOk rfl rfl rfl rfl ?_) | ((with_reducible refine k_load ?_); refine x_load_ep_one tbOk rfl rfl rfl ?_) | ((with_reducible refine k_indexAddr ?_); refine x_indexAddr_n tbOk rfl rfl rfl rfl (by assumption) ?_) | ((with_reducible refine k_bin ?_); refine x_sub_in rfl rfl (by omega) ?_)  | refine x_run_t rfl rfl (by first | rfl | assumption) ?_  )
    with_reducible refine k_indexAddr ?_
    refine x_indexAddr tbOk rfl rfl rfl rfl (by omega) (by rw [ea, Int.toNat_natCast]; exact hyy) ?_
    repeat (first | ((with_reducible refine k_load ?_); refine x_load_ep_one tbOk rfl rfl rfl ?_) | ((with_reducible refine k_pick ?_); refine m_pickt rfl (by first | rfl | assumption) rfl ?_) | ((with_reducible refine k_bin ?_); refine m_binI rfl rfl rfl ?_)  | refine e_nrm ?_ | refine x_none rfl ?_ | refine x_run_t rfl rfl (by first | rfl | assumption) ?_ | with_reducible refine q_then ?_ )
    refine w_cond rfl (fun d3 => ?_) (fun d3 => ?_)
    · have hE : keyE (L.take k) (prevL x.keys a) z = 14 := by unfold keyE; rw [if_neg d1, hpa, if_pos (by simpa [prevI] using d3)]
      rw [hE] at hret
      repeat (first | ((with_reducible refine k_assign ?_); refine m_assign rfl ?_)  | refine e_nrm ?_ | refine x_none rfl ?_ | with_reducible refine q_then ?_ | with_reducible refine q_then_ret ?_ | with_reducible refine q_block_ret ?_ | with_reducible refine awp_seq ?_ | with_reducible refine awp_ret ?_ | ((with_reducible refine w_region ?_ ?_); kernel_rfl))
      refine ret_v (by first | exact .inr rfl | exact .inl rfl) rfl rfl ?_
      rw [← hret (by decide)]
    have hE : keyE (L.take k) (prevL x.keys a) z = if hasP (L.take k) z = true then 4 else 0 := by unfold keyE; rw [if_neg d1, hpa, if_neg (by simpa [prevI] using d3)]
    rotate_left
    have e2 : decide ((a : Int) > 0) = false := by simp [a0]
    have hpa : prevL x.keys a = none := by unfold prevL; rw [if_pos a0]
    have hE : keyE (L.take k) (prevL x.keys a) z = if hasP (L.take k) z = true then 4 else 0 := by unfold keyE; rw [if_neg d1, hpa, if_neg (by simp [prevI])]
    all_goals
      rw [hE] at hret hg
      repeat (first | ((with_reducible refine k_assign ?_); refine m_assign rfl ?_) | ((with_reducible refine k_pick ?_); refine m_pickf rfl (by first | rfl | assumption) rfl ?_)  | refine e_nrm ?_ | refine x_none rfl ?_ | refine x_skip_t rfl rfl (by first | rfl | assumption) ?_ | with_reducible refine q_then ?_ | with_reducible refine awp_seq ?_ | with_reducible refine awp_block ?_ | with_reducible refine awp_skip ?_ | ((with_reducible refine w_region ?_ ?_); kernel_rfl) | refine w_cond_f rfl (by first | rfl | assumption) ?_)
      refine awp_loop (ι := Nat) (fun j => j ≤ k ∧ hasP ((L.take k).drop j) z = hasP (L.take k) z) (fun j => k - j) (fun v j => [(0, .sl 3 (L.map Sf.av)), (3, .v (.int .i64 k)), (4, .v (.int .i64 a)), (5, .v (.int .i64 z)), (6, .v (.int .i64 j))]) (fun v j => []) ?_ ?_
      · exact ⟨0, ⟨Nat.zero_le _, rfl⟩, trivial, ⟨rfl, rfl, rfl, rfl, rfl, trivial⟩, trivial⟩
      clear v
      rintro v j ⟨hj, hp⟩
      repeat (first | ((with_reducible refine k_move ?_); refine m_move rfl ?_) | ((with_reducible refine k_bin ?_); refine m_binI rfl rfl rfl ?_)  | refine e_nrm ?_ | refine x_none rfl ?_ | with_reducible refine q_then ?_ | with_reducible refine awp_seq ?_ | ((with_reducible refine w_region ?_ ?_); kernel_rfl))
      refine w_cond rfl (fun h => ?_) (fun h => ?_)
      rotate_left
      · have hge : j = k := by simp at h; omega
        rw [List.drop_of_length_le (by rw [List.length_take]; omega)] at hp
        have h0 : hasP (L.take k) z = false := by rw [← hp]; rfl
        rw [show (if hasP (L.take k) z = true then (4 : Int) else 0) = 0 by rw [h0]; rfl, if_neg (by decide)] at hg
        repeat (first | ((with_reducible refine k_move ?_); refine m_move rfl ?_) | ((with_reducible refine k_assign ?_); refine m_assign rfl ?_) | ((with_reducible refine k_bin ?_); refine x_add_in rfl rfl (by omega) ?_)  | refine e_nrm ?_ | refine x_none rfl ?_ | with_reducible refine q_then ?_ | with_reducible refine q_then_exit ?_ | with_reducible refine q_block ?_ | with_reducible refine awp_exit ?_ | ((with_reducible refine q_block_exit ?_ ?_); rfl) | ((with_reducible refine w_region ?_ ?_); kernel_rfl))
        exact ⟨a + 1, ⟨by omega, by rw [prevL_next hz]; exact hg⟩, by omega, ⟨rfl, rfl, rfl, trivial⟩, trivial⟩
      have hltj : j < k := by simp at h; omega
      obtain ⟨p, hpx⟩ := some_at (L := L) (k := j) (by omega)
      have hpt : (L.take k)[j]? = some p := by rw [List.getElem?_take, if_pos hltj]; exact hpx
      have hpy := sf_at hpx
      obtain ⟨hp9, -, -⟩ := hm p (List.mem_of_getElem? hpx)
      unfold hasP at hp
      rw [drop_at hpt, List.any_cons] at hp
      repeat (first | ((with_reducible refine k_move ?_); refine m_move rfl ?_) | ((with_reducible refine k_fieldAddr ?_); refine x_fieldAddr_ep tbOk rfl rfl rfl rfl ?_) | ((with_reducible refine k_load ?_); refine x_load_ep_one tbOk rfl rfl rfl ?_) | ((with_reducible refine k_indexAddr ?_); refine x_indexAddr_n tbOk rfl rfl rfl rfl (by assumption) ?_)  | refine x_none rfl ?_ | with_reducible refine q_then ?_ | with_reducible refine awp_seq ?_ | with_reducible refine awp_block ?_ | with_reducible refine awp_skip ?_ | ((with_reducible refine w_region ?_ ?_); kernel_rfl))
      refine x_call0 (rhasI_A p.keys z hp9) (by repeat' (first | exact trivial | exact Ren.v _ | exact Ren.sl _ _ | exact Ren.ep _ | exact Ren.ptr _ _ _ _ rfl | exact Ren.nil _ | exact Ren.own _ _ _ _ ⟨_, rfl⟩ | refine ren_ag ?_ | refine ren_tu ?_ | refine ren_fn ?_ | refine ⟨?_, ?_⟩)) (by repeat' (first | exact trivial | exact RenB.v _ | exact RenB.sl _ _ | exact RenB.ep _ | exact RenB.ptr _ _ _ _ rfl | refine renb_ag ?_ | refine renb_tu ?_ | refine ⟨?_, ?_⟩)) ?_
      repeat (first   | refine e_nrm ?_ | with_reducible refine q_then ?_ )
      refine w_cond rfl (fun h => ?_) (fun h => ?_)
      · rw [h, Bool.true_or] at hp
        rw [show (if hasP (L.take k) z = true then (4 : Int) else 0) = 4 by rw [if_pos (show hasP (L.take k) z = true from hp.symm)]] at hret
        repeat (first | ((with_reducible refine k_assign ?_); refine m_assign rfl ?_)  | refine e_nrm ?_ | refine x_none rfl ?_ | with_reducible refine q_then ?_ | with_reducible refine q_then_ret ?_ | with_reducible refine q_block_ret ?_ | with_reducible refine awp_seq ?_ | with_reducible refine awp_ret ?_ | ((with_reducible refine w_region ?_ ?_); kernel_rfl))
        refine ret_v (by first | exact .inr rfl | exact .inl rfl) rfl rfl ?_
        rw [← hret (by decide)]
      · rw [h, Bool.false_or] at hp
        repeat (first | ((with_reducible refine k_move ?_); refine m_move rfl ?_) | ((with_reducible refine k_assign ?_); refine m_assign rfl ?_) | ((with_reducible refine k_bin ?_); refine x_add_in rfl rfl (by omega) ?_)  | refine e_nrm ?_ | refine x_none rfl ?_ | with_reducible refine q_then ?_ | with_reducible refine q_block ?_ | with_reducible refine awp_skip ?_ | ((with_reducible refine w_region ?_ ?_); kernel_rfl))
        exact ⟨j + 1, ⟨by omega, hp⟩, by omega, ⟨rfl, rfl, rfl, rfl, rfl, trivial⟩, trivial⟩
end Go.Proofs.YtlmkloghbgglkaaDoor
