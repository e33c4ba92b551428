/- calendar.Shift, its reference, and awake of permitofficelaw02, by the abstract machine; conditions: the table of powers stands. -/
import Derived.Test.YtdejgacclogaiaaDoorCdD
set_option linter.unusedVariables false
set_option linter.unusedSimpArgs false
namespace Go.Proofs.YtdejgacclogaiaaDoor
open Go Go.RowKit
set_option maxRecDepth 10000
variable {G : Nat → Option (List Value)}
theorem sameInt (a b : Int) : Instr.sameNow (.int .i64) (.int .i64 a) (.int .i64 b) = some (a == b) := by simp [Instr.sameNow]
theorem findL_int (h : Int) (f : Int → Value) : ∀ (l : List Int), findL (.int .i64) (.int .i64 h) (l.map fun j => (.int .i64 j, f j)) = some (if h ∈ l then some (f h) else none)
  | [] => by simp [findL]
  | j :: l => by
    rw [List.map_cons, findL]
    simp only [sameInt]
    by_cases e : h = j
    · subst e
      simp
    · have : (h == j) = false := by simpa using e
      rw [this]
      simp only
      rw [findL_int h f l]
      simp [e]
theorem zIntE (w : World) : (zeroValue 3).run Tryd.prog w = .ok (.int .i64 0) w := by kernel_rfl
set_option maxHeartbeats 1000000 in
theorem lengths_A : ACallsM Tryd.prog G 40 [] (lenL 24) := by
  refine acallsm_of tbOk (enter_of Tryd.func40 (by kernel_rfl) rfl) Tryd.func40 rfl _ Tryd.ntmps40 (Nat.le_of_ble_eq_true rfl) fun X hX => ?_
  subst hX
  repeat (first | ((with_reducible refine k_assign ?_); refine m_assign rfl ?_)  | refine e_nrm ?_ | refine x_none rfl ?_ | with_reducible refine q_then ?_ | with_reducible refine awp_seq ?_ | ((with_reducible refine w_region ?_ ?_); kernel_rfl))
  refine x_makeMap rfl ?_
  repeat (first | ((with_reducible refine k_assign ?_); refine m_assign rfl ?_)  | refine e_nrm ?_ | refine x_none rfl ?_ | with_reducible refine q_then ?_ | with_reducible refine awp_seq ?_ | with_reducible refine awp_block ?_ | ((with_reducible refine w_region ?_ ?_); kernel_rfl))
  refine awp_loop (ι := Nat) (fun k => k ≤ 24) (fun k => 24 - k) (fun v k => [(1, .own 3 (v 3)), (2, .v (.int .i64 ((k : Int) + 1)))]) (fun v k => [(3, .mp (lenL k))]) ?_ ?_
  · exact ⟨0, by omega, trivial, ⟨rfl, rfl, trivial⟩, ⟨rfl, trivial⟩⟩
  rintro v k hk
  repeat (first | ((with_reducible refine k_move ?_); refine m_move rfl ?_) | ((with_reducible refine k_bin ?_); refine m_binI rfl rfl rfl ?_)  | refine e_nrm ?_ | refine x_none rfl ?_ | with_reducible refine q_then ?_ | with_reducible refine awp_seq ?_ | ((with_reducible refine w_region ?_ ?_); kernel_rfl))
  refine w_cond rfl (fun h => ?_) (fun h => ?_)
  · have hlt : k < 24 := by simp at h; omega
    repeat (first | ((with_reducible refine k_move ?_); refine m_move rfl ?_) | ((with_reducible refine k_bin ?_); refine m_binI rfl rfl rfl ?_) | ((with_reducible refine k_bin ?_); refine x_rem rfl rfl (by first | decide | assumption | omega) ?_)  | refine e_nrm ?_ | refine x_none rfl ?_ | with_reducible refine q_then ?_ | with_reducible refine awp_seq ?_ | with_reducible refine awp_block ?_ | with_reducible refine awp_skip ?_ | ((with_reducible refine w_region ?_ ?_); kernel_rfl))
    refine w_cond rfl (fun hd => ?_) (fun hd => ?_)
    · have hd2 : (24 : Int).tmod ((k : Int) + 1) = 0 := by simpa using hd
      have hw : IntKind.i64.wrap (60 * ((k : Int) + 1)) = 60 * ((k : Int) + 1) := wrap_i64_in (by omega)
      repeat (first | ((with_reducible refine k_move ?_); refine m_move rfl ?_) | ((with_reducible refine k_bin ?_); refine m_binI rfl rfl rfl ?_)  | refine x_none rfl ?_  | ((with_reducible refine w_region ?_ ?_); kernel_rfl))
      rw [hw]
      refine x_mapPush Tryd.underlying62 Tryd.underlying3 (by simp [MapKept.IsKey]) rfl rfl rfl rfl rfl ((findL_int _ _ _).trans (congrArg some (if_neg (fun hm => by
        have := (goodL_mem k _).1 hm
        omega)))) ?_
      repeat (first | ((with_reducible refine k_move ?_); refine m_move rfl ?_) | ((with_reducible refine k_assign ?_); refine m_assign rfl ?_) | ((with_reducible refine k_bin ?_); refine x_add_in rfl rfl (by omega) ?_)  | refine e_nrm ?_ | refine x_none rfl ?_ | with_reducible refine q_then ?_ | with_reducible refine q_block ?_ | ((with_reducible refine w_region ?_ ?_); kernel_rfl))
      refine ⟨k + 1, by omega, by omega, ⟨rfl, rfl, trivial⟩, ⟨?_, trivial⟩⟩
      refine hc_mp ?_
      unfold lenL
      rw [goodL, if_pos hd2, List.map_append]
      rfl
    · have hd2 : ¬ (24 : Int).tmod ((k : Int) + 1) = 0 := by simpa using hd
      repeat (first | ((with_reducible refine k_move ?_); refine m_move rfl ?_) | ((with_reducible refine k_assign ?_); refine m_assign rfl ?_) | ((with_reducible refine k_bin ?_); refine x_add_in rfl rfl (by omega) ?_)  | refine e_nrm ?_ | refine x_none rfl ?_ | with_reducible refine q_then ?_ | with_reducible refine q_block ?_ | with_reducible refine awp_skip ?_ | ((with_reducible refine w_region ?_ ?_); kernel_rfl))
      refine ⟨k + 1, by omega, by omega, ⟨rfl, rfl, trivial⟩, ⟨?_, trivial⟩⟩
      refine hc_mp ?_
      unfold lenL
      rw [goodL, if_neg hd2]
  · obtain rfl : k = 24 := by simp at h; omega
    repeat (first | ((with_reducible refine k_move ?_); refine m_move rfl ?_) | ((with_reducible refine k_assign ?_); refine m_assign rfl ?_)  | refine e_nrm ?_ | refine x_none rfl ?_ | with_reducible refine q_then ?_ | with_reducible refine q_then_exit ?_ | with_reducible refine awp_seq ?_ | with_reducible refine awp_exit ?_ | with_reducible refine awp_ret ?_ | ((with_reducible refine q_block_exit ?_ ?_); rfl) | ((with_reducible refine w_region ?_ ?_); kernel_rfl))
    exact ⟨(by first | exact .inr rfl | exact .inl rfl), 3, _, ⟨.tmp 0, trivial⟩, rfl⟩
set_option maxHeartbeats 1000000 in
theorem shift_A (t h : Int) : ACalls Tryd.prog G 17 [.v (.int .i64 t), .v (.int .i64 h)] [] (.tu [.v (.int .i64 (shiftP t h).1), .v (.int .i64 (shiftP t h).2)]) [] := by
  refine acalls_of tbOk (enter_of Tryd.func17 (by kernel_rfl) rfl) Tryd.func17 rfl _ Tryd.ntmps17 (Nat.le_of_ble_eq_true rfl) fun X hX => ?_
  subst hX
  repeat (first | ((with_reducible refine k_move ?_); refine m_move rfl ?_) | ((with_reducible refine k_assign ?_); refine m_assign rfl ?_)  | refine e_nrm ?_ | refine x_none rfl ?_ | with_reducible refine q_then ?_ | with_reducible refine awp_seq ?_ | ((with_reducible refine w_region ?_ ?_); kernel_rfl))
  refine x_call0 (time_A t) (by repeat' (first | exact trivial | exact Ren.v _ | exact Ren.sl _ _ | exact Ren.ep _ | exact Ren.ptr _ _ _ _ rfl | exact Ren.bs _ _ _ _ _ rfl | exact Ren.nil _ | exact Ren.own _ _ _ _ ⟨_, rfl⟩ | refine ren_ag ?_ | refine ren_tu ?_ | refine ren_fn ?_ | refine ⟨?_, ?_⟩)) (by repeat' (first | exact trivial | exact RenB.v _ | exact RenB.sl _ _ | exact RenB.ep _ | exact RenB.ptr _ _ _ _ rfl | refine renb_ag ?_ | refine renb_tu ?_ | refine ⟨?_, ?_⟩)) ?_
  repeat (first | ((with_reducible refine k_un ?_); refine x_not rfl ?_)  | refine e_nrm ?_ | refine x_none rfl ?_ | with_reducible refine q_then ?_ )
  refine w_cond rfl (fun hc => ?_) (fun hc => ?_)
  · rw [shiftP_bad (not_t hc)]
    repeat (first | ((with_reducible refine k_assign ?_); refine m_assign rfl ?_)  | refine e_nrm ?_ | refine x_none rfl ?_ | with_reducible refine q_then ?_ | with_reducible refine q_then_ret ?_ | with_reducible refine awp_seq ?_ | with_reducible refine awp_ret ?_ | ((with_reducible refine w_region ?_ ?_); kernel_rfl))
    refine ret0_2 (by first | exact .inr rfl | exact .inl rfl) rfl rfl rfl ?_
    repeat' (first | exact trivial | exact Ren.v _ | exact Ren.sl _ _ | exact Ren.ep _ | exact Ren.ptr _ _ _ _ rfl | exact Ren.bs _ _ _ _ _ rfl | exact Ren.nil _ | exact Ren.own _ _ _ _ ⟨_, rfl⟩ | refine ren_ag ?_ | refine ren_tu ?_ | refine ren_fn ?_ | refine ⟨?_, ?_⟩)
  · have ht := not_f hc
    have hb := timeB_iff.1 ht
    repeat (first   | refine x_none rfl ?_ | with_reducible refine q_then ?_ | with_reducible refine awp_seq ?_ | with_reducible refine awp_skip ?_ | ((with_reducible refine w_region ?_ ?_); kernel_rfl))
    refine x_call_map lengths_A (by repeat' (first | exact trivial | exact Ren.v _ | exact Ren.sl _ _ | exact Ren.ep _ | exact Ren.ptr _ _ _ _ rfl | exact Ren.bs _ _ _ _ _ rfl | exact Ren.nil _ | exact Ren.own _ _ _ _ ⟨_, rfl⟩ | refine ren_ag ?_ | refine ren_tu ?_ | refine ren_fn ?_ | refine ⟨?_, ?_⟩)) rfl ?_
    repeat (first | ((with_reducible refine k_move ?_); refine m_move rfl ?_)  | refine x_none rfl ?_  )
    refine x_lookup_ok Tryd.underlying62 Tryd.underlying3 (by simp [MapKept.IsKey]) zIntE rfl rfl rfl rfl (findL_int h _ (goodL 24)) (.v (.int .i64 (if h ∈ goodL 24 then 60 * h else 0))) (by split <;> rfl) ?_
    cases hg : goodH h with
    | false =>
      have hn : ¬ h ∈ goodL 24 := fun e => by rw [goodL_24, hg] at e; cases e
      rw [if_neg hn, if_neg hn, shiftP_hours ht hg]
      repeat (first | ((with_reducible refine k_move ?_); refine m_move rfl ?_) | ((with_reducible refine k_assign ?_); refine m_assign rfl ?_) | ((with_reducible refine k_un ?_); refine x_not rfl ?_) | ((with_reducible refine k_extract ?_); refine x_extract rfl rfl ?_)  | refine e_nrm ?_ | refine x_none rfl ?_ | with_reducible refine q_then ?_ | with_reducible refine q_then_ret ?_ | with_reducible refine awp_seq ?_ | with_reducible refine awp_ret ?_ | ((with_reducible refine w_region ?_ ?_); kernel_rfl) | refine w_cond_t rfl (by first | rfl | assumption) ?_)
      refine ret0_2 (by first | exact .inr rfl | exact .inl rfl) rfl rfl rfl ?_
      repeat' (first | exact trivial | exact Ren.v _ | exact Ren.sl _ _ | exact Ren.ep _ | exact Ren.ptr _ _ _ _ rfl | exact Ren.bs _ _ _ _ _ rfl | exact Ren.nil _ | exact Ren.own _ _ _ _ ⟨_, rfl⟩ | refine ren_ag ?_ | refine ren_tu ?_ | refine ren_fn ?_ | refine ⟨?_, ?_⟩)
    | true =>
      have hn : h ∈ goodL 24 := (goodL_24 h).2 hg
      obtain ⟨g1, g2⟩ := goodH_rng hg
      have hq := fdiv_neg (a := t - 360) (n := 60 * h) (by omega)
      have hq2 : 0 ≤ t - 360 → (t - 360).tdiv (60 * h) = (t - 360) / (60 * h) := fun e => Int.tdiv_eq_ediv_of_nonneg e
      have hq3 : 0 ≤ 60 * h - 1 - (t - 360) → (60 * h - 1 - (t - 360)).tdiv (60 * h) = (60 * h - 1 - (t - 360)) / (60 * h) := fun e => Int.tdiv_eq_ediv_of_nonneg e
      have r1 : 0 ≤ t - 360 → 0 ≤ (t - 360) / (60 * h) ∧ (t - 360) / (60 * h) ≤ t - 360 := fun e => ⟨Int.ediv_nonneg e (by omega), Int.ediv_le_self _ e⟩
      have r2 : 0 ≤ 60 * h - 1 - (t - 360) → 0 ≤ (60 * h - 1 - (t - 360)) / (60 * h) ∧ (60 * h - 1 - (t - 360)) / (60 * h) ≤ 60 * h - 1 - (t - 360) := fun e => ⟨Int.ediv_nonneg e (by omega), Int.ediv_le_self _ e⟩
      rw [if_pos hn, if_pos hn, shiftP_ok ht hg]
      have hn0 : 60 * h ≠ 0 := by omega
      repeat (first | ((with_reducible refine k_move ?_); refine m_move rfl ?_) | ((with_reducible refine k_assign ?_); refine m_assign rfl ?_) | ((with_reducible refine k_un ?_); refine x_not rfl ?_) | ((with_reducible refine k_extract ?_); refine x_extract rfl rfl ?_) | ((with_reducible refine k_bin ?_); refine x_sub_in rfl rfl (by omega) ?_) | ((with_reducible refine k_bin ?_); refine m_binI rfl rfl rfl ?_)  | refine e_nrm ?_ | refine x_none rfl ?_ | with_reducible refine q_then ?_ | with_reducible refine awp_seq ?_ | with_reducible refine awp_skip ?_ | ((with_reducible refine w_region ?_ ?_); kernel_rfl) | refine w_cond_f rfl (by first | rfl | assumption) ?_)
      refine w_cond rfl (fun hc => ?_) (fun hc => ?_)
      · have hneg : t - 360 < 0 := by simpa using hc
        have hv : IntKind.i64.wrap (0 - IntKind.i64.wrap ((60 * h - 1 - (t - 360)).tdiv (60 * h))) = (t - 360) / (60 * h) := by
          have := r2 (by omega)
          have hi : IntKind.i64.wrap ((60 * h - 1 - (t - 360)) / (60 * h)) = (60 * h - 1 - (t - 360)) / (60 * h) := wrap_i64_in (by omega)
          rw [hq3 (by omega), hi, wrap_i64_in (by omega), ← hq hneg]
          omega
        rw [← hv]
        repeat (first | ((with_reducible refine k_move ?_); refine m_move rfl ?_) | ((with_reducible refine k_assign ?_); refine m_assign rfl ?_) | ((with_reducible refine k_un ?_); refine x_neg rfl ?_) | ((with_reducible refine k_bin ?_); refine x_sub_in rfl rfl (by omega) ?_) | ((with_reducible refine k_bin ?_); refine x_quo rfl rfl (by first | decide | assumption | omega) ?_)  | refine e_nrm ?_ | refine x_none rfl ?_ | with_reducible refine q_then ?_ | with_reducible refine q_then_ret ?_ | with_reducible refine awp_seq ?_ | with_reducible refine awp_ret ?_ | ((with_reducible refine w_region ?_ ?_); kernel_rfl))
        refine ret0_2 (by first | exact .inr rfl | exact .inl rfl) rfl rfl rfl ?_
        repeat' (first | exact trivial | exact Ren.v _ | exact Ren.sl _ _ | exact Ren.ep _ | exact Ren.ptr _ _ _ _ rfl | exact Ren.bs _ _ _ _ _ rfl | exact Ren.nil _ | exact Ren.own _ _ _ _ ⟨_, rfl⟩ | refine ren_ag ?_ | refine ren_tu ?_ | refine ren_fn ?_ | refine ⟨?_, ?_⟩)
      · have hpos : 0 ≤ t - 360 := by simp at hc; omega
        have hv : IntKind.i64.wrap ((t - 360).tdiv (60 * h)) = (t - 360) / (60 * h) := by
          have := r1 hpos
          rw [hq2 hpos, wrap_i64_in (by omega)]
        rw [← hv]
        repeat (first | ((with_reducible refine k_move ?_); refine m_move rfl ?_) | ((with_reducible refine k_assign ?_); refine m_assign rfl ?_) | ((with_reducible refine k_bin ?_); refine x_quo rfl rfl (by first | decide | assumption | omega) ?_)  | refine e_nrm ?_ | refine x_none rfl ?_ | with_reducible refine q_then ?_ | with_reducible refine awp_seq ?_ | with_reducible refine awp_skip ?_ | with_reducible refine awp_ret ?_ | ((with_reducible refine w_region ?_ ?_); kernel_rfl))
        refine ret0_2 (by first | exact .inr rfl | exact .inl rfl) rfl rfl rfl ?_
        repeat' (first | exact trivial | exact Ren.v _ | exact Ren.sl _ _ | exact Ren.ep _ | exact Ren.ptr _ _ _ _ rfl | exact Ren.bs _ _ _ _ _ rfl | exact Ren.nil _ | exact Ren.own _ _ _ _ ⟨_, rfl⟩ | refine ren_ag ?_ | refine ren_tu ?_ | refine ren_fn ?_ | refine ⟨?_, ?_⟩)
theorem shift_lt {t L q : Int} (hL : 0 < L) : t < 360 + L * q ↔ (t - 360) / L < q := by
  rw [Int.ediv_lt_iff_lt_mul hL, Int.mul_comm q L]
  omega
theorem mul_rng {L q : Int} (h1 : 0 ≤ L) (h2 : L ≤ 1440) (q1 : -20000000 ≤ q) (q2 : q ≤ 20000000) : -28800000000 ≤ L * q ∧ L * q ≤ 28800000000 := by
  rcases Int.le_total 0 q with hq | hq
  · have a1 := Int.mul_le_mul h2 q2 hq (by omega)
    have a2 := Int.mul_nonneg h1 hq
    omega
  · have a1 := Int.mul_le_mul h2 (show -q ≤ 20000000 by omega) (by omega) (by omega)
    have a2 := Int.mul_nonneg h1 (show 0 ≤ -q by omega)
    rw [Int.mul_neg] at a1 a2
    omega
set_option maxHeartbeats 1000000 in
theorem rshift_A (t h : Int) : ACalls Tryd.prog G 18 [.v (.int .i64 t), .v (.int .i64 h)] [] (.tu [.v (.int .i64 (shiftP t h).1), .v (.int .i64 (shiftP t h).2)]) [] := by
  refine acalls_of tbOk (enter_of Tryd.func18 (by kernel_rfl) rfl) Tryd.func18 rfl _ Tryd.ntmps18 (Nat.le_of_ble_eq_true rfl) fun X hX => ?_
  subst hX
  repeat (first | ((with_reducible refine k_move ?_); refine m_move rfl ?_) | ((with_reducible refine k_assign ?_); refine m_assign rfl ?_)  | refine e_nrm ?_ | refine x_none rfl ?_ | with_reducible refine q_then ?_ | with_reducible refine awp_seq ?_ | ((with_reducible refine w_region ?_ ?_); kernel_rfl))
  refine x_call0 (rtime_A t) (by repeat' (first | exact trivial | exact Ren.v _ | exact Ren.sl _ _ | exact Ren.ep _ | exact Ren.ptr _ _ _ _ rfl | exact Ren.bs _ _ _ _ _ rfl | exact Ren.nil _ | exact Ren.own _ _ _ _ ⟨_, rfl⟩ | refine ren_ag ?_ | refine ren_tu ?_ | refine ren_fn ?_ | refine ⟨?_, ?_⟩)) (by repeat' (first | exact trivial | exact RenB.v _ | exact RenB.sl _ _ | exact RenB.ep _ | exact RenB.ptr _ _ _ _ rfl | refine renb_ag ?_ | refine renb_tu ?_ | refine ⟨?_, ?_⟩)) ?_
  repeat (first | ((with_reducible refine k_un ?_); refine x_not rfl ?_)  | refine e_nrm ?_ | refine x_none rfl ?_ | with_reducible refine q_then ?_ )
  refine w_cond rfl (fun hc => ?_) (fun hc => ?_)
  · rw [shiftP_bad (not_t hc)]
    repeat (first | ((with_reducible refine k_assign ?_); refine m_assign rfl ?_)  | refine e_nrm ?_ | refine x_none rfl ?_ | with_reducible refine q_then ?_ | with_reducible refine q_then_ret ?_ | with_reducible refine awp_seq ?_ | with_reducible refine awp_ret ?_ | ((with_reducible refine w_region ?_ ?_); kernel_rfl))
    refine ret0_2 (by first | exact .inr rfl | exact .inl rfl) rfl rfl rfl ?_
    repeat' (first | exact trivial | exact Ren.v _ | exact Ren.sl _ _ | exact Ren.ep _ | exact Ren.ptr _ _ _ _ rfl | exact Ren.bs _ _ _ _ _ rfl | exact Ren.nil _ | exact Ren.own _ _ _ _ ⟨_, rfl⟩ | refine ren_ag ?_ | refine ren_tu ?_ | refine ren_fn ?_ | refine ⟨?_, ?_⟩)
  have ht := not_f hc
  have hb := timeB_iff.1 ht
  by_cases hlo : h < 1
  · have p1 : decide (h < 1) = true := by simpa using hlo
    rw [shiftP_hours ht (goodH_bad (.inl hlo))]
    repeat (first | ((with_reducible refine k_move ?_); refine m_move rfl ?_) | ((with_reducible refine k_assign ?_); refine m_assign rfl ?_) | ((with_reducible refine k_pick ?_); refine m_pickt rfl (by first | rfl | assumption) rfl ?_) | ((with_reducible refine k_bin ?_); refine m_binI rfl rfl rfl ?_)  | refine e_nrm ?_ | refine x_none rfl ?_ | refine x_skip_f rfl rfl (by first | rfl | assumption) ?_ | with_reducible refine q_then ?_ | with_reducible refine q_then_ret ?_ | with_reducible refine awp_seq ?_ | with_reducible refine awp_skip ?_ | with_reducible refine awp_ret ?_ | ((with_reducible refine w_region ?_ ?_); kernel_rfl) | refine w_cond_t rfl (by first | rfl | assumption) ?_)
    refine ret0_2 (by first | exact .inr rfl | exact .inl rfl) rfl rfl rfl ?_
    repeat' (first | exact trivial | exact Ren.v _ | exact Ren.sl _ _ | exact Ren.ep _ | exact Ren.ptr _ _ _ _ rfl | exact Ren.bs _ _ _ _ _ rfl | exact Ren.nil _ | exact Ren.own _ _ _ _ ⟨_, rfl⟩ | refine ren_ag ?_ | refine ren_tu ?_ | refine ren_fn ?_ | refine ⟨?_, ?_⟩)
  have p1 : decide (h < 1) = false := by simpa using hlo
  by_cases hhi : 24 < h
  · have p2 : decide (h > 24) = true := by simpa using hhi
    rw [shiftP_hours ht (goodH_bad (.inr hhi))]
    repeat (first | ((with_reducible refine k_move ?_); refine m_move rfl ?_) | ((with_reducible refine k_assign ?_); refine m_assign rfl ?_) | ((with_reducible refine k_pick ?_); refine m_pickt rfl (by first | rfl | assumption) rfl ?_) | ((with_reducible refine k_pick ?_); refine m_pickf rfl (by first | rfl | assumption) rfl ?_) | ((with_reducible refine k_bin ?_); refine m_binI rfl rfl rfl ?_)  | refine e_nrm ?_ | refine x_none rfl ?_ | refine x_run_f rfl rfl (by first | rfl | assumption) ?_ | refine x_skip_f rfl rfl (by first | rfl | assumption) ?_ | with_reducible refine q_then ?_ | with_reducible refine q_then_ret ?_ | with_reducible refine awp_seq ?_ | with_reducible refine awp_skip ?_ | with_reducible refine awp_ret ?_ | ((with_reducible refine w_region ?_ ?_); kernel_rfl) | refine w_cond_t rfl (by first | rfl | assumption) ?_)
    refine ret0_2 (by first | exact .inr rfl | exact .inl rfl) rfl rfl rfl ?_
    repeat' (first | exact trivial | exact Ren.v _ | exact Ren.sl _ _ | exact Ren.ep _ | exact Ren.ptr _ _ _ _ rfl | exact Ren.bs _ _ _ _ _ rfl | exact Ren.nil _ | exact Ren.own _ _ _ _ ⟨_, rfl⟩ | refine ren_ag ?_ | refine ren_tu ?_ | refine ren_fn ?_ | refine ⟨?_, ?_⟩)
  have p2 : decide (h > 24) = false := by simpa using hhi
  have hn0 : h ≠ 0 := by omega
  by_cases hmod : (24 : Int).tmod h = 0
  · have p3 : ((24 : Int).tmod h != 0) = false := by simpa using hmod
    have hg := (goodH_mod (by omega) (by omega)).2 hmod
    rw [shiftP_ok ht hg]
    have hL : IntKind.i64.wrap (60 * h) = 60 * h := wrap_i64_in (by omega)
    have hL1 : 0 < 60 * h := by omega
    have hL2 : 60 * h ≤ 1440 := by omega
    have hL0 : 60 * h ≠ 0 := by omega
    have hlt := fun q => shift_lt (t := t) (q := q) hL1
    have hr := fun q => mul_rng (L := 60 * h) (q := q) (by omega) hL2
    have hq1 : -360 ≤ (t - 360) / (60 * h) := by rw [Int.le_ediv_iff_mul_le hL1]; omega
    have hq2 : 0 ≤ t - 360 → (t - 360) / (60 * h) ≤ t - 360 := fun e => Int.ediv_le_self _ e
    have hq3 : t - 360 < 0 → (t - 360) / (60 * h) < 0 := fun e => Int.ediv_neg_of_neg_of_pos e hL1
    have hqd : 0 ≤ t - 360 → (t - 360).tdiv (60 * h) = (t - 360) / (60 * h) := fun e => Int.tdiv_eq_ediv_of_nonneg e
    generalize (t - 360) / (60 * h) = Q at hlt hq1 hq2 hq3 hqd
    have hQ : Q ≤ 16777216 := by
      rcases Int.lt_or_le (t - 360) 0 with e | e
      · have := hq3 e; omega
      · have := hq2 e; omega
    repeat (first | ((with_reducible refine k_move ?_); refine m_move rfl ?_) | ((with_reducible refine k_assign ?_); refine m_assign rfl ?_) | ((with_reducible refine k_pick ?_); refine m_pickf rfl (by first | rfl | assumption) rfl ?_) | ((with_reducible refine k_bin ?_); refine m_binI rfl rfl rfl ?_) | ((with_reducible refine k_bin ?_); refine x_rem rfl rfl (by first | decide | assumption | omega) ?_)  | refine e_nrm ?_ | refine x_none rfl ?_ | refine x_run_f rfl rfl (by first | rfl | assumption) ?_ | with_reducible refine q_then ?_ | with_reducible refine awp_seq ?_ | with_reducible refine awp_block ?_ | with_reducible refine awp_skip ?_ | ((with_reducible refine w_region ?_ ?_); kernel_rfl) | refine w_cond_f rfl (by first | rfl | assumption) ?_)
    refine awp_loop (ι := Int) (fun n => 0 ≤ n ∧ (n = 0 ∨ n ≤ Q)) (fun n => (Q - n).toNat) (fun v n => [(0, .v (.int .i64 t)), (1, .v (.int .i64 h)), (6, .v (.int .i64 n))]) (fun v n => []) ?_ ?_
    · exact ⟨0, ⟨by omega, .inl rfl⟩, trivial, ⟨rfl, rfl, rfl, trivial⟩, trivial⟩
    · rintro v n ⟨hn1, hn2⟩
      have hr1 := hr (n + 1) (by omega) (by omega)
      have hw : IntKind.i64.wrap (60 * h * (n + 1)) = 60 * h * (n + 1) := wrap_i64_in (by omega)
      have hl1 := hlt (n + 1)
      have hw3 : IntKind.i64.wrap (360 + 60 * h * (n + 1)) = 360 + 60 * h * (n + 1) := wrap_i64_in (by omega)
      repeat (first | ((with_reducible refine k_move ?_); refine m_move rfl ?_) | ((with_reducible refine k_bin ?_); refine x_add_in rfl rfl (by omega) ?_) | ((with_reducible refine k_bin ?_); refine m_binI rfl rfl rfl ?_)  | refine e_nrm ?_ | refine x_none rfl ?_ | with_reducible refine q_then ?_ | with_reducible refine awp_seq ?_ | ((with_reducible refine w_region ?_ ?_); kernel_rfl))
      rw [hL, hw, hw3]
      refine w_cond rfl (fun hc => ?_) (fun hc => ?_)
      · have hge : n + 1 ≤ Q := by simp at hc; omega
        have hnn : 0 ≤ t - 360 := by
          rcases Int.lt_or_le (t - 360) 0 with e | e
          · have := hq3 e; omega
          · exact e
        have hw2 : IntKind.i64.wrap ((t - 360).tdiv (60 * h)) = Q := by rw [hqd hnn]; exact wrap_i64_in (by omega)
        repeat (first | ((with_reducible refine k_move ?_); refine m_move rfl ?_) | ((with_reducible refine k_assign ?_); refine m_assign rfl ?_) | ((with_reducible refine k_bin ?_); refine x_add_in rfl rfl (by omega) ?_) | ((with_reducible refine k_bin ?_); refine x_sub_in rfl rfl (by omega) ?_) | ((with_reducible refine k_bin ?_); refine m_binI rfl rfl rfl ?_) | ((with_reducible refine k_bin ?_); refine x_quo rfl rfl (by first | decide | assumption | omega) ?_)  | refine e_nrm ?_ | refine x_none rfl ?_ | with_reducible refine q_then ?_ | with_reducible refine awp_seq ?_ | with_reducible refine awp_block ?_ | with_reducible refine awp_skip ?_ | ((with_reducible refine w_region ?_ ?_); kernel_rfl))
        rw [hL, hw2]
        refine w_cond rfl (fun hd => ?_) (fun hd => ?_)
        · repeat (first | ((with_reducible refine k_move ?_); refine m_move rfl ?_) | ((with_reducible refine k_assign ?_); refine m_assign rfl ?_)  | refine e_nrm ?_ | refine x_none rfl ?_ | with_reducible refine q_then ?_ | with_reducible refine q_block ?_ | ((with_reducible refine w_region ?_ ?_); kernel_rfl))
          refine ⟨Q, ⟨by omega, .inr (by omega)⟩, by omega, ⟨rfl, rfl, rfl, trivial⟩, trivial⟩
        · repeat (first    | with_reducible refine q_then ?_ | with_reducible refine q_block ?_ | with_reducible refine awp_skip ?_ )
          refine ⟨n + 1, ⟨by omega, .inr hge⟩, by omega, ⟨rfl, rfl, rfl, trivial⟩, trivial⟩
      · have hge : Q ≤ n := by simp at hc; omega
        repeat (first    | with_reducible refine q_then ?_ | with_reducible refine q_then_exit ?_ | with_reducible refine awp_seq ?_ | with_reducible refine awp_block ?_ | with_reducible refine awp_exit ?_ | ((with_reducible refine q_block_exit ?_ ?_); rfl) )
        refine awp_loop (ι := Int) (fun m => Q ≤ m ∧ m ≤ n) (fun m => (m - Q).toNat) (fun v m => [(0, .v (.int .i64 t)), (1, .v (.int .i64 h)), (6, .v (.int .i64 m))]) (fun v m => []) ?_ ?_
        · exact ⟨n, ⟨hge, by omega⟩, trivial, ⟨rfl, rfl, rfl, trivial⟩, trivial⟩
        · rintro v m ⟨hm1, hm2⟩
          have hr1 := hr m (by omega) (by omega)
          have hw : IntKind.i64.wrap (60 * h * m) = 60 * h * m := wrap_i64_in (by omega)
          have hl1 := hlt m
          have hw3 : IntKind.i64.wrap (360 + 60 * h * m) = 360 + 60 * h * m := wrap_i64_in (by omega)
          repeat (first | ((with_reducible refine k_move ?_); refine m_move rfl ?_) | ((with_reducible refine k_bin ?_); refine m_binI rfl rfl rfl ?_)  | refine e_nrm ?_ | refine x_none rfl ?_ | with_reducible refine q_then ?_ | with_reducible refine awp_seq ?_ | ((with_reducible refine w_region ?_ ?_); kernel_rfl))
          rw [hL, hw, hw3]
          refine w_cond rfl (fun hc => ?_) (fun hc => ?_)
          · have hgt : Q < m := by simp at hc; omega
            repeat (first | ((with_reducible refine k_move ?_); refine m_move rfl ?_) | ((with_reducible refine k_assign ?_); refine m_assign rfl ?_) | ((with_reducible refine k_bin ?_); refine x_sub_in rfl rfl (by omega) ?_)  | refine e_nrm ?_ | refine x_none rfl ?_ | with_reducible refine q_then ?_ | with_reducible refine q_block ?_ | with_reducible refine awp_block ?_ | with_reducible refine awp_skip ?_ | ((with_reducible refine w_region ?_ ?_); kernel_rfl))
            refine ⟨m - 1, ⟨by omega, by omega⟩, by omega, ⟨rfl, rfl, rfl, trivial⟩, trivial⟩
          · obtain rfl : m = Q := by simp at hc; omega
            repeat (first | ((with_reducible refine k_move ?_); refine m_move rfl ?_) | ((with_reducible refine k_assign ?_); refine m_assign rfl ?_)  | refine e_nrm ?_ | refine x_none rfl ?_ | with_reducible refine q_then ?_ | with_reducible refine q_then_exit ?_ | with_reducible refine awp_seq ?_ | with_reducible refine awp_exit ?_ | with_reducible refine awp_ret ?_ | ((with_reducible refine q_block_exit ?_ ?_); rfl) | ((with_reducible refine w_region ?_ ?_); kernel_rfl))
            refine ret0_2 (by first | exact .inr rfl | exact .inl rfl) rfl rfl rfl ?_
            repeat' (first | exact trivial | exact Ren.v _ | exact Ren.sl _ _ | exact Ren.ep _ | exact Ren.ptr _ _ _ _ rfl | exact Ren.bs _ _ _ _ _ rfl | exact Ren.nil _ | exact Ren.own _ _ _ _ ⟨_, rfl⟩ | refine ren_ag ?_ | refine ren_tu ?_ | refine ren_fn ?_ | refine ⟨?_, ?_⟩)
  · have p3 : ((24 : Int).tmod h != 0) = true := by simpa using hmod
    have hg : goodH h = false := by
      cases hg : goodH h with
      | false => rfl
      | true => exact absurd ((goodH_mod (by omega) (by omega)).1 hg) hmod
    rw [shiftP_hours ht hg]
    repeat (first | ((with_reducible refine k_move ?_); refine m_move rfl ?_) | ((with_reducible refine k_assign ?_); refine m_assign rfl ?_) | ((with_reducible refine k_pick ?_); refine m_pickf rfl (by first | rfl | assumption) rfl ?_) | ((with_reducible refine k_bin ?_); refine m_binI rfl rfl rfl ?_) | ((with_reducible refine k_bin ?_); refine x_rem rfl rfl (by first | decide | assumption | omega) ?_)  | refine e_nrm ?_ | refine x_none rfl ?_ | refine x_run_f rfl rfl (by first | rfl | assumption) ?_ | with_reducible refine q_then ?_ | with_reducible refine q_then_ret ?_ | with_reducible refine awp_seq ?_ | with_reducible refine awp_skip ?_ | with_reducible refine awp_ret ?_ | ((with_reducible refine w_region ?_ ?_); kernel_rfl) | refine w_cond_t rfl (by first | rfl | assumption) ?_)
    refine ret0_2 (by first | exact .inr rfl | exact .inl rfl) rfl rfl rfl ?_
    repeat' (first | exact trivial | exact Ren.v _ | exact Ren.sl _ _ | exact Ren.ep _ | exact Ren.ptr _ _ _ _ rfl | exact Ren.bs _ _ _ _ _ rfl | exact Ren.nil _ | exact Ren.own _ _ _ _ ⟨_, rfl⟩ | refine ren_ag ?_ | refine ren_tu ?_ | refine ren_fn ?_ | refine ⟨?_, ?_⟩)
end Go.Proofs.YtdejgacclogaiaaDoor
