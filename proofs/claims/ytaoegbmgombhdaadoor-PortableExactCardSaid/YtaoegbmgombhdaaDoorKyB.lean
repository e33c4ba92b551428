/- slices.BinarySearchFunc at rows, keys.place and keys.Find, by the abstract machine; conditions: rows whose numbers ascend. -/
import Derived.Test.YtaoegbmgombhdaaDoorKyA
set_option linter.unusedVariables false
set_option linter.unusedSimpArgs false
namespace Go.Proofs.YtaoegbmgombhdaaDoor
open Go Go.RowKit
set_option maxRecDepth 10000
variable {G : Nat → Option (List Value)}
theorem nan_A (n : Int) : ACalls Tryd.prog G 88 [.v (.int .i64 n)] [] (.v (.bool false)) [] := by
  refine acalls_of tbOk (enter_of Tryd.func88 (by kernel_rfl) rfl) Tryd.func88 rfl _ Tryd.ntmps88 (Nat.le_of_ble_eq_true rfl) fun X hX => ?_
  subst hX
  repeat' (first | ((with_reducible refine k_move ?_); refine m_move rfl ?_) | ((with_reducible refine k_assign ?_); refine m_assign rfl ?_) | ((with_reducible refine k_bin ?_); refine m_binI rfl rfl rfl ?_)  | refine e_nrm ?_ | refine x_none rfl ?_ | with_reducible refine q_then ?_ | with_reducible refine awp_seq ?_ | with_reducible refine awp_ret ?_ | ((with_reducible refine w_region ?_ ?_); kernel_rfl) | refine x_split rfl rfl (fun _ => ?_) (fun _ => ?_) | refine w_cond rfl (fun _ => ?_) (fun _ => ?_))
  refine ret_v (by first | exact .inr rfl | exact .inl rfl) rfl rfl ?_
  simp
def cmpI (x y : Int) : Int := if x < y then -1 else if x > y then 1 else 0
theorem cmp_A (x y : Int) : ACalls Tryd.prog G 80 [.v (.int .i64 x), .v (.int .i64 y)] [] (.v (.int .i64 (cmpI x y))) [] := by
  refine acalls_of tbOk (enter_of Tryd.func80 (by kernel_rfl) rfl) Tryd.func80 rfl _ Tryd.ntmps80 (Nat.le_of_ble_eq_true rfl) fun X hX => ?_
  subst hX
  repeat (first | ((with_reducible refine k_move ?_); refine m_move rfl ?_) | ((with_reducible refine k_assign ?_); refine m_assign rfl ?_)  | refine e_nrm ?_ | refine x_none rfl ?_ | with_reducible refine q_then ?_ | with_reducible refine awp_seq ?_ | ((with_reducible refine w_region ?_ ?_); kernel_rfl))
  refine x_call0 (nan_A x) (by repeat' (first | exact trivial | exact Ren.v _ | exact Ren.sl _ _ | exact Ren.ep _ | exact Ren.ptr _ _ _ _ rfl | exact Ren.nil _ | exact Ren.own _ _ _ _ ⟨_, rfl⟩ | refine ren_ag ?_ | refine ren_tu ?_ | refine ren_fn ?_ | refine ⟨?_, ?_⟩)) (by repeat' (first | exact trivial | exact RenB.v _ | exact RenB.sl _ _ | exact RenB.ep _ | exact RenB.ptr _ _ _ _ rfl | refine renb_ag ?_ | refine renb_tu ?_ | refine ⟨?_, ?_⟩)) ?_
  repeat (first | ((with_reducible refine k_move ?_); refine m_move rfl ?_) | ((with_reducible refine k_assign ?_); refine m_assign rfl ?_)  | refine e_nrm ?_ | refine x_none rfl ?_ | with_reducible refine q_then ?_ | with_reducible refine awp_seq ?_ | ((with_reducible refine w_region ?_ ?_); kernel_rfl))
  refine x_call0 (nan_A y) (by repeat' (first | exact trivial | exact Ren.v _ | exact Ren.sl _ _ | exact Ren.ep _ | exact Ren.ptr _ _ _ _ rfl | exact Ren.nil _ | exact Ren.own _ _ _ _ ⟨_, rfl⟩ | refine ren_ag ?_ | refine ren_tu ?_ | refine ren_fn ?_ | refine ⟨?_, ?_⟩)) (by repeat' (first | exact trivial | exact RenB.v _ | exact RenB.sl _ _ | exact RenB.ep _ | exact RenB.ptr _ _ _ _ rfl | refine renb_ag ?_ | refine renb_tu ?_ | refine ⟨?_, ?_⟩)) ?_
  repeat' (first | ((with_reducible refine k_move ?_); refine m_move rfl ?_) | ((with_reducible refine k_assign ?_); refine m_assign rfl ?_) | ((with_reducible refine k_bin ?_); refine m_binI rfl rfl rfl ?_)  | refine e_nrm ?_ | refine x_none rfl ?_ | with_reducible refine q_then ?_ | with_reducible refine q_then_ret ?_ | with_reducible refine awp_seq ?_ | with_reducible refine awp_skip ?_ | with_reducible refine awp_ret ?_ | ((with_reducible refine w_region ?_ ?_); kernel_rfl) | refine w_cond_f rfl (by first | rfl | assumption) ?_ | refine x_split rfl rfl (fun _ => ?_) (fun _ => ?_) | refine w_cond rfl (fun _ => ?_) (fun _ => ?_))
  all_goals refine ret_v (by first | exact .inr rfl | exact .inl rfl) rfl rfl ?_
  all_goals simp_all [cmpI]
  all_goals omega
theorem pl1_A (r : Rw) (n : Int) : ACalls Tryd.prog G 79 [r.av, .v (.int .i64 n)] [] (.v (.int .i64 (cmpI r.num n))) [] := by
  refine acalls_of tbOk (enter_of Tryd.func79 (by kernel_rfl) rfl) Tryd.func79 rfl _ Tryd.ntmps79 (Nat.le_of_ble_eq_true rfl) fun X hX => ?_
  subst hX
  repeat (first | ((with_reducible refine k_move ?_); refine m_move rfl ?_) | ((with_reducible refine k_assign ?_); refine m_assign rfl ?_) | ((with_reducible refine k_fieldAddr ?_); refine x_fieldAddr_ptr tbOk rfl rfl rfl rfl ?_) | ((with_reducible refine k_load ?_); refine x_load_one tbOk rfl rfl rfl rfl rfl ?_) | ((with_reducible refine k_box ?_); refine m_box rfl rfl rfl ?_)  | refine e_nrm ?_ | refine x_none rfl ?_ | with_reducible refine q_then ?_ | with_reducible refine awp_seq ?_ | ((with_reducible refine w_region ?_ ?_); kernel_rfl))
  refine x_call0 (cmp_A r.num n) (by repeat' (first | exact trivial | exact Ren.v _ | exact Ren.sl _ _ | exact Ren.ep _ | exact Ren.ptr _ _ _ _ rfl | exact Ren.nil _ | exact Ren.own _ _ _ _ ⟨_, rfl⟩ | refine ren_ag ?_ | refine ren_tu ?_ | refine ren_fn ?_ | refine ⟨?_, ?_⟩)) (by repeat' (first | exact trivial | exact RenB.v _ | exact RenB.sl _ _ | exact RenB.ep _ | exact RenB.ptr _ _ _ _ rfl | refine renb_ag ?_ | refine renb_tu ?_ | refine ⟨?_, ?_⟩)) ?_
  repeat (first | ((with_reducible refine k_assign ?_); refine m_assign rfl ?_)  | refine e_nrm ?_ | refine x_none rfl ?_ | with_reducible refine q_then ?_ | with_reducible refine awp_ret ?_ )
  refine ret_v (by first | exact .inr rfl | exact .inl rfl) rfl rfl ?_
  rfl
set_option maxHeartbeats 2000000 in
theorem bsf_A (L : List Rw) (n : Int) (hp : L.Pairwise (fun a b => a.num < b.num)) (hm : L.length ≤ 128) :
    ACalls Tryd.prog G 78 [.sl 4 (L.map Rw.av), .v (.int .i64 n), .fn 79 []] [] (.tu [.v (.int .i64 (low n L)), .v (.bool (fnd n L))]) [] := by
  have hln : (L.map Rw.av).length = L.length := by simp
  refine acalls_of tbOk (enter_of Tryd.func78 (by kernel_rfl) rfl) Tryd.func78 rfl _ Tryd.ntmps78 (Nat.le_of_ble_eq_true rfl) fun X hX => ?_
  subst hX
  repeat (first | ((with_reducible refine k_move ?_); refine m_move rfl ?_) | ((with_reducible refine k_assign ?_); refine m_assign rfl ?_) | ((with_reducible refine k_call ?_); refine x_len tbOk rfl rfl ?_)  | refine e_nrm ?_ | refine x_none rfl ?_ | with_reducible refine q_then ?_ | with_reducible refine awp_seq ?_ | with_reducible refine awp_block ?_ | ((with_reducible refine w_region ?_ ?_); kernel_rfl))
  refine awp_loop (ι := Nat × Nat) (fun q => q.1 ≤ q.2 ∧ q.2 ≤ L.length ∧ (∀ k r, k < q.1 → L[k]? = some r → r.num < n) ∧ (∀ k r, q.2 ≤ k → L[k]? = some r → ¬ r.num < n)) (fun q => q.2 - q.1) (fun v q => [(0, .sl 4 (L.map Rw.av)), (1, .v (.int .i64 n)), (2, .fn 79 []), (8, .v (.int .i64 (L.map Rw.av).length)), (9, .v (.int .i64 (q.1 : Nat))), (10, .v (.int .i64 (q.2 : Nat)))]) (fun v q => []) ?_ ?_
  · exact ⟨(0, (L.map Rw.av).length), ⟨Nat.zero_le _, by simp, by simp, fun k r hk hr => by
      have := lt_at hr
      simp at hk; omega⟩, trivial, ⟨rfl, rfl, rfl, rfl, rfl, rfl, trivial⟩, trivial⟩
  · rintro v ⟨i, j⟩ ⟨hij, hj, h1, h2⟩
    simp only at hij hj h1 h2
    repeat (first | ((with_reducible refine k_move ?_); refine m_move rfl ?_) | ((with_reducible refine k_bin ?_); refine m_binI rfl rfl rfl ?_)  | refine e_nrm ?_ | refine x_none rfl ?_ | with_reducible refine q_then ?_ | with_reducible refine awp_seq ?_ | ((with_reducible refine w_region ?_ ?_); kernel_rfl))
    refine w_cond rfl (fun h => ?_) (fun h => ?_)
    · have hlt : i < j := by simpa using h
      have hw : IntKind.i64.wrap (((i : Int) + (j : Int)) / 2 ^ (1 : Int).toNat) = ((i : Int) + (j : Int)) / 2 ^ (1 : Int).toNat := wrap_i64_in (by simp; omega)
      obtain ⟨m, hmd⟩ : ∃ m : Nat, ((i : Int) + (j : Int)) / 2 ^ (1 : Int).toNat = (m : Nat) := ⟨(i + j) / 2, by simp⟩
      have hm2 : m = (i + j) / 2 := by simp at hmd; omega
      obtain ⟨r, hx⟩ := some_at (L := L) (k := m) (by omega)
      have hy : (L.map Rw.av)[m]? = some r.av := by rw [List.getElem?_map, hx]; rfl
      repeat (first | ((with_reducible refine k_move ?_); refine m_move rfl ?_) | ((with_reducible refine k_assign ?_); refine m_assign rfl ?_) | ((with_reducible refine k_convert ?_); refine x_conv_in tbOk rfl rfl rfl (by first | assumption | exact wrap_u64_in (by omega) | exact wrap_i64_in (by omega) | exact wrap_u8_in (by omega)) ?_) | ((with_reducible refine k_bin ?_); refine x_add_in rfl rfl (by omega) ?_) | ((with_reducible refine k_bin ?_); refine x_shr rfl rfl (by decide) ?_)  | refine e_nrm ?_ | refine x_none rfl ?_ | with_reducible refine q_then ?_ | with_reducible refine awp_seq ?_ | with_reducible refine awp_block ?_ | with_reducible refine awp_skip ?_ | ((with_reducible refine w_region ?_ ?_); kernel_rfl))
      rw [hmd]
      repeat (first | ((with_reducible refine k_move ?_); refine m_move rfl ?_) | ((with_reducible refine k_load ?_); refine x_load_ep_agg tbOk rfl rfl (Nat.le_of_ble_eq_true rfl) ?_) | ((with_reducible refine k_indexAddr ?_); refine x_indexAddr_n tbOk rfl rfl rfl rfl (by assumption) ?_)  | refine x_none rfl ?_  )
      refine x_callV (ss := []) (cs' := []) (pl1_A r n) rfl (by repeat' (first | exact trivial | exact Ren.v _ | exact Ren.sl _ _ | exact Ren.ep _ | exact Ren.ptr _ _ _ _ rfl | exact Ren.nil _ | exact Ren.own _ _ _ _ ⟨_, rfl⟩ | refine ren_ag ?_ | refine ren_tu ?_ | refine ren_fn ?_ | refine ⟨?_, ?_⟩)) (by simp) trivial rfl trivial (by repeat' (first | exact trivial | exact RenB.v _ | exact RenB.sl _ _ | exact RenB.ep _ | exact RenB.ptr _ _ _ _ rfl | refine renb_ag ?_ | refine renb_tu ?_ | refine ⟨?_, ?_⟩)) ?_
      repeat (first | ((with_reducible refine k_bin ?_); refine m_binI rfl rfl rfl ?_)  | refine e_nrm ?_ | refine x_none rfl ?_ | with_reducible refine q_then ?_ )
      refine w_cond rfl (fun hc => ?_) (fun hc => ?_)
      · have hr : r.num < n := by
          unfold cmpI at hc
          by_cases h3 : r.num < n
          · exact h3
          · rw [if_neg h3] at hc; split at hc <;> simp at hc
        repeat (first | ((with_reducible refine k_move ?_); refine m_move rfl ?_) | ((with_reducible refine k_assign ?_); refine m_assign rfl ?_) | ((with_reducible refine k_bin ?_); refine x_add_in rfl rfl (by omega) ?_)  | refine e_nrm ?_ | refine x_none rfl ?_ | with_reducible refine q_then ?_ | with_reducible refine q_block ?_ | ((with_reducible refine w_region ?_ ?_); kernel_rfl))
        refine ⟨(m + 1, j), ⟨by show m + 1 ≤ j; omega, hj, fun k x hk hx' => ?_, h2⟩, by show j - (m + 1) < j - i; omega, ⟨rfl, rfl, rfl, rfl, rfl, rfl, trivial⟩, trivial⟩
        rcases Nat.eq_or_lt_of_le (show k ≤ m by simp at hk; omega) with rfl | hk2
        · rw [hx] at hx'; injection hx' with e; rw [← e]; exact hr
        · obtain ⟨a, ha⟩ : ∃ a, L[k]? = some a := ⟨x, hx'⟩
          have e := List.pairwise_iff_getElem.1 hp k m (lt_at hx') (lt_at hx) hk2
          rw [List.getElem?_eq_getElem (lt_at hx')] at hx'
          rw [List.getElem?_eq_getElem (lt_at hx)] at hx
          injection hx' with hx'; injection hx with hx
          rw [hx', hx] at e
          omega
      · have hr : ¬ r.num < n := by
          intro h3
          unfold cmpI at hc
          rw [if_pos h3] at hc
          simp at hc
        repeat (first | ((with_reducible refine k_move ?_); refine m_move rfl ?_) | ((with_reducible refine k_assign ?_); refine m_assign rfl ?_)  | refine e_nrm ?_ | refine x_none rfl ?_ | with_reducible refine q_then ?_ | with_reducible refine q_block ?_ | ((with_reducible refine w_region ?_ ?_); kernel_rfl))
        refine ⟨(i, m), ⟨by show i ≤ m; omega, by show m ≤ L.length; omega, h1, fun k x hk hx' => ?_⟩, by show m - i < j - i; omega, ⟨rfl, rfl, rfl, rfl, rfl, rfl, trivial⟩, trivial⟩
        rcases Nat.eq_or_lt_of_le (show m ≤ k from hk) with rfl | hk2
        · rw [hx] at hx'; injection hx' with e; rw [← e]; exact hr
        · have e := List.pairwise_iff_getElem.1 hp m k (lt_at hx) (lt_at hx') hk2
          rw [List.getElem?_eq_getElem (lt_at hx')] at hx'
          rw [List.getElem?_eq_getElem (lt_at hx)] at hx
          injection hx' with hx'; injection hx with hx
          rw [hx', hx] at e
          omega
    · have hge : ¬ i < j := by simpa using h
      obtain rfl : i = j := by omega
      have hlow := low_eq hp hj h1 h2
      unfold fnd
      rw [hlow]
      repeat (first | ((with_reducible refine k_move ?_); refine m_move rfl ?_) | ((with_reducible refine k_bin ?_); refine m_binI rfl rfl rfl ?_)  | refine x_none rfl ?_ | with_reducible refine q_then ?_ | with_reducible refine q_then_exit ?_ | with_reducible refine awp_seq ?_ | with_reducible refine awp_exit ?_ | ((with_reducible refine q_block_exit ?_ ?_); rfl) | ((with_reducible refine w_region ?_ ?_); kernel_rfl))
      refine x_split rfl rfl (fun h0 => ?_) (fun h0 => ?_)
      · have hlt : i < L.length := by simpa using h0
        obtain ⟨r, hx⟩ := some_at hlt
        have hy : (L.map Rw.av)[i]? = some r.av := by rw [List.getElem?_map, hx]; rfl
        rw [hx]
        repeat (first | ((with_reducible refine k_move ?_); refine m_move rfl ?_) | ((with_reducible refine k_load ?_); refine x_load_ep_agg tbOk rfl rfl (Nat.le_of_ble_eq_true rfl) ?_) | ((with_reducible refine k_indexAddr ?_); refine x_indexAddr_n tbOk rfl rfl rfl rfl (by assumption) ?_)  | refine x_run_t rfl rfl (by first | rfl | assumption) ?_  )
        refine x_callV (ss := []) (cs' := []) (pl1_A r n) rfl (by repeat' (first | exact trivial | exact Ren.v _ | exact Ren.sl _ _ | exact Ren.ep _ | exact Ren.ptr _ _ _ _ rfl | exact Ren.nil _ | exact Ren.own _ _ _ _ ⟨_, rfl⟩ | refine ren_ag ?_ | refine ren_tu ?_ | refine ren_fn ?_ | refine ⟨?_, ?_⟩)) (by simp) trivial rfl trivial (by repeat' (first | exact trivial | exact RenB.v _ | exact RenB.sl _ _ | exact RenB.ep _ | exact RenB.ptr _ _ _ _ rfl | refine renb_ag ?_ | refine renb_tu ?_ | refine ⟨?_, ?_⟩)) ?_
        repeat (first | ((with_reducible refine k_assign ?_); refine m_assign rfl ?_) | ((with_reducible refine k_pick ?_); refine m_pickt rfl (by first | rfl | assumption) rfl ?_) | ((with_reducible refine k_bin ?_); refine m_binI rfl rfl rfl ?_)  | refine e_nrm ?_ | refine x_none rfl ?_ | refine x_run_t rfl rfl (by first | rfl | assumption) ?_ | with_reducible refine q_then ?_ | with_reducible refine awp_ret ?_ )
        refine ret0_2 (by first | exact .inr rfl | exact .inl rfl) rfl rfl rfl ?_
        have e : decide (r.num = n) = (cmpI r.num n == 0) := by
          unfold cmpI
          by_cases h3 : r.num < n
          · rw [if_pos h3]; simp; omega
          · rw [if_neg h3]
            by_cases h4 : r.num > n
            · rw [if_pos h4]; simp; omega
            · rw [if_neg h4]; simp; omega
        simp only [e]
        repeat' (first | exact trivial | exact Ren.v _ | exact Ren.sl _ _ | exact Ren.ep _ | exact Ren.ptr _ _ _ _ rfl | exact Ren.nil _ | exact Ren.own _ _ _ _ ⟨_, rfl⟩ | refine ren_ag ?_ | refine ren_tu ?_ | refine ren_fn ?_ | refine ⟨?_, ?_⟩)
      · have hlt : ¬ i < L.length := by simpa using h0
        rw [List.getElem?_eq_none (by omega)]
        repeat (first | ((with_reducible refine k_assign ?_); refine m_assign rfl ?_) | ((with_reducible refine k_pick ?_); refine m_pickf rfl (by first | rfl | assumption) rfl ?_)  | refine e_nrm ?_ | refine x_none rfl ?_ | refine x_skip_t rfl rfl (by first | rfl | assumption) ?_ | with_reducible refine q_then ?_ | with_reducible refine awp_ret ?_ )
        refine ret0_2 (by first | exact .inr rfl | exact .inl rfl) rfl rfl rfl ?_
        repeat' (first | exact trivial | exact Ren.v _ | exact Ren.sl _ _ | exact Ren.ep _ | exact Ren.ptr _ _ _ _ rfl | exact Ren.nil _ | exact Ren.own _ _ _ _ ⟨_, rfl⟩ | refine ren_ag ?_ | refine ren_tu ?_ | refine ren_fn ?_ | refine ⟨?_, ?_⟩)
theorem place_A (L : List Rw) (n : Int) (hp : L.Pairwise (fun a b => a.num < b.num)) (hm : L.length ≤ 128) :
    ACalls Tryd.prog G 63 [.sl 4 (L.map Rw.av), .v (.int .i64 n)] [] (.tu [.v (.int .i64 (low n L)), .v (.bool (fnd n L))]) [] := by
  refine acalls_of tbOk (enter_of Tryd.func63 (by kernel_rfl) rfl) Tryd.func63 rfl _ Tryd.ntmps63 (Nat.le_of_ble_eq_true rfl) fun X hX => ?_
  subst hX
  repeat (first | ((with_reducible refine k_move ?_); refine m_move rfl ?_) | ((with_reducible refine k_assign ?_); refine m_assign rfl ?_)  | refine e_nrm ?_ | refine x_none rfl ?_ | with_reducible refine q_then ?_ | with_reducible refine awp_seq ?_ | ((with_reducible refine w_region ?_ ?_); kernel_rfl))
  refine x_call0 (bsf_A L n hp hm) (by repeat' (first | exact trivial | exact Ren.v _ | exact Ren.sl _ _ | exact Ren.ep _ | exact Ren.ptr _ _ _ _ rfl | exact Ren.nil _ | exact Ren.own _ _ _ _ ⟨_, rfl⟩ | refine ren_ag ?_ | refine ren_tu ?_ | refine ren_fn ?_ | refine ⟨?_, ?_⟩)) (by repeat' (first | exact trivial | exact RenB.v _ | exact RenB.sl _ _ | exact RenB.ep _ | exact RenB.ptr _ _ _ _ rfl | refine renb_ag ?_ | refine renb_tu ?_ | refine ⟨?_, ?_⟩)) ?_
  repeat (first | ((with_reducible refine k_assign ?_); refine m_assign rfl ?_) | ((with_reducible refine k_extract ?_); refine x_extract rfl rfl ?_)  | refine e_nrm ?_ | refine x_none rfl ?_ | with_reducible refine q_then ?_ | with_reducible refine awp_ret ?_ )
  refine ret0_2 (by first | exact .inr rfl | exact .inl rfl) rfl rfl rfl ?_
  repeat' (first | exact trivial | exact Ren.v _ | exact Ren.sl _ _ | exact Ren.ep _ | exact Ren.ptr _ _ _ _ rfl | exact Ren.nil _ | exact Ren.own _ _ _ _ ⟨_, rfl⟩ | refine ren_ag ?_ | refine ren_tu ?_ | refine ren_fn ?_ | refine ⟨?_, ?_⟩)
end Go.Proofs.YtaoegbmgombhdaaDoor
