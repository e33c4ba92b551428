/- calendar.Union and Minutes at few spans, by the abstract machine; conditions: none. -/
import Derived.Test.YtdejgacclogaiaaDoorSnA
set_option linter.unusedVariables false
set_option linter.unusedSimpArgs false
namespace Go.Proofs.YtdejgacclogaiaaDoor
open Go Go.RowKit
set_option maxRecDepth 10000
variable {G : Nat → Option (List Value)}
theorem ins0_A : ACalls Tryd.prog G 57 [.sl 2 [], .v (.int .i64 0), .v (.int .i64 0), .fn 47 []] [] (.tu []) [] := by
  refine acalls_of tbOk (enter_of Tryd.func57 (by kernel_rfl) rfl) Tryd.func57 rfl _ Tryd.ntmps57 (Nat.le_of_ble_eq_true rfl) fun X hX => ?_
  subst hX
  repeat (first | ((with_reducible refine k_move ?_); refine m_move rfl ?_) | ((with_reducible refine k_assign ?_); refine m_assign rfl ?_) | ((with_reducible refine k_bin ?_); refine x_add_in rfl rfl (by omega) ?_)  | refine e_nrm ?_ | refine x_none rfl ?_ | with_reducible refine q_then ?_ | with_reducible refine awp_seq ?_ | with_reducible refine awp_block ?_ | ((with_reducible refine w_region ?_ ?_); kernel_rfl))
  refine awp_loop (ι := Unit) (fun i => True) (fun i => 0) (fun v i => [(2, .v (.int .i64 0)), (8, .v (.int .i64 1))]) (fun v i => []) ?_ ?_
  · exact ⟨(), trivial, trivial, ⟨rfl, rfl, trivial⟩, trivial⟩
  rintro v ⟨⟩ -
  repeat (first | ((with_reducible refine k_move ?_); refine m_move rfl ?_) | ((with_reducible refine k_bin ?_); refine m_binI rfl rfl rfl ?_)  | refine e_nrm ?_ | refine x_none rfl ?_ | with_reducible refine q_then ?_ | with_reducible refine q_then_exit ?_ | with_reducible refine awp_seq ?_ | with_reducible refine awp_exit ?_ | ((with_reducible refine q_block_exit ?_ ?_); rfl) | ((with_reducible refine w_region ?_ ?_); kernel_rfl) | refine w_cond_f rfl (by first | rfl | assumption) ?_)
  refine ret0 (by first | exact .inr rfl | exact .inl rfl) (xs := []) ?_ (by repeat' (first | exact trivial | exact Ren.v _ | exact Ren.sl _ _ | exact Ren.ep _ | exact Ren.ptr _ _ _ _ rfl | exact Ren.bs _ _ _ _ _ rfl | exact Ren.nil _ | exact Ren.own _ _ _ _ ⟨_, rfl⟩ | refine ren_ag ?_ | refine ren_tu ?_ | refine ren_fn ?_ | refine ⟨?_, ?_⟩))
  trivial
theorem pdq0_A (lim : Int) : ACalls Tryd.prog G 52 [.sl 2 [], .v (.int .i64 0), .v (.int .i64 0), .v (.int .i64 lim), .fn 47 []] [] (.tu []) [] := by
  refine acalls_of tbOk (enter_of Tryd.func52 (by kernel_rfl) rfl) Tryd.func52 rfl _ Tryd.ntmps52 (Nat.le_of_ble_eq_true rfl) fun X hX => ?_
  subst hX
  repeat (first | ((with_reducible refine k_assign ?_); refine m_assign rfl ?_)  | refine e_nrm ?_ | refine x_none rfl ?_ | with_reducible refine q_then ?_ | with_reducible refine awp_seq ?_ | with_reducible refine awp_block ?_ | ((with_reducible refine w_region ?_ ?_); kernel_rfl))
  refine awp_loop (ι := Unit) (fun i => True) (fun i => 0) (fun v i => [(0, .sl 2 []), (1, .v (.int .i64 0)), (2, .v (.int .i64 0)), (3, .v (.int .i64 lim)), (4, .fn 47 [])]) (fun v i => []) ?_ ?_
  · exact ⟨(), trivial, trivial, ⟨rfl, rfl, rfl, rfl, rfl, trivial⟩, trivial⟩
  rintro v ⟨⟩ -
  repeat (first | ((with_reducible refine k_move ?_); refine m_move rfl ?_) | ((with_reducible refine k_assign ?_); refine m_assign rfl ?_) | ((with_reducible refine k_bin ?_); refine x_sub_in rfl rfl (by omega) ?_) | ((with_reducible refine k_bin ?_); refine m_binI rfl rfl rfl ?_)  | refine e_nrm ?_ | refine x_none rfl ?_ | with_reducible refine q_then ?_ | with_reducible refine awp_seq ?_ | with_reducible refine awp_block ?_ | ((with_reducible refine w_region ?_ ?_); kernel_rfl) | refine w_cond_t rfl (by first | rfl | assumption) ?_)
  refine x_call0 (ins0_A) (by repeat' (first | exact trivial | exact Ren.v _ | exact Ren.sl _ _ | exact Ren.ep _ | exact Ren.ptr _ _ _ _ rfl | exact Ren.bs _ _ _ _ _ rfl | exact Ren.nil _ | exact Ren.own _ _ _ _ ⟨_, rfl⟩ | refine ren_ag ?_ | refine ren_tu ?_ | refine ren_fn ?_ | refine ⟨?_, ?_⟩)) (by repeat' (first | exact trivial | exact RenB.v _ | exact RenB.sl _ _ | exact RenB.ep _ | exact RenB.ptr _ _ _ _ rfl | refine renb_ag ?_ | refine renb_tu ?_ | refine ⟨?_, ?_⟩)) ?_
  repeat (first   | refine e_nrm ?_ | with_reducible refine q_then ?_ | with_reducible refine q_then_ret ?_ | with_reducible refine q_block_ret ?_ | with_reducible refine awp_ret ?_ )
  refine ret0 (by first | exact .inr rfl | exact .inl rfl) (xs := []) ?_ (by repeat' (first | exact trivial | exact Ren.v _ | exact Ren.sl _ _ | exact Ren.ep _ | exact Ren.ptr _ _ _ _ rfl | exact Ren.bs _ _ _ _ _ rfl | exact Ren.nil _ | exact Ren.own _ _ _ _ ⟨_, rfl⟩ | refine ren_ag ?_ | refine ren_tu ?_ | refine ren_fn ?_ | refine ⟨?_, ?_⟩))
  trivial
theorem sortf0_A : ACalls Tryd.prog G 46 [.sl 2 [], .fn 47 []] [] (.tu []) [] := by
  refine acalls_of tbOk (enter_of Tryd.func46 (by kernel_rfl) rfl) Tryd.func46 rfl _ Tryd.ntmps46 (Nat.le_of_ble_eq_true rfl) fun X hX => ?_
  subst hX
  repeat (first | ((with_reducible refine k_move ?_); refine m_move rfl ?_) | ((with_reducible refine k_assign ?_); refine m_assign rfl ?_) | ((with_reducible refine k_convert ?_); refine x_conv_int tbOk rfl rfl rfl ?_) | ((with_reducible refine k_call ?_); refine x_len tbOk rfl rfl ?_)  | refine e_nrm ?_ | refine x_none rfl ?_ | with_reducible refine q_then ?_ | with_reducible refine awp_seq ?_ | ((with_reducible refine w_region ?_ ?_); kernel_rfl))
  refine x_call0 (bitsLen_A 0 (by omega) (by omega)) (by repeat' (first | exact trivial | exact Ren.v _ | exact Ren.sl _ _ | exact Ren.ep _ | exact Ren.ptr _ _ _ _ rfl | exact Ren.bs _ _ _ _ _ rfl | exact Ren.nil _ | exact Ren.own _ _ _ _ ⟨_, rfl⟩ | refine ren_ag ?_ | refine ren_tu ?_ | refine ren_fn ?_ | refine ⟨?_, ?_⟩)) (by repeat' (first | exact trivial | exact RenB.v _ | exact RenB.sl _ _ | exact RenB.ep _ | exact RenB.ptr _ _ _ _ rfl | refine renb_ag ?_ | refine renb_tu ?_ | refine ⟨?_, ?_⟩)) ?_
  repeat (first | ((with_reducible refine k_move ?_); refine m_move rfl ?_)  | refine x_none rfl ?_  )
  refine x_call0 (pdq0_A _) (by repeat' (first | exact trivial | exact Ren.v _ | exact Ren.sl _ _ | exact Ren.ep _ | exact Ren.ptr _ _ _ _ rfl | exact Ren.bs _ _ _ _ _ rfl | exact Ren.nil _ | exact Ren.own _ _ _ _ ⟨_, rfl⟩ | refine ren_ag ?_ | refine ren_tu ?_ | refine ren_fn ?_ | refine ⟨?_, ?_⟩)) (by repeat' (first | exact trivial | exact RenB.v _ | exact RenB.sl _ _ | exact RenB.ep _ | exact RenB.ptr _ _ _ _ rfl | refine renb_ag ?_ | refine renb_tu ?_ | refine ⟨?_, ?_⟩)) ?_
  repeat (first   | refine e_nrm ?_  )
  refine ret0 (by first | exact .inr rfl | exact .inl rfl) (xs := []) ?_ (by repeat' (first | exact trivial | exact Ren.v _ | exact Ren.sl _ _ | exact Ren.ep _ | exact Ren.ptr _ _ _ _ rfl | exact Ren.bs _ _ _ _ _ rfl | exact Ren.nil _ | exact Ren.own _ _ _ _ ⟨_, rfl⟩ | refine ren_ag ?_ | refine ren_tu ?_ | refine ren_fn ?_ | refine ⟨?_, ?_⟩))
  trivial
theorem all_drop {L : List Spn} {j : Nat} {x : Spn} (h : L[j]? = some x) : (L.drop j).all validB = (validB x && (L.drop (j + 1)).all validB) := by
  rw [drop_at h, List.all_cons]
theorem flat_spn (L : List Spn) : (L.map Spn.av).flatMap AV.cells = L.flatMap fun s => [.v (.int .i64 s.from_), .v (.int .i64 s.until_)] := by
  induction L with
  | nil => rfl
  | cons s L ih => simp only [List.map_cons, List.flatMap_cons, ih]; rfl
theorem flat_len2 : ∀ (A : List Spn), ((A.map Spn.av).flatMap AV.cells).length = A.length * 2
  | [] => rfl
  | s :: A => by
    have := flat_len2 A
    rw [List.map_cons, List.flatMap_cons, List.length_append, this]
    simp [Spn.av, AV.cells]
    omega
theorem flat_last (A : List Spn) (q : Spn) : ((((A ++ [q]).map Spn.av).flatMap AV.cells)[A.length * 2]? = some (.v (.int .i64 q.from_))) ∧ ((((A ++ [q]).map Spn.av).flatMap AV.cells)[A.length * 2 + 1]? = some (.v (.int .i64 q.until_))) := by
  rw [List.map_append, List.flatMap_append]
  constructor
  · rw [List.getElem?_append_right (by rw [flat_len2]; omega), flat_len2]
    simp [Spn.av, AV.cells]
  · rw [List.getElem?_append_right (by rw [flat_len2]; omega), flat_len2, Nat.add_sub_cancel_left]
    simp [Spn.av, AV.cells]
theorem flat_put (A : List Spn) (q : Spn) (u : Int) : ((A ++ [(⟨q.from_, u⟩ : Spn)]).map Spn.av).flatMap AV.cells = putL (((A ++ [q]).map Spn.av).flatMap AV.cells) (A.length * 2 + 1) [.v (.int .i64 u)] := by
  rw [putL, putL, List.map_append, List.flatMap_append, List.map_append, List.flatMap_append, List.set_append_right _ _ (by rw [flat_len2]; omega), flat_len2, Nat.add_sub_cancel_left]
  rfl
set_option maxHeartbeats 4000000 in
theorem union_A (L : List Spn) (hm : L.length ≤ 12) : ACalls Tryd.prog G 25 [.sl 2 (L.map Spn.av)] [] (.tu [.sl 2 ((unionP L).1.map Spn.av), .v (.int .i64 (unionP L).2)]) [] := by
  refine acalls_of0 tbOk (enter_of Tryd.func25 (by kernel_rfl) rfl) Tryd.func25 rfl _ Tryd.ntmps25 (Nat.le_of_ble_eq_true rfl) fun X hX hgs => ?_
  subst hX
  repeat (first | ((with_reducible refine k_move ?_); refine m_move rfl ?_) | ((with_reducible refine k_assign ?_); refine m_assign rfl ?_) | ((with_reducible refine k_call ?_); refine x_len tbOk rfl rfl ?_)  | refine e_nrm ?_ | refine x_none rfl ?_ | with_reducible refine q_then ?_ | with_reducible refine awp_seq ?_ | with_reducible refine awp_block ?_ | ((with_reducible refine w_region ?_ ?_); kernel_rfl))
  refine awp_loop (ι := Nat) (fun j => j ≤ L.length ∧ (L.drop j).all validB = L.all validB) (fun j => L.length - j) (fun v j => [(0, .sl 2 (L.map Spn.av)), (10, .sl 2 (L.map Spn.av)), (11, .v (.int .i64 L.length)), (12, .v (.int .i64 j))]) (fun v j => []) ?_ ?_
  · refine ⟨0, ⟨Nat.zero_le _, rfl⟩, trivial, ⟨rfl, rfl, ?_, rfl, trivial⟩, trivial⟩
    exact congrArg (fun k : Nat => AV.v (.int .i64 k)) (List.length_map ..)
  rintro v j ⟨hj, hall⟩
  repeat (first | ((with_reducible refine k_bin ?_); refine m_binI rfl rfl rfl ?_)  | refine e_nrm ?_ | refine x_none rfl ?_ | with_reducible refine q_then ?_ | with_reducible refine awp_seq ?_ | ((with_reducible refine w_region ?_ ?_); kernel_rfl))
  refine w_cond rfl (fun h => ?_) (fun h => ?_)
  · have hlt : j < L.length := by simpa using h
    obtain ⟨x, hx⟩ := some_at hlt
    have hy := spn_at hx
    rw [all_drop hx] at hall
    repeat (first | ((with_reducible refine k_load ?_); refine x_load_agg tbOk rfl rfl rfl rfl (Nat.le_of_ble_eq_true rfl) ?_) | ((with_reducible refine k_load ?_); refine x_load_ep_agg tbOk rfl rfl (Nat.le_of_ble_eq_true rfl) ?_) | ((with_reducible refine k_store ?_); refine m_store tbOk rfl rfl rfl rfl rfl rfl rfl (Nat.le_of_ble_eq_true rfl) rfl ?_) | ((with_reducible refine k_alloc ?_); refine x_alloc tbOk rfl rfl ?_) | ((with_reducible refine k_indexAddr ?_); refine x_indexAddr_n tbOk rfl rfl rfl rfl (by assumption) ?_)  | refine e_nrm ?_ | refine x_none rfl ?_ | with_reducible refine q_then ?_ | with_reducible refine awp_seq ?_ | with_reducible refine awp_block ?_ | with_reducible refine awp_skip ?_ | ((with_reducible refine w_region ?_ ?_); kernel_rfl))
    refine x_call0 (valid_A x) (by repeat' (first | exact trivial | exact Ren.v _ | exact Ren.sl _ _ | exact Ren.ep _ | exact Ren.ptr _ _ _ _ rfl | exact Ren.bs _ _ _ _ _ rfl | exact Ren.nil _ | exact Ren.own _ _ _ _ ⟨_, rfl⟩ | refine ren_ag ?_ | refine ren_tu ?_ | refine ren_fn ?_ | refine ⟨?_, ?_⟩)) (by repeat' (first | exact trivial | exact RenB.v _ | exact RenB.sl _ _ | exact RenB.ep _ | exact RenB.ptr _ _ _ _ rfl | refine renb_ag ?_ | refine renb_tu ?_ | refine ⟨?_, ?_⟩)) ?_
    cases hvx : validB x
    · have e1 : unionP L = ([], 11) := by unfold unionP; rw [← hall, hvx]; rfl
      rw [e1]
      repeat (first | ((with_reducible refine k_assign ?_); refine m_assign rfl ?_) | ((with_reducible refine k_un ?_); refine x_not rfl ?_)  | refine e_nrm ?_ | refine x_none rfl ?_ | with_reducible refine q_then ?_ | with_reducible refine q_then_ret ?_ | with_reducible refine q_block_ret ?_ | with_reducible refine awp_seq ?_ | with_reducible refine awp_ret ?_ | ((with_reducible refine w_region ?_ ?_); kernel_rfl) | refine w_cond_t rfl (by first | rfl | assumption) ?_)
      refine ret0_2 (by first | exact .inr rfl | exact .inl rfl) rfl rfl rfl ?_
      repeat' (first | exact trivial | exact Ren.v _ | exact Ren.sl _ _ | exact Ren.ep _ | exact Ren.ptr _ _ _ _ rfl | exact Ren.bs _ _ _ _ _ rfl | exact Ren.nil _ | exact Ren.own _ _ _ _ ⟨_, rfl⟩ | refine ren_ag ?_ | refine ren_tu ?_ | refine ren_fn ?_ | refine ⟨?_, ?_⟩)
    · rw [hvx, Bool.true_and] at hall
      repeat (first | ((with_reducible refine k_move ?_); refine m_move rfl ?_) | ((with_reducible refine k_un ?_); refine x_not rfl ?_) | ((with_reducible refine k_bin ?_); refine x_add_in rfl rfl (by omega) ?_)  | refine e_nrm ?_ | refine x_none rfl ?_ | with_reducible refine q_then ?_ | with_reducible refine q_block ?_ | with_reducible refine awp_skip ?_ | ((with_reducible refine w_region ?_ ?_); kernel_rfl) | refine w_cond_f rfl (by first | rfl | assumption) ?_)
      exact ⟨j + 1, ⟨by omega, hall⟩, by omega, ⟨rfl, rfl, rfl, rfl, trivial⟩, trivial⟩
  have hje : j = L.length := by have : ¬ j < L.length := by simpa using h
                                omega
  subst hje
  have hval : L.all validB = true := by rw [← hall, List.drop_length]; rfl
  have eu : unionP L = (mrg (isort ltS L), 0) := by unfold unionP; rw [if_pos hval]
  rw [eu]
  repeat (first | ((with_reducible refine k_move ?_); refine m_move rfl ?_)  | refine x_none rfl ?_ | with_reducible refine q_then ?_ | with_reducible refine q_then_exit ?_ | with_reducible refine awp_seq ?_ | with_reducible refine awp_exit ?_ | ((with_reducible refine q_block_exit ?_ ?_); rfl) | ((with_reducible refine w_region ?_ ?_); kernel_rfl))
  with_reducible refine k_call ?_
  refine x_call_own (clone_OP (L.map Spn.av) (spn_one L) (by simp; omega)) (by repeat' (first | exact trivial | exact Ren.v _ | exact Ren.sl _ _ | exact Ren.ep _ | exact Ren.ptr _ _ _ _ rfl | exact Ren.bs _ _ _ _ _ rfl | exact Ren.nil _ | exact Ren.own _ _ _ _ ⟨_, rfl⟩ | refine ren_ag ?_ | refine ren_tu ?_ | refine ren_fn ?_ | refine ⟨?_, ?_⟩)) rfl ?_
  repeat (first | ((with_reducible refine k_assign ?_); refine m_assign rfl ?_) | refine e_nrm ?_ | refine x_none rfl ?_ | with_reducible refine q_then ?_ | with_reducible refine awp_seq ?_)
  by_cases hL : L = []
  · subst hL
    refine awp_freeze_at (s := 21) [(0, .sl 2 [])] [] rfl ⟨.inl (.inr ⟨rfl, rfl⟩), trivial⟩ trivial ?_
    repeat (first | ((with_reducible refine k_move ?_); refine m_move rfl ?_)  | refine x_none rfl ?_  | ((with_reducible refine w_region ?_ ?_); kernel_rfl))
    refine x_call0 (sortf0_A) (by repeat' (first | exact trivial | exact Ren.v _ | exact Ren.sl _ _ | exact Ren.ep _ | exact Ren.ptr _ _ _ _ rfl | exact Ren.bs _ _ _ _ _ rfl | exact Ren.nil _ | exact Ren.own _ _ _ _ ⟨_, rfl⟩ | refine ren_ag ?_ | refine ren_tu ?_ | refine ren_fn ?_ | refine ⟨?_, ?_⟩)) (by repeat' (first | exact trivial | exact RenB.v _ | exact RenB.sl _ _ | exact RenB.ep _ | exact RenB.ptr _ _ _ _ rfl | refine renb_ag ?_ | refine renb_tu ?_ | refine ⟨?_, ?_⟩)) ?_
    repeat (first | ((with_reducible refine k_move ?_); refine m_move rfl ?_) | ((with_reducible refine k_assign ?_); refine m_assign rfl ?_) | ((with_reducible refine k_call ?_); refine x_len tbOk rfl rfl ?_)  | refine e_nrm ?_ | refine x_none rfl ?_ | with_reducible refine q_then ?_ | with_reducible refine awp_seq ?_ | with_reducible refine awp_block ?_ | ((with_reducible refine w_region ?_ ?_); kernel_rfl))
    refine awp_loop (ι := Unit) (fun i => True) (fun i => 0) (fun v i => [(6, .v (.slice none 0 0)), (24, .sl 2 []), (25, .v (.int .i64 0)), (26, .v (.int .i64 0))]) (fun v i => []) ?_ ?_
    · exact ⟨(), trivial, trivial, ⟨rfl, rfl, rfl, rfl, trivial⟩, trivial⟩
    rintro v ⟨⟩ -
    repeat (first | ((with_reducible refine k_move ?_); refine m_move rfl ?_) | ((with_reducible refine k_assign ?_); refine m_assign rfl ?_) | ((with_reducible refine k_bin ?_); refine m_binI rfl rfl rfl ?_)  | refine e_nrm ?_ | refine x_none rfl ?_ | with_reducible refine q_then ?_ | with_reducible refine q_then_exit ?_ | with_reducible refine awp_seq ?_ | with_reducible refine awp_exit ?_ | with_reducible refine awp_ret ?_ | ((with_reducible refine q_block_exit ?_ ?_); rfl) | ((with_reducible refine w_region ?_ ?_); kernel_rfl) | refine w_cond_f rfl (by first | rfl | assumption) ?_)
    refine ret0_2 (by first | exact .inr rfl | exact .inl rfl) rfl rfl rfl ?_
    repeat' (first | exact trivial | exact Ren.v _ | exact Ren.sl _ _ | exact Ren.ep _ | exact Ren.ptr _ _ _ _ rfl | exact Ren.bs _ _ _ _ _ rfl | exact Ren.nil _ | exact Ren.own _ _ _ _ ⟨_, rfl⟩ | refine ren_ag ?_ | refine ren_tu ?_ | refine ren_fn ?_ | refine ⟨?_, ?_⟩)
  refine awp_buf_box (k := v 21 + 1) (L := L.map Spn.av) [(0, .bs 21 (v 21 + 1 + 1) 2 (L.map Spn.av).length)] rfl (by rw [List.length_map]; exact List.length_pos_iff.2 hL) (fun J => ⟨.inl (.inr ⟨rfl, rfl⟩), trivial⟩) (fun J hJ => ?_)
  rw [List.length_map]
  repeat (first | ((with_reducible refine k_move ?_); refine m_move rfl ?_)  | refine x_none rfl ?_  | ((with_reducible refine w_region ?_ ?_); kernel_rfl))
  with_reducible refine k_call ?_
  refine x_call (y := .tu []) (ss := [(21, (v 21 + 1 + 1))]) (sortf_A L J hJ hm) (by repeat' (first | exact trivial | exact Ren.v _ | exact Ren.sl _ _ | exact Ren.ep _ | exact Ren.ptr _ _ _ _ rfl | exact Ren.bs _ _ _ _ _ rfl | exact Ren.nil _ | exact Ren.own _ _ _ _ ⟨_, rfl⟩ | refine ren_ag ?_ | refine ren_tu ?_ | refine ren_fn ?_ | refine ⟨?_, ?_⟩)) (by simp) (in1_pj rfl (bsC_pj (spn_pu _) hJ)) rfl (back1_pj (bsC_pj (spn_pu _) hJ)) (by repeat' (first | exact trivial | exact RenB.v _ | exact RenB.sl _ _ | exact RenB.ep _ | exact RenB.ptr _ _ _ _ rfl | refine renb_ag ?_ | refine renb_tu ?_ | refine ⟨?_, ?_⟩)) ?_
  repeat (first  | refine e_nrm ?_ | with_reducible refine q_then ?_ | with_reducible refine awp_seq ?_)
  refine awp_box_sl (s := 21) (k := v 21 + 1 + 1) (L := (isort ltS L).map Spn.av) (J := J) (sz := 2) hgs [(0, .sl 2 ((isort ltS L).map Spn.av))] rfl (spn_sz _) (by decide) (spn_pu _) (by rw [List.length_map, isort_len]; unfold maxLen; omega) ⟨.inl (.inr ⟨?_, rfl⟩), trivial⟩ ?_
  · show AV.bs 21 (v 21 + 1 + 1) 2 L.length = _
    rw [List.length_map, isort_len]
  repeat (first | ((with_reducible refine k_move ?_); refine m_move rfl ?_) | ((with_reducible refine k_assign ?_); refine m_assign rfl ?_) | ((with_reducible refine k_call ?_); refine x_len tbOk rfl rfl ?_)  | refine e_nrm ?_ | refine x_none rfl ?_ | with_reducible refine q_then ?_ | with_reducible refine awp_seq ?_ | with_reducible refine awp_block ?_ | ((with_reducible refine w_region ?_ ?_); kernel_rfl))
  refine awp_own (t := 6) (s := 60) 48 2 rfl rfl ?_
  refine awp_loop (ι := Nat × List Spn) (fun i => i.1 ≤ L.length ∧ i.2.length ≤ i.1 ∧ mrgFrom i.2 ((isort ltS L).drop i.1) = mrg (isort ltS L)) (fun i => L.length - i.1) (fun v i => [(6, .own 60 (v 60)), (24, .sl 2 ((isort ltS L).map Spn.av)), (25, .v (.int .i64 L.length)), (26, .v (.int .i64 (i.1 : Nat)))]) (fun v i => [(60, .buf 48 2 (i.2.map Spn.av))]) ?_ ?_
  · refine ⟨(0, []), ⟨Nat.zero_le _, Nat.le_refl _, rfl⟩, trivial, ⟨rfl, rfl, ?_, rfl, trivial⟩, ⟨rfl, trivial⟩⟩
    exact congrArg (fun k : Nat => AV.v (.int .i64 k)) ((List.length_map ..).trans (isort_len L))
  rintro v ⟨j, A⟩ ⟨hj, hA, hf⟩
  simp only at hj hA hf
  dsimp only
  repeat (first | ((with_reducible refine k_bin ?_); refine m_binI rfl rfl rfl ?_)  | refine e_nrm ?_ | refine x_none rfl ?_ | with_reducible refine q_then ?_ | with_reducible refine awp_seq ?_ | ((with_reducible refine w_region ?_ ?_); kernel_rfl))
  refine w_cond rfl (fun h => ?_) (fun h => ?_)
  · have hlt : j < (isort ltS L).length := by rw [isort_len]; simpa using h
    obtain ⟨x, hx⟩ := some_at hlt
    have hlt' : j < L.length := by rwa [isort_len] at hlt
    have hy := spn_at hx
    rw [drop_at hx] at hf
    rcases List.eq_nil_or_concat A with rfl | ⟨B, q, rfl⟩
    · repeat (first | ((with_reducible refine k_move ?_); refine m_move rfl ?_) | ((with_reducible refine k_assign ?_); refine m_assign rfl ?_) | ((with_reducible refine k_load ?_); refine x_load_agg tbOk rfl rfl rfl rfl (Nat.le_of_ble_eq_true rfl) ?_) | ((with_reducible refine k_load ?_); refine x_load_ep_agg tbOk rfl rfl (Nat.le_of_ble_eq_true rfl) ?_) | ((with_reducible refine k_store ?_); refine m_store tbOk rfl rfl rfl rfl rfl rfl rfl (Nat.le_of_ble_eq_true rfl) rfl ?_) | ((with_reducible refine k_alloc ?_); refine x_alloc tbOk rfl rfl ?_) | ((with_reducible refine k_pick ?_); refine m_pickf rfl (by first | rfl | assumption) rfl ?_) | ((with_reducible refine k_indexAddr ?_); refine x_indexAddr_n tbOk rfl rfl rfl rfl (by assumption) ?_) | ((with_reducible refine k_call ?_); refine x_len_own tbOk rfl rfl rfl rfl ?_) | ((with_reducible refine k_bin ?_); refine m_binI rfl rfl rfl ?_) | ((with_reducible refine k_buildSlice ?_); refine m_buildSlice tbOk rfl rfl rfl rfl rfl (by omega) rfl rfl rfl ?_) | refine e_nrm ?_ | refine e_drw (by kernel_rfl) ?_ | refine x_none rfl ?_ | refine x_skip_t rfl rfl (by first | rfl | assumption) ?_ | with_reducible refine q_then ?_ | with_reducible refine awp_seq ?_ | with_reducible refine awp_block ?_ | with_reducible refine awp_skip ?_ | ((with_reducible refine w_region ?_ ?_); kernel_rfl) | ((with_reducible refine w_draw mixd ?_ ?_); kernel_rfl) | refine w_cond_f rfl (by first | rfl | assumption) ?_)
      have hN : ∀ y ∈ [x.av], allOne y.cells = true := fun y hy => by simp at hy; subst hy; rfl
      refine x_append_own tbOk rfl rfl rfl rfl rfl (by decide) rfl rfl rfl rfl rfl hN (by simp) (by simp) ?_
      repeat (first | ((with_reducible refine k_move ?_); refine m_move rfl ?_) | ((with_reducible refine k_assign ?_); refine m_assign rfl ?_) | ((with_reducible refine k_bin ?_); refine x_add_in rfl rfl (by omega) ?_)  | refine e_nrm ?_ | refine x_none rfl ?_ | with_reducible refine q_then ?_ | with_reducible refine q_block ?_ | ((with_reducible refine w_region ?_ ?_); kernel_rfl))
      exact ⟨(j + 1, [x]), ⟨by show j + 1 ≤ _; omega, by simp, hf⟩, by show L.length - (j + 1) < L.length - j; omega, ⟨rfl, rfl, rfl, rfl, trivial⟩, ⟨rfl, trivial⟩⟩
    · rw [List.concat_eq_append] at *
      have hlen : (((B ++ [q]).map Spn.av).length : Int) - 1 = (B.length : Int) := by simp
      have hlp : 0 < ((B ++ [q]).map Spn.av).length := by simp
      have hle : ((B ++ [q]).map Spn.av).length ≤ 12 := by simp at hA ⊢; omega
      have p1 : decide ((B.length : Int) ≥ 0) = true := by simp
      have hoff : (B.length : Int).toNat * 2 + 1 = B.length * 2 + 1 := by rw [Int.toNat_natCast]
      rw [mrgFrom_snoc] at hf
      repeat (first | ((with_reducible refine k_move ?_); refine m_move rfl ?_) | ((with_reducible refine k_assign ?_); refine m_assign rfl ?_) | ((with_reducible refine k_load ?_); refine x_load_ep_agg tbOk rfl rfl (Nat.le_of_ble_eq_true rfl) ?_) | ((with_reducible refine k_store ?_); refine m_store tbOk rfl rfl rfl rfl rfl rfl rfl (Nat.le_of_ble_eq_true rfl) rfl ?_) | ((with_reducible refine k_alloc ?_); refine x_alloc tbOk rfl rfl ?_) | ((with_reducible refine k_indexAddr ?_); refine x_indexAddr_n tbOk rfl rfl rfl rfl (by assumption) ?_) | ((with_reducible refine k_call ?_); refine x_len_own tbOk rfl rfl rfl rfl ?_) | ((with_reducible refine k_bin ?_); refine x_sub_in rfl rfl (by omega) ?_) | ((with_reducible refine k_bin ?_); refine m_binI rfl rfl rfl ?_)  | refine e_nrm ?_ | refine x_none rfl ?_ | with_reducible refine q_then ?_ | with_reducible refine awp_seq ?_ | with_reducible refine awp_block ?_ | with_reducible refine awp_skip ?_ | ((with_reducible refine w_region ?_ ?_); kernel_rfl) | ((with_reducible refine w_draw mixd ?_ ?_); kernel_rfl))
      rw [hlen]
      repeat (first | ((with_reducible refine k_move ?_); refine m_move rfl ?_) | ((with_reducible refine k_fieldAddr ?_); refine x_fieldAddr_ptr tbOk rfl rfl rfl rfl ?_) | ((with_reducible refine k_load ?_); refine x_load_one tbOk rfl rfl rfl rfl rfl ?_)  | refine x_run_t rfl rfl (by first | rfl | assumption) ?_  )
      with_reducible refine k_indexAddr ?_
      refine x_indexAddr_own tbOk rfl rfl rfl rfl rfl rfl ⟨by omega, by simp; omega⟩ ?_
      repeat (first | ((with_reducible refine k_fieldAddr ?_); refine x_fieldAddr_po tbOk rfl rfl rfl rfl ?_)  | refine x_run_t rfl rfl (by first | rfl | assumption) ?_  )
      with_reducible refine k_load ?_
      refine x_load_po_one tbOk rfl rfl rfl rfl (by rw [hoff]; exact (flat_last B q).2) hlp ?_
      repeat (first | ((with_reducible refine k_pick ?_); refine m_pickt rfl (by first | rfl | assumption) rfl ?_) | ((with_reducible refine k_bin ?_); refine m_binI rfl rfl rfl ?_)  | refine e_drw (by kernel_rfl) ?_ | refine x_none rfl ?_ | refine x_run_t rfl rfl (by first | rfl | assumption) ?_ | with_reducible refine q_then ?_ )
      refine w_cond rfl (fun hc => ?_) (fun hc => ?_)
      · have hc' : x.from_ ≤ q.until_ := by simpa using hc
        rw [mrgGo, if_pos hc'] at hf
        repeat (first | ((with_reducible refine k_move ?_); refine m_move rfl ?_)  | refine x_none rfl ?_ | with_reducible refine awp_seq ?_ | ((with_reducible refine w_draw mixd ?_ ?_); kernel_rfl))
        with_reducible refine k_indexAddr ?_
        refine x_indexAddr_own tbOk rfl rfl rfl rfl rfl rfl ⟨by omega, by simp; omega⟩ ?_
        repeat (first | ((with_reducible refine k_fieldAddr ?_); refine x_fieldAddr_po tbOk rfl rfl rfl rfl ?_)  | refine x_none rfl ?_  )
        with_reducible refine k_load ?_
        refine x_load_po_one tbOk rfl rfl rfl rfl (by rw [hoff]; exact (flat_last B q).2) hlp ?_
        repeat (first | ((with_reducible refine k_fieldAddr ?_); refine x_fieldAddr_ptr tbOk rfl rfl rfl rfl ?_) | ((with_reducible refine k_load ?_); refine x_load_one tbOk rfl rfl rfl rfl rfl ?_)  | refine x_none rfl ?_  )
        (with_reducible refine k_call ?_); refine x_max rfl rfl ?_
        repeat (first   | refine x_none rfl ?_  )
        with_reducible refine k_indexAddr ?_
        refine x_indexAddr_own tbOk rfl rfl rfl rfl rfl rfl ⟨by omega, by simp; omega⟩ ?_
        repeat (first | ((with_reducible refine k_fieldAddr ?_); refine x_fieldAddr_po tbOk rfl rfl rfl rfl ?_)  | refine x_none rfl ?_  )
        with_reducible refine k_store ?_
        refine x_store_po (L' := (B ++ [(⟨q.from_, max q.until_ x.until_⟩ : Spn)]).map Spn.av) tbOk rfl rfl rfl rfl rfl rfl rfl rfl rfl ?_ ?_ (spn_sz _) ?_ ?_
        · rw [hoff, flat_len2]; simp; omega
        · simp
        · rw [hoff]; exact flat_put B q _
        repeat (first | ((with_reducible refine k_move ?_); refine m_move rfl ?_) | ((with_reducible refine k_bin ?_); refine x_add_in rfl rfl (by omega) ?_)  | refine e_nrm ?_ | refine e_drw (by kernel_rfl) ?_ | refine x_none rfl ?_ | with_reducible refine q_then ?_ | with_reducible refine q_then_exit ?_ | with_reducible refine awp_exit ?_ | ((with_reducible refine q_block_exit ?_ ?_); rfl) | ((with_reducible refine w_region ?_ ?_); kernel_rfl))
        exact ⟨(j + 1, B ++ [(⟨q.from_, max q.until_ x.until_⟩ : Spn)]), ⟨by show j + 1 ≤ _; omega, by simp at hA ⊢; omega, by rw [mrgFrom_snoc]; exact hf⟩, by show L.length - (j + 1) < L.length - j; omega, ⟨rfl, rfl, rfl, rfl, trivial⟩, ⟨rfl, trivial⟩⟩
      · have hc' : ¬ x.from_ ≤ q.until_ := by simpa using hc
        rw [mrgGo, if_neg hc'] at hf
        have hN : ∀ y ∈ [x.av], allOne y.cells = true := fun y hy => by simp at hy; subst hy; rfl
        repeat (first | ((with_reducible refine k_move ?_); refine m_move rfl ?_) | ((with_reducible refine k_load ?_); refine x_load_agg tbOk rfl rfl rfl rfl (Nat.le_of_ble_eq_true rfl) ?_) | ((with_reducible refine k_buildSlice ?_); refine m_buildSlice tbOk rfl rfl rfl rfl rfl (by omega) rfl rfl rfl ?_) | refine x_none rfl ?_ | with_reducible refine q_then ?_ | with_reducible refine awp_skip ?_ | ((with_reducible refine w_region ?_ ?_); kernel_rfl))
        refine x_append_own tbOk rfl rfl rfl rfl rfl (by decide) rfl rfl rfl rfl rfl hN (by simp at hA ⊢; omega) (by simp at hA ⊢; omega) ?_
        repeat (first | ((with_reducible refine k_move ?_); refine m_move rfl ?_) | ((with_reducible refine k_assign ?_); refine m_assign rfl ?_) | ((with_reducible refine k_bin ?_); refine x_add_in rfl rfl (by omega) ?_)  | refine e_nrm ?_ | refine x_none rfl ?_ | with_reducible refine q_then ?_ | with_reducible refine q_block ?_ | ((with_reducible refine w_region ?_ ?_); kernel_rfl))
        refine ⟨(j + 1, B ++ [q] ++ [x]), ⟨by show j + 1 ≤ _; omega, by simp at hA ⊢; omega, by rw [mrgFrom_snoc, List.append_assoc]; exact hf⟩, by show L.length - (j + 1) < L.length - j; omega, ⟨rfl, rfl, rfl, rfl, trivial⟩, ⟨hc_buf ?_, trivial⟩⟩
        show (B ++ [q]).map Spn.av ++ [x.av] = (B ++ [q] ++ [x]).map Spn.av
        simp
  · have hje : j = L.length := by have : ¬ j < L.length := by simpa using h
                                  omega
    subst hje
    rw [List.drop_of_length_le (by rw [isort_len]; omega)] at hf
    have hA2 : A = mrg (isort ltS L) := by
      rw [← hf]
      unfold mrgFrom
      cases hg : A.getLast? with
      | none => rw [List.getLast?_eq_none_iff.1 hg]; rfl
      | some q =>
        obtain ⟨B, rfl⟩ := List.getLast?_eq_some_iff.1 hg
        simp [mrgGo]
    subst hA2
    repeat (first | ((with_reducible refine k_move ?_); refine m_move rfl ?_) | ((with_reducible refine k_assign ?_); refine m_assign rfl ?_)  | refine e_nrm ?_ | refine x_none rfl ?_ | with_reducible refine q_then ?_ | with_reducible refine q_then_exit ?_ | with_reducible refine awp_seq ?_ | with_reducible refine awp_exit ?_ | with_reducible refine awp_ret ?_ | ((with_reducible refine q_block_exit ?_ ?_); rfl) | ((with_reducible refine w_region ?_ ?_); kernel_rfl))
    refine ret0_2 (by first | exact .inr rfl | exact .inl rfl) rfl rfl rfl ?_
    repeat' (first | exact trivial | exact Ren.v _ | exact Ren.sl _ _ | exact Ren.ep _ | exact Ren.ptr _ _ _ _ rfl | exact Ren.bs _ _ _ _ _ rfl | exact Ren.nil _ | exact Ren.own _ _ _ _ ⟨_, rfl⟩ | refine ren_ag ?_ | refine ren_tu ?_ | refine ren_fn ?_ | refine ⟨?_, ?_⟩)
end Go.Proofs.YtdejgacclogaiaaDoor
