/- calendar.Valid, Overlap, Union, Minutes at few spans, and what the laws need beside, by the abstract machine; conditions: none. -/
import Derived.Test.YtdejgacclogaiaaDoorIsB
import Derived.Test.YtdejgacclogaiaaDoorSnP
import Derived.Test.YtdejgacclogaiaaDoorSlP
import Derived.Test.YtdejgacclogaiaaDoorDkA
set_option linter.unusedVariables false
set_option linter.unusedSimpArgs false
namespace Go.Proofs.YtdejgacclogaiaaDoor
open Go Go.RowKit
set_option maxRecDepth 10000
variable {G : Nat → Option (List Value)}
theorem spn_at {L : List Spn} {k : Nat} {x : Spn} (h : L[k]? = some x) : (L.map Spn.av)[k]? = some x.av := by rw [List.getElem?_map, h]; rfl
theorem spn_one (L : List Spn) : ∀ x ∈ L.map Spn.av, allOne x.cells = true := fun x hx => by
  obtain ⟨y, -, rfl⟩ := List.mem_map.1 hx
  rfl
theorem spn_sz (L : List Spn) : ∀ x ∈ L.map Spn.av, x.cells.length = 2 := fun x hx => by
  obtain ⟨y, -, rfl⟩ := List.mem_map.1 hx
  rfl
theorem spn_pu (L : List Spn) : ∀ x ∈ L.map Spn.av, pureL x.cells = true := fun x hx => by
  obtain ⟨y, -, rfl⟩ := List.mem_map.1 hx
  rfl
theorem valid_A (s : Spn) : ACalls Tryd.prog G 32 [s.av] [] (.v (.bool (validB s))) [] := by
  refine acalls_of tbOk (enter_of Tryd.func32 (by kernel_rfl) rfl) Tryd.func32 rfl _ Tryd.ntmps32 (Nat.le_of_ble_eq_true rfl) fun X hX => ?_
  subst hX
  repeat' (first | ((with_reducible refine k_move ?_); refine m_move rfl ?_) | ((with_reducible refine k_assign ?_); refine m_assign rfl ?_) | ((with_reducible refine k_fieldAddr ?_); refine x_fieldAddr_ptr tbOk rfl rfl rfl rfl ?_) | ((with_reducible refine k_load ?_); refine x_load_one tbOk rfl rfl rfl rfl rfl ?_) | ((with_reducible refine k_box ?_); refine m_box rfl rfl rfl ?_) | ((with_reducible refine k_pick ?_); refine m_pickt rfl (by first | rfl | assumption) rfl ?_) | ((with_reducible refine k_pick ?_); refine m_pickf rfl (by first | rfl | assumption) rfl ?_) | ((with_reducible refine k_bin ?_); refine m_binI rfl rfl rfl ?_)  | refine e_nrm ?_ | refine x_none rfl ?_ | refine x_run_t rfl rfl (by first | rfl | assumption) ?_ | refine x_skip_t rfl rfl (by first | rfl | assumption) ?_ | with_reducible refine q_then ?_ | with_reducible refine awp_seq ?_ | with_reducible refine awp_ret ?_ | ((with_reducible refine w_region ?_ ?_); kernel_rfl) | refine x_split rfl rfl (fun _ => ?_) (fun _ => ?_) | refine w_cond rfl (fun _ => ?_) (fun _ => ?_))
  all_goals refine ret_v (by first | exact .inr rfl | exact .inl rfl) rfl rfl ?_
  all_goals simp_all [validB]
  all_goals omega
theorem rvalid_A (s : Spn) : ACalls Tryd.prog G 33 [s.av] [] (.v (.bool (validB s))) [] := by
  refine acalls_of tbOk (enter_of Tryd.func33 (by kernel_rfl) rfl) Tryd.func33 rfl _ Tryd.ntmps33 (Nat.le_of_ble_eq_true rfl) fun X hX => ?_
  subst hX
  repeat' (first | ((with_reducible refine k_move ?_); refine m_move rfl ?_) | ((with_reducible refine k_assign ?_); refine m_assign rfl ?_) | ((with_reducible refine k_fieldAddr ?_); refine x_fieldAddr_ptr tbOk rfl rfl rfl rfl ?_) | ((with_reducible refine k_load ?_); refine x_load_one tbOk rfl rfl rfl rfl rfl ?_) | ((with_reducible refine k_box ?_); refine m_box rfl rfl rfl ?_) | ((with_reducible refine k_pick ?_); refine m_pickt rfl (by first | rfl | assumption) rfl ?_) | ((with_reducible refine k_pick ?_); refine m_pickf rfl (by first | rfl | assumption) rfl ?_) | ((with_reducible refine k_bin ?_); refine m_binI rfl rfl rfl ?_)  | refine e_nrm ?_ | refine x_none rfl ?_ | refine x_run_t rfl rfl (by first | rfl | assumption) ?_ | refine x_skip_t rfl rfl (by first | rfl | assumption) ?_ | with_reducible refine q_then ?_ | with_reducible refine awp_seq ?_ | with_reducible refine awp_ret ?_ | ((with_reducible refine w_region ?_ ?_); kernel_rfl) | refine x_split rfl rfl (fun _ => ?_) (fun _ => ?_) | refine w_cond rfl (fun _ => ?_) (fun _ => ?_))
  all_goals refine ret_v (by first | exact .inr rfl | exact .inl rfl) rfl rfl ?_
  all_goals simp_all [validB]
  all_goals omega
def ovS (a b : Spn) : Spn := ⟨max a.from_ b.from_, min a.until_ b.until_⟩
def ovB (a b : Spn) : Bool := validB a && validB b && validB (ovS a b)
def ovP (a b : Spn) : Spn := if ovB a b = true then ovS a b else ⟨0, 0⟩
set_option maxHeartbeats 2000000 in
theorem over_A (a b : Spn) : ACalls Tryd.prog G 30 [a.av, b.av] [] (.tu [(ovP a b).av, .v (.bool (ovB a b))]) [] := by
  refine acalls_of tbOk (enter_of Tryd.func30 (by kernel_rfl) rfl) Tryd.func30 rfl _ Tryd.ntmps30 (Nat.le_of_ble_eq_true rfl) fun X hX => ?_
  subst hX
  repeat (first | ((with_reducible refine k_assign ?_); refine m_assign rfl ?_) | ((with_reducible refine k_fieldAddr ?_); refine x_fieldAddr_ptr tbOk rfl rfl rfl rfl ?_) | ((with_reducible refine k_load ?_); refine x_load_one tbOk rfl rfl rfl rfl rfl ?_) | ((with_reducible refine k_alloc ?_); refine x_alloc tbOk rfl rfl ?_) | ((with_reducible refine k_box ?_); refine m_box rfl rfl rfl ?_)  | refine e_nrm ?_ | refine x_none rfl ?_ | with_reducible refine q_then ?_ | with_reducible refine awp_seq ?_ | ((with_reducible refine w_region ?_ ?_); kernel_rfl))
  (with_reducible refine k_call ?_); refine x_max rfl rfl ?_
  repeat (first | ((with_reducible refine k_fieldAddr ?_); refine x_fieldAddr_ptr tbOk rfl rfl rfl rfl ?_) | ((with_reducible refine k_load ?_); refine x_load_one tbOk rfl rfl rfl rfl rfl ?_)  | refine x_none rfl ?_  )
  (with_reducible refine k_call ?_); refine x_min rfl rfl ?_
  repeat (first | ((with_reducible refine k_load ?_); refine x_load_agg tbOk rfl rfl rfl rfl (Nat.le_of_ble_eq_true rfl) ?_) | ((with_reducible refine k_store ?_); refine m_store tbOk rfl rfl rfl rfl rfl rfl rfl (Nat.le_of_ble_eq_true rfl) rfl ?_) | ((with_reducible refine k_alloc ?_); refine x_alloc tbOk rfl rfl ?_) | ((with_reducible refine k_build ?_); refine m_build tbOk rfl rfl rfl rfl rfl ?_)  | refine e_nrm ?_ | refine x_none rfl ?_ | with_reducible refine q_then ?_ | with_reducible refine awp_seq ?_ | ((with_reducible refine w_region ?_ ?_); kernel_rfl))
  refine x_call0 (valid_A a) (by repeat' (first | exact trivial | exact Ren.v _ | exact Ren.sl _ _ | exact Ren.ep _ | exact Ren.ptr _ _ _ _ rfl | exact Ren.bs _ _ _ _ _ rfl | exact Ren.nil _ | exact Ren.own _ _ _ _ ⟨_, rfl⟩ | refine ren_ag ?_ | refine ren_tu ?_ | refine ren_fn ?_ | refine ⟨?_, ?_⟩)) (by repeat' (first | exact trivial | exact RenB.v _ | exact RenB.sl _ _ | exact RenB.ep _ | exact RenB.ptr _ _ _ _ rfl | refine renb_ag ?_ | refine renb_tu ?_ | refine ⟨?_, ?_⟩)) ?_
  repeat (first | ((with_reducible refine k_move ?_); refine m_move rfl ?_) | ((with_reducible refine k_un ?_); refine x_not rfl ?_)  | refine x_none rfl ?_  )
  cases ha : validB a
  · have e1 : ovB a b = false := by unfold ovB; rw [ha]; rfl
    have e2 : ovP a b = ⟨0, 0⟩ := by unfold ovP; rw [e1]; rfl
    rw [e1, e2]
    repeat (first | ((with_reducible refine k_move ?_); refine m_move rfl ?_) | ((with_reducible refine k_assign ?_); refine m_assign rfl ?_) | ((with_reducible refine k_store ?_); refine m_store tbOk rfl rfl rfl rfl rfl rfl rfl (Nat.le_of_ble_eq_true rfl) rfl ?_) | ((with_reducible refine k_pick ?_); refine m_pickt rfl (by first | rfl | assumption) rfl ?_) | ((with_reducible refine k_build ?_); refine m_build tbOk rfl rfl rfl rfl rfl ?_)  | refine e_nrm ?_ | refine x_none rfl ?_ | refine x_skip_f rfl rfl (by first | rfl | assumption) ?_ | with_reducible refine q_then ?_ | with_reducible refine q_then_ret ?_ | with_reducible refine awp_seq ?_ | with_reducible refine awp_ret ?_ | ((with_reducible refine w_region ?_ ?_); kernel_rfl) | refine w_cond_t rfl (by first | rfl | assumption) ?_)
    refine ret0_ct (by first | exact .inr rfl | exact .inl rfl) rfl rfl rfl rfl rfl rfl ?_
    repeat' (first | exact trivial | exact Ren.v _ | exact Ren.sl _ _ | exact Ren.ep _ | exact Ren.ptr _ _ _ _ rfl | exact Ren.bs _ _ _ _ _ rfl | exact Ren.nil _ | exact Ren.own _ _ _ _ ⟨_, rfl⟩ | refine ren_ag ?_ | refine ren_tu ?_ | refine ren_fn ?_ | refine ⟨?_, ?_⟩)
  repeat (first | ((with_reducible refine k_load ?_); refine x_load_agg tbOk rfl rfl rfl rfl (Nat.le_of_ble_eq_true rfl) ?_)  | refine x_run_f rfl rfl (by first | rfl | assumption) ?_  )
  refine x_call0 (valid_A b) (by repeat' (first | exact trivial | exact Ren.v _ | exact Ren.sl _ _ | exact Ren.ep _ | exact Ren.ptr _ _ _ _ rfl | exact Ren.bs _ _ _ _ _ rfl | exact Ren.nil _ | exact Ren.own _ _ _ _ ⟨_, rfl⟩ | refine ren_ag ?_ | refine ren_tu ?_ | refine ren_fn ?_ | refine ⟨?_, ?_⟩)) (by repeat' (first | exact trivial | exact RenB.v _ | exact RenB.sl _ _ | exact RenB.ep _ | exact RenB.ptr _ _ _ _ rfl | refine renb_ag ?_ | refine renb_tu ?_ | refine ⟨?_, ?_⟩)) ?_
  repeat (first | ((with_reducible refine k_move ?_); refine m_move rfl ?_) | ((with_reducible refine k_un ?_); refine x_not rfl ?_) | ((with_reducible refine k_pick ?_); refine m_pickf rfl (by first | rfl | assumption) rfl ?_)  | refine x_none rfl ?_ | refine x_run_f rfl rfl (by first | rfl | assumption) ?_  )
  cases hb : validB b
  · have e1 : ovB a b = false := by unfold ovB; rw [ha, hb]; rfl
    have e2 : ovP a b = ⟨0, 0⟩ := by unfold ovP; rw [e1]; rfl
    rw [e1, e2]
    repeat (first | ((with_reducible refine k_assign ?_); refine m_assign rfl ?_) | ((with_reducible refine k_store ?_); refine m_store tbOk rfl rfl rfl rfl rfl rfl rfl (Nat.le_of_ble_eq_true rfl) rfl ?_) | ((with_reducible refine k_pick ?_); refine m_pickt rfl (by first | rfl | assumption) rfl ?_) | ((with_reducible refine k_build ?_); refine m_build tbOk rfl rfl rfl rfl rfl ?_)  | refine e_nrm ?_ | refine x_none rfl ?_ | refine x_skip_f rfl rfl (by first | rfl | assumption) ?_ | with_reducible refine q_then ?_ | with_reducible refine q_then_ret ?_ | with_reducible refine awp_seq ?_ | with_reducible refine awp_ret ?_ | ((with_reducible refine w_region ?_ ?_); kernel_rfl) | refine w_cond_t rfl (by first | rfl | assumption) ?_)
    refine ret0_ct (by first | exact .inr rfl | exact .inl rfl) rfl rfl rfl rfl rfl rfl ?_
    repeat' (first | exact trivial | exact Ren.v _ | exact Ren.sl _ _ | exact Ren.ep _ | exact Ren.ptr _ _ _ _ rfl | exact Ren.bs _ _ _ _ _ rfl | exact Ren.nil _ | exact Ren.own _ _ _ _ ⟨_, rfl⟩ | refine ren_ag ?_ | refine ren_tu ?_ | refine ren_fn ?_ | refine ⟨?_, ?_⟩)
  repeat (first | ((with_reducible refine k_load ?_); refine x_load_agg tbOk rfl rfl rfl rfl (Nat.le_of_ble_eq_true rfl) ?_)  | refine x_run_f rfl rfl (by first | rfl | assumption) ?_  )
  refine x_call0 (valid_A (ovS a b)) (by repeat' (first | exact trivial | exact Ren.v _ | exact Ren.sl _ _ | exact Ren.ep _ | exact Ren.ptr _ _ _ _ rfl | exact Ren.bs _ _ _ _ _ rfl | exact Ren.nil _ | exact Ren.own _ _ _ _ ⟨_, rfl⟩ | refine ren_ag ?_ | refine ren_tu ?_ | refine ren_fn ?_ | refine ⟨?_, ?_⟩)) (by repeat' (first | exact trivial | exact RenB.v _ | exact RenB.sl _ _ | exact RenB.ep _ | exact RenB.ptr _ _ _ _ rfl | refine renb_ag ?_ | refine renb_tu ?_ | refine ⟨?_, ?_⟩)) ?_
  repeat (first | ((with_reducible refine k_un ?_); refine x_not rfl ?_) | ((with_reducible refine k_pick ?_); refine m_pickf rfl (by first | rfl | assumption) rfl ?_)  | refine e_nrm ?_ | refine x_none rfl ?_ | refine x_run_f rfl rfl (by first | rfl | assumption) ?_ | with_reducible refine q_then ?_ )
  cases hc : validB (ovS a b)
  · have e1 : ovB a b = false := by unfold ovB; rw [ha, hb, hc]; rfl
    have e2 : ovP a b = ⟨0, 0⟩ := by unfold ovP; rw [e1]; rfl
    rw [e1, e2]
    repeat (first | ((with_reducible refine k_assign ?_); refine m_assign rfl ?_) | ((with_reducible refine k_store ?_); refine m_store tbOk rfl rfl rfl rfl rfl rfl rfl (Nat.le_of_ble_eq_true rfl) rfl ?_) | ((with_reducible refine k_build ?_); refine m_build tbOk rfl rfl rfl rfl rfl ?_)  | refine e_nrm ?_ | refine x_none rfl ?_ | with_reducible refine q_then ?_ | with_reducible refine q_then_ret ?_ | with_reducible refine awp_seq ?_ | with_reducible refine awp_ret ?_ | ((with_reducible refine w_region ?_ ?_); kernel_rfl) | refine w_cond_t rfl (by first | rfl | assumption) ?_)
    refine ret0_ct (by first | exact .inr rfl | exact .inl rfl) rfl rfl rfl rfl rfl rfl ?_
    repeat' (first | exact trivial | exact Ren.v _ | exact Ren.sl _ _ | exact Ren.ep _ | exact Ren.ptr _ _ _ _ rfl | exact Ren.bs _ _ _ _ _ rfl | exact Ren.nil _ | exact Ren.own _ _ _ _ ⟨_, rfl⟩ | refine ren_ag ?_ | refine ren_tu ?_ | refine ren_fn ?_ | refine ⟨?_, ?_⟩)
  · have e1 : ovB a b = true := by unfold ovB; rw [ha, hb, hc]; rfl
    have e2 : ovP a b = ovS a b := by unfold ovP; rw [e1]; rfl
    rw [e1, e2]
    repeat (first | ((with_reducible refine k_assign ?_); refine m_assign rfl ?_) | ((with_reducible refine k_load ?_); refine x_load_agg tbOk rfl rfl rfl rfl (Nat.le_of_ble_eq_true rfl) ?_) | ((with_reducible refine k_store ?_); refine m_store tbOk rfl rfl rfl rfl rfl rfl rfl (Nat.le_of_ble_eq_true rfl) rfl ?_)  | refine e_nrm ?_ | refine x_none rfl ?_ | with_reducible refine q_then ?_ | with_reducible refine awp_seq ?_ | with_reducible refine awp_skip ?_ | with_reducible refine awp_ret ?_ | ((with_reducible refine w_region ?_ ?_); kernel_rfl) | refine w_cond_f rfl (by first | rfl | assumption) ?_)
    refine ret0_ct (by first | exact .inr rfl | exact .inl rfl) rfl rfl rfl rfl rfl rfl ?_
    repeat' (first | exact trivial | exact Ren.v _ | exact Ren.sl _ _ | exact Ren.ep _ | exact Ren.ptr _ _ _ _ rfl | exact Ren.bs _ _ _ _ _ rfl | exact Ren.nil _ | exact Ren.own _ _ _ _ ⟨_, rfl⟩ | refine ren_ag ?_ | refine ren_tu ?_ | refine ren_fn ?_ | refine ⟨?_, ?_⟩)
set_option maxHeartbeats 2000000 in
theorem rover_A (a b : Spn) : ACalls Tryd.prog G 31 [a.av, b.av] [] (.tu [(ovP a b).av, .v (.bool (ovB a b))]) [] := by
  refine acalls_of tbOk (enter_of Tryd.func31 (by kernel_rfl) rfl) Tryd.func31 rfl _ Tryd.ntmps31 (Nat.le_of_ble_eq_true rfl) fun X hX => ?_
  subst hX
  repeat (first | ((with_reducible refine k_assign ?_); refine m_assign rfl ?_) | ((with_reducible refine k_fieldAddr ?_); refine x_fieldAddr_ptr tbOk rfl rfl rfl rfl ?_) | ((with_reducible refine k_load ?_); refine x_load_one tbOk rfl rfl rfl rfl rfl ?_) | ((with_reducible refine k_alloc ?_); refine x_alloc tbOk rfl rfl ?_) | ((with_reducible refine k_box ?_); refine m_box rfl rfl rfl ?_)  | refine e_nrm ?_ | refine x_none rfl ?_ | with_reducible refine q_then ?_ | with_reducible refine awp_seq ?_ | ((with_reducible refine w_region ?_ ?_); kernel_rfl))
  (with_reducible refine k_call ?_); refine x_max rfl rfl ?_
  repeat (first | ((with_reducible refine k_fieldAddr ?_); refine x_fieldAddr_ptr tbOk rfl rfl rfl rfl ?_) | ((with_reducible refine k_load ?_); refine x_load_one tbOk rfl rfl rfl rfl rfl ?_)  | refine x_none rfl ?_  )
  (with_reducible refine k_call ?_); refine x_min rfl rfl ?_
  repeat (first | ((with_reducible refine k_load ?_); refine x_load_agg tbOk rfl rfl rfl rfl (Nat.le_of_ble_eq_true rfl) ?_) | ((with_reducible refine k_store ?_); refine m_store tbOk rfl rfl rfl rfl rfl rfl rfl (Nat.le_of_ble_eq_true rfl) rfl ?_) | ((with_reducible refine k_alloc ?_); refine x_alloc tbOk rfl rfl ?_) | ((with_reducible refine k_build ?_); refine m_build tbOk rfl rfl rfl rfl rfl ?_)  | refine e_nrm ?_ | refine x_none rfl ?_ | with_reducible refine q_then ?_ | with_reducible refine awp_seq ?_ | ((with_reducible refine w_region ?_ ?_); kernel_rfl))
  refine x_call0 (rvalid_A a) (by repeat' (first | exact trivial | exact Ren.v _ | exact Ren.sl _ _ | exact Ren.ep _ | exact Ren.ptr _ _ _ _ rfl | exact Ren.bs _ _ _ _ _ rfl | exact Ren.nil _ | exact Ren.own _ _ _ _ ⟨_, rfl⟩ | refine ren_ag ?_ | refine ren_tu ?_ | refine ren_fn ?_ | refine ⟨?_, ?_⟩)) (by repeat' (first | exact trivial | exact RenB.v _ | exact RenB.sl _ _ | exact RenB.ep _ | exact RenB.ptr _ _ _ _ rfl | refine renb_ag ?_ | refine renb_tu ?_ | refine ⟨?_, ?_⟩)) ?_
  repeat (first | ((with_reducible refine k_move ?_); refine m_move rfl ?_) | ((with_reducible refine k_un ?_); refine x_not rfl ?_)  | refine x_none rfl ?_  )
  cases ha : validB a
  · have e1 : ovB a b = false := by unfold ovB; rw [ha]; rfl
    have e2 : ovP a b = ⟨0, 0⟩ := by unfold ovP; rw [e1]; rfl
    rw [e1, e2]
    repeat (first | ((with_reducible refine k_move ?_); refine m_move rfl ?_) | ((with_reducible refine k_assign ?_); refine m_assign rfl ?_) | ((with_reducible refine k_store ?_); refine m_store tbOk rfl rfl rfl rfl rfl rfl rfl (Nat.le_of_ble_eq_true rfl) rfl ?_) | ((with_reducible refine k_pick ?_); refine m_pickt rfl (by first | rfl | assumption) rfl ?_) | ((with_reducible refine k_build ?_); refine m_build tbOk rfl rfl rfl rfl rfl ?_)  | refine e_nrm ?_ | refine x_none rfl ?_ | refine x_skip_f rfl rfl (by first | rfl | assumption) ?_ | with_reducible refine q_then ?_ | with_reducible refine q_then_ret ?_ | with_reducible refine awp_seq ?_ | with_reducible refine awp_ret ?_ | ((with_reducible refine w_region ?_ ?_); kernel_rfl) | refine w_cond_t rfl (by first | rfl | assumption) ?_)
    refine ret0_ct (by first | exact .inr rfl | exact .inl rfl) rfl rfl rfl rfl rfl rfl ?_
    repeat' (first | exact trivial | exact Ren.v _ | exact Ren.sl _ _ | exact Ren.ep _ | exact Ren.ptr _ _ _ _ rfl | exact Ren.bs _ _ _ _ _ rfl | exact Ren.nil _ | exact Ren.own _ _ _ _ ⟨_, rfl⟩ | refine ren_ag ?_ | refine ren_tu ?_ | refine ren_fn ?_ | refine ⟨?_, ?_⟩)
  repeat (first | ((with_reducible refine k_load ?_); refine x_load_agg tbOk rfl rfl rfl rfl (Nat.le_of_ble_eq_true rfl) ?_)  | refine x_run_f rfl rfl (by first | rfl | assumption) ?_  )
  refine x_call0 (rvalid_A b) (by repeat' (first | exact trivial | exact Ren.v _ | exact Ren.sl _ _ | exact Ren.ep _ | exact Ren.ptr _ _ _ _ rfl | exact Ren.bs _ _ _ _ _ rfl | exact Ren.nil _ | exact Ren.own _ _ _ _ ⟨_, rfl⟩ | refine ren_ag ?_ | refine ren_tu ?_ | refine ren_fn ?_ | refine ⟨?_, ?_⟩)) (by repeat' (first | exact trivial | exact RenB.v _ | exact RenB.sl _ _ | exact RenB.ep _ | exact RenB.ptr _ _ _ _ rfl | refine renb_ag ?_ | refine renb_tu ?_ | refine ⟨?_, ?_⟩)) ?_
  repeat (first | ((with_reducible refine k_move ?_); refine m_move rfl ?_) | ((with_reducible refine k_un ?_); refine x_not rfl ?_) | ((with_reducible refine k_pick ?_); refine m_pickf rfl (by first | rfl | assumption) rfl ?_)  | refine x_none rfl ?_ | refine x_run_f rfl rfl (by first | rfl | assumption) ?_  )
  cases hb : validB b
  · have e1 : ovB a b = false := by unfold ovB; rw [ha, hb]; rfl
    have e2 : ovP a b = ⟨0, 0⟩ := by unfold ovP; rw [e1]; rfl
    rw [e1, e2]
    repeat (first | ((with_reducible refine k_assign ?_); refine m_assign rfl ?_) | ((with_reducible refine k_store ?_); refine m_store tbOk rfl rfl rfl rfl rfl rfl rfl (Nat.le_of_ble_eq_true rfl) rfl ?_) | ((with_reducible refine k_pick ?_); refine m_pickt rfl (by first | rfl | assumption) rfl ?_) | ((with_reducible refine k_build ?_); refine m_build tbOk rfl rfl rfl rfl rfl ?_)  | refine e_nrm ?_ | refine x_none rfl ?_ | refine x_skip_f rfl rfl (by first | rfl | assumption) ?_ | with_reducible refine q_then ?_ | with_reducible refine q_then_ret ?_ | with_reducible refine awp_seq ?_ | with_reducible refine awp_ret ?_ | ((with_reducible refine w_region ?_ ?_); kernel_rfl) | refine w_cond_t rfl (by first | rfl | assumption) ?_)
    refine ret0_ct (by first | exact .inr rfl | exact .inl rfl) rfl rfl rfl rfl rfl rfl ?_
    repeat' (first | exact trivial | exact Ren.v _ | exact Ren.sl _ _ | exact Ren.ep _ | exact Ren.ptr _ _ _ _ rfl | exact Ren.bs _ _ _ _ _ rfl | exact Ren.nil _ | exact Ren.own _ _ _ _ ⟨_, rfl⟩ | refine ren_ag ?_ | refine ren_tu ?_ | refine ren_fn ?_ | refine ⟨?_, ?_⟩)
  repeat (first | ((with_reducible refine k_load ?_); refine x_load_agg tbOk rfl rfl rfl rfl (Nat.le_of_ble_eq_true rfl) ?_)  | refine x_run_f rfl rfl (by first | rfl | assumption) ?_  )
  refine x_call0 (rvalid_A (ovS a b)) (by repeat' (first | exact trivial | exact Ren.v _ | exact Ren.sl _ _ | exact Ren.ep _ | exact Ren.ptr _ _ _ _ rfl | exact Ren.bs _ _ _ _ _ rfl | exact Ren.nil _ | exact Ren.own _ _ _ _ ⟨_, rfl⟩ | refine ren_ag ?_ | refine ren_tu ?_ | refine ren_fn ?_ | refine ⟨?_, ?_⟩)) (by repeat' (first | exact trivial | exact RenB.v _ | exact RenB.sl _ _ | exact RenB.ep _ | exact RenB.ptr _ _ _ _ rfl | refine renb_ag ?_ | refine renb_tu ?_ | refine ⟨?_, ?_⟩)) ?_
  repeat (first | ((with_reducible refine k_un ?_); refine x_not rfl ?_) | ((with_reducible refine k_pick ?_); refine m_pickf rfl (by first | rfl | assumption) rfl ?_)  | refine e_nrm ?_ | refine x_none rfl ?_ | refine x_run_f rfl rfl (by first | rfl | assumption) ?_ | with_reducible refine q_then ?_ )
  cases hc : validB (ovS a b)
  · have e1 : ovB a b = false := by unfold ovB; rw [ha, hb, hc]; rfl
    have e2 : ovP a b = ⟨0, 0⟩ := by unfold ovP; rw [e1]; rfl
    rw [e1, e2]
    repeat (first | ((with_reducible refine k_assign ?_); refine m_assign rfl ?_) | ((with_reducible refine k_store ?_); refine m_store tbOk rfl rfl rfl rfl rfl rfl rfl (Nat.le_of_ble_eq_true rfl) rfl ?_) | ((with_reducible refine k_build ?_); refine m_build tbOk rfl rfl rfl rfl rfl ?_)  | refine e_nrm ?_ | refine x_none rfl ?_ | with_reducible refine q_then ?_ | with_reducible refine q_then_ret ?_ | with_reducible refine awp_seq ?_ | with_reducible refine awp_ret ?_ | ((with_reducible refine w_region ?_ ?_); kernel_rfl) | refine w_cond_t rfl (by first | rfl | assumption) ?_)
    refine ret0_ct (by first | exact .inr rfl | exact .inl rfl) rfl rfl rfl rfl rfl rfl ?_
    repeat' (first | exact trivial | exact Ren.v _ | exact Ren.sl _ _ | exact Ren.ep _ | exact Ren.ptr _ _ _ _ rfl | exact Ren.bs _ _ _ _ _ rfl | exact Ren.nil _ | exact Ren.own _ _ _ _ ⟨_, rfl⟩ | refine ren_ag ?_ | refine ren_tu ?_ | refine ren_fn ?_ | refine ⟨?_, ?_⟩)
  · have e1 : ovB a b = true := by unfold ovB; rw [ha, hb, hc]; rfl
    have e2 : ovP a b = ovS a b := by unfold ovP; rw [e1]; rfl
    rw [e1, e2]
    repeat (first | ((with_reducible refine k_assign ?_); refine m_assign rfl ?_) | ((with_reducible refine k_load ?_); refine x_load_agg tbOk rfl rfl rfl rfl (Nat.le_of_ble_eq_true rfl) ?_) | ((with_reducible refine k_store ?_); refine m_store tbOk rfl rfl rfl rfl rfl rfl rfl (Nat.le_of_ble_eq_true rfl) rfl ?_)  | refine e_nrm ?_ | refine x_none rfl ?_ | with_reducible refine q_then ?_ | with_reducible refine awp_seq ?_ | with_reducible refine awp_skip ?_ | with_reducible refine awp_ret ?_ | ((with_reducible refine w_region ?_ ?_); kernel_rfl) | refine w_cond_f rfl (by first | rfl | assumption) ?_)
    refine ret0_ct (by first | exact .inr rfl | exact .inl rfl) rfl rfl rfl rfl rfl rfl ?_
    repeat' (first | exact trivial | exact Ren.v _ | exact Ren.sl _ _ | exact Ren.ep _ | exact Ren.ptr _ _ _ _ rfl | exact Ren.bs _ _ _ _ _ rfl | exact Ren.nil _ | exact Ren.own _ _ _ _ ⟨_, rfl⟩ | refine ren_ag ?_ | refine ren_tu ?_ | refine ren_fn ?_ | refine ⟨?_, ?_⟩)
end Go.Proofs.YtdejgacclogaiaaDoor
