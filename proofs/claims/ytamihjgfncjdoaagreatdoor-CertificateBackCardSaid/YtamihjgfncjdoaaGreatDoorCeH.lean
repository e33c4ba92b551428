/- certificate: lock, read, Parse, by the abstract machine: a text is read as the plain function reads it; conditions: the table of classes and a cell of the library stand. -/
import Derived.Test.YtamihjgfncjdoaaGreatDoorCeG
import Derived.Test.YtamihjgfncjdoaaGreatDoorCmA
import Derived.Test.YtamihjgfncjdoaaGreatDoorCeA
import Derived.Test.YtamihjgfncjdoaaGreatDoorAbsD
import Derived.Test.YtamihjgfncjdoaaGreatDoorAbsT
import Derived.Test.YtamihjgfncjdoaaGreatDoorGnP
set_option linter.unusedVariables false
set_option linter.unusedSimpArgs false
namespace Go.Proofs.YtamihjgfncjdoaaGreatDoor
open Go Go.RowKit
set_option maxRecDepth 10000
variable {G : Nat → Option (List Value)}
/-- What is asked of a network that texts are read against. -/
structure NwS (N : List Nd) (V : List Dv) : Prop extends NwOk N V where
  nt : netE N V = 0
theorem wat_sv {L : List (List UInt8)} {k : Nat} (h : k < L.length) : (L.map svL)[k]? = some (svL (wAt L k)) := by
  obtain ⟨x, hx⟩ := some_at h
  unfold wAt
  rw [hx, List.getElem?_map, hx]; rfl
theorem wat_at {W : List (List UInt8)} {k n : Nat} (h : n ≤ W.length) (hk : k < n) : (W.map svL)[((k : Nat) : Int).toNat]? = some (svL (wAt W k)) := wat_sv (by omega)
theorem posR_idx (w : List UInt8) : idxL w 0 [openW, closedW] + 1 = posR w := by
  unfold posR
  rw [idxL]
  split
  · rfl
  · rw [idxL]
    split
    · rfl
    · rfl
theorem posR_rng (w : List UInt8) : 0 ≤ posR w ∧ posR w ≤ 2 := by
  unfold posR
  split
  · exact ⟨by decide, by decide⟩
  · split <;> exact ⟨by decide, by decide⟩
theorem seq_L (a b : List UInt8) : strEq (strL a) (strL b) = decide (a = b) := by
  rw [Bool.eq_iff_iff, strEq_L, decide_eq_true_iff]
set_option maxHeartbeats 8000000 in
theorem lock_A (N : List Nd) (V : List Dv) (W : List (List UInt8)) (hG : GCls G) (ok : NwS N V) (h5 : 5 ≤ W.length) (hw : ∀ w ∈ W, w.length ≤ 1000000) :
    ACalls Tryz.prog G 48 [netAV N V, .sl 1 (W.map svL)] [] (.tu [(lockR V W).1.av, .v (.bool (lockR V W).2)]) [] := by
  have hl : ∀ k, k < 5 → (wAt W k).length ≤ 1000000 := fun k hk => by
    obtain ⟨x, hx⟩ := some_at (L := W) (k := k) (by omega)
    have : wAt W k = x := by unfold wAt; rw [hx]; rfl
    rw [this]; exact hw x (List.mem_of_getElem? hx)
  have hml : (W.map svL).length = W.length := by simp
  have z0 : (W.map svL)[(0 : Int).toNat]? = some (svL (wAt W 0)) := wat_at h5 (by decide)
  have z1 : (W.map svL)[(1 : Int).toNat]? = some (svL (wAt W 1)) := wat_at h5 (by decide)
  have z2 : (W.map svL)[(2 : Int).toNat]? = some (svL (wAt W 2)) := wat_at h5 (by decide)
  have z3 : (W.map svL)[(3 : Int).toNat]? = some (svL (wAt W 3)) := wat_at h5 (by decide)
  have z4 : (W.map svL)[(4 : Int).toNat]? = some (svL (wAt W 4)) := wat_at h5 (by decide)
  have hn := number_A (G := G) (strL (wAt W 4)) 65536 (by rw [strL_size]; have := hl 4 (by decide); unfold maxLen; omega) (by omega) (by omega)
  rw [strL_data] at hn
  have hi : ACalls Tryz.prog G 75 [.sl 1 [.v (.string ⟨#[111, 112, 101, 110]⟩), .v (.string ⟨#[99, 108, 111, 115, 101, 100]⟩)], svL (wAt W 2)] [] (.v (.int .i64 (idxL (wAt W 2) 0 [openW, closedW]))) [] := sidx_A (G := G) [openW, closedW] (wAt W 2) (by decide)
  have hpr := posR_idx (wAt W 2)
  have hir : -1 ≤ idxL (wAt W 2) 0 [openW, closedW] ∧ idxL (wAt W 2) 0 [openW, closedW] ≤ 1 := by
    have := posR_rng (wAt W 2)
    omega
  have hd := ndev_A (G := G) N V (strL (wAt W 1)) hG ok.toNwOk
  unfold devF at hd
  rw [if_neg (by rw [ok.nt]; decide), strL_data] at hd
  unfold lockR
  obtain ⟨B, hB⟩ : ∃ B, B = ((numP (wAt W 4) 65536).isSome && decide (0 < posR (wAt W 2)) && decide (wAt W 0 = wLock) && !decide (wAt W 1 = []) && decide (wAt W 3 = wKey)) := ⟨_, rfl⟩
  dsimp only
  rw [← hB]
  rw [← hpr] at hB ⊢
  generalize idxL (wAt W 2) 0 [openW, closedW] = ix at hi hir hB ⊢
  generalize (numP (wAt W 4) 65536).getD 0 = m4 at hn ⊢
  generalize (numP (wAt W 4) 65536).isSome = b4 at hn hB ⊢
  generalize devI (wAt W 1) 0 V = dv at hd ⊢
  refine acalls_of tbOk (enter_of Tryz.func48 (by kernel_rfl) rfl) Tryz.func48 rfl _ Tryz.ntmps48 (Nat.le_of_ble_eq_true rfl) fun X hX => ?_
  subst hX
  repeat (first | ((with_reducible refine k_move ?_); refine m_move rfl ?_) | ((with_reducible refine k_assign ?_); refine m_assign rfl ?_) | ((with_reducible refine k_load ?_); refine x_load_ep_one tbOk rfl rfl rfl ?_) | ((with_reducible refine k_alloc ?_); refine x_alloc tbOk rfl rfl ?_) | ((with_reducible refine k_box ?_); refine m_box rfl rfl rfl ?_) | ((with_reducible refine k_indexAddr ?_); refine x_indexAddr_n tbOk rfl rfl rfl rfl (by assumption) ?_)  | refine e_nrm ?_ | refine x_none rfl ?_ | with_reducible (first | refine q_then ?_ | refine awp_seq ?_) | ((with_reducible refine w_region ?_ ?_); kernel_rfl))
  refine x_call0 (hn) (by repeat' (first | exact trivial | exact Ren.v _ | refine ⟨?_, ?_⟩)) (by repeat' (first | exact trivial | exact RenB.v _ | refine renb_tu ?_ | refine ⟨?_, ?_⟩)) ?_
  repeat (first | ((with_reducible refine k_move ?_); refine m_move rfl ?_) | ((with_reducible refine k_assign ?_); refine m_assign rfl ?_) | ((with_reducible refine k_load ?_); refine x_load_ep_one tbOk rfl rfl rfl ?_) | ((with_reducible refine k_extract ?_); refine x_extract rfl rfl ?_) | ((with_reducible refine k_indexAddr ?_); refine x_indexAddr_n tbOk rfl rfl rfl rfl (by assumption) ?_) | ((with_reducible refine k_buildSlice ?_); refine m_buildSlice tbOk rfl rfl rfl rfl rfl (by omega) rfl rfl rfl ?_) | refine e_nrm ?_ | refine x_none rfl ?_ | with_reducible (first | refine q_then ?_ | refine awp_seq ?_) | ((with_reducible refine w_region ?_ ?_); kernel_rfl))
  refine x_call0 (hi) (by repeat' (first | exact trivial | exact Ren.v _ | exact Ren.sl _ _ | refine ⟨?_, ?_⟩)) (by repeat' exact RenB.v _) ?_
  repeat (first | ((with_reducible refine k_move ?_); refine m_move rfl ?_) | ((with_reducible refine k_assign ?_); refine m_assign rfl ?_) | ((with_reducible refine k_load ?_); (first | refine x_load_agg tbOk rfl rfl rfl rfl (Nat.le_of_ble_eq_true rfl) ?_ | refine x_load_ep_one tbOk rfl rfl rfl ?_)) | ((with_reducible refine k_indexAddr ?_); refine x_indexAddr_n tbOk rfl rfl rfl rfl (by assumption) ?_) | ((with_reducible refine k_bin ?_); refine x_add_in rfl rfl (by omega) ?_)  | refine e_nrm ?_ | refine x_none rfl ?_ | with_reducible (first | refine q_then ?_ | refine awp_seq ?_) | ((with_reducible refine w_draw mixd ?_ ?_); kernel_rfl))
  refine x_call0 (hd) (by repeat' (first | exact trivial | exact Ren.v _ | exact Ren.sl _ _ | refine ren_ag ?_ | refine ⟨?_, ?_⟩)) (by repeat' exact RenB.v _) ?_
  repeat (first | ((with_reducible refine k_move ?_); refine m_move rfl ?_) | ((with_reducible refine k_build ?_); refine m_build tbOk rfl rfl rfl rfl rfl ?_)  | refine x_none rfl ?_  )
  refine x_split rfl rfl (fun c => ?_) (fun c => ?_)
  rotate_left
  · replace c : b4 = false := c
    rw [c] at hB
    simp only [Bool.false_and, Bool.and_false] at hB
    rw [hB]
    repeat (first | ((with_reducible refine k_move ?_); refine m_move rfl ?_) | ((with_reducible refine k_assign ?_); refine m_assign rfl ?_) | ((with_reducible refine k_store ?_); refine m_store tbOk rfl rfl rfl rfl rfl rfl rfl (Nat.le_of_ble_eq_true rfl) rfl ?_) | ((with_reducible refine k_pick ?_); refine m_pickf rfl (by first | rfl | assumption) rfl ?_)  | refine e_drw (by kernel_rfl) ?_ | refine x_none rfl ?_ | refine x_skip_t rfl rfl (by first | rfl | assumption) ?_ | with_reducible (first | refine q_then ?_ | refine awp_ret ?_) )
    refine ret0_ct (by first | exact .inr rfl | exact .inl rfl) rfl rfl rfl rfl rfl rfl ?_
    repeat' (first | exact trivial | exact Ren.v _ | refine ren_ag ?_ | refine ren_tu ?_ | refine ⟨?_, ?_⟩)
  replace c : b4 = true := c
  rw [c] at hB
  simp only [Bool.true_and] at hB
  repeat (first | ((with_reducible refine k_move ?_); refine m_move rfl ?_) | ((with_reducible refine k_pick ?_); refine m_pickt rfl (by first | rfl | assumption) rfl ?_) | ((with_reducible refine k_bin ?_); refine m_binI rfl rfl rfl ?_)  | refine x_none rfl ?_ | refine x_run_t rfl rfl (by first | rfl | assumption) ?_  )
  refine x_split rfl rfl (fun c => ?_) (fun c => ?_)
  rotate_left
  · replace c : decide (0 < ix + 1) = false := c
    rw [c] at hB
    simp only [Bool.false_and, Bool.and_false] at hB
    rw [hB]
    repeat (first | ((with_reducible refine k_move ?_); refine m_move rfl ?_) | ((with_reducible refine k_assign ?_); refine m_assign rfl ?_) | ((with_reducible refine k_store ?_); refine m_store tbOk rfl rfl rfl rfl rfl rfl rfl (Nat.le_of_ble_eq_true rfl) rfl ?_) | ((with_reducible refine k_pick ?_); refine m_pickf rfl (by first | rfl | assumption) rfl ?_)  | refine e_drw (by kernel_rfl) ?_ | refine x_none rfl ?_ | refine x_skip_t rfl rfl (by first | rfl | assumption) ?_ | with_reducible (first | refine q_then ?_ | refine awp_ret ?_) )
    refine ret0_ct (by first | exact .inr rfl | exact .inl rfl) rfl rfl rfl rfl rfl rfl ?_
    repeat' (first | exact trivial | exact Ren.v _ | refine ren_ag ?_ | refine ren_tu ?_ | refine ⟨?_, ?_⟩)
  replace c : decide (0 < ix + 1) = true := c
  rw [c] at hB
  simp only [Bool.true_and] at hB
  repeat (first | ((with_reducible refine k_move ?_); refine m_move rfl ?_) | ((with_reducible refine k_load ?_); refine x_load_ep_one tbOk rfl rfl rfl ?_) | ((with_reducible refine k_pick ?_); refine m_pickt rfl (by first | rfl | assumption) rfl ?_) | ((with_reducible refine k_indexAddr ?_); refine x_indexAddr_n tbOk rfl rfl rfl rfl (by assumption) ?_) | ((with_reducible refine k_bin ?_); refine m_binS rfl rfl rfl ?_)  | refine x_none rfl ?_ | refine x_run_t rfl rfl (by first | rfl | assumption) ?_  )
  refine x_split rfl rfl (fun c => ?_) (fun c => ?_)
  rotate_left
  · have d : strEq (strL (wAt W 0)) (strL wLock) = false := c
    rw [seq_L] at d
    rw [d] at hB
    simp only [Bool.false_and] at hB
    rw [hB]
    repeat (first | ((with_reducible refine k_move ?_); refine m_move rfl ?_) | ((with_reducible refine k_assign ?_); refine m_assign rfl ?_) | ((with_reducible refine k_store ?_); refine m_store tbOk rfl rfl rfl rfl rfl rfl rfl (Nat.le_of_ble_eq_true rfl) rfl ?_) | ((with_reducible refine k_pick ?_); refine m_pickf rfl (by first | rfl | assumption) rfl ?_)  | refine e_drw (by kernel_rfl) ?_ | refine x_none rfl ?_ | refine x_skip_t rfl rfl (by first | rfl | assumption) ?_ | with_reducible (first | refine q_then ?_ | refine awp_ret ?_) )
    refine ret0_ct (by first | exact .inr rfl | exact .inl rfl) rfl rfl rfl rfl rfl rfl ?_
    repeat' (first | exact trivial | exact Ren.v _ | refine ren_ag ?_ | refine ren_tu ?_ | refine ⟨?_, ?_⟩)
  have d0 : strEq (strL (wAt W 0)) (strL wLock) = true := c
  rw [seq_L] at d0
  rw [d0] at hB
  simp only [Bool.true_and] at hB
  repeat (first | ((with_reducible refine k_move ?_); refine m_move rfl ?_) | ((with_reducible refine k_load ?_); refine x_load_ep_one tbOk rfl rfl rfl ?_) | ((with_reducible refine k_pick ?_); refine m_pickt rfl (by first | rfl | assumption) rfl ?_) | ((with_reducible refine k_indexAddr ?_); refine x_indexAddr_n tbOk rfl rfl rfl rfl (by assumption) ?_) | ((with_reducible refine k_bin ?_); refine m_binS rfl rfl rfl ?_)  | refine x_none rfl ?_ | refine x_run_t rfl rfl (by first | rfl | assumption) ?_  )
  refine x_split rfl rfl (fun c => ?_) (fun c => ?_)
  rotate_left
  · have d : (!strEq (strL (wAt W 1)) (strL [])) = false := c
    rw [seq_L] at d
    rw [d] at hB
    simp only [Bool.false_and] at hB
    rw [hB]
    repeat (first | ((with_reducible refine k_assign ?_); refine m_assign rfl ?_) | ((with_reducible refine k_store ?_); refine m_store tbOk rfl rfl rfl rfl rfl rfl rfl (Nat.le_of_ble_eq_true rfl) rfl ?_) | ((with_reducible refine k_pick ?_); refine m_pickf rfl (by first | rfl | assumption) rfl ?_)  | refine e_drw (by kernel_rfl) ?_ | refine x_none rfl ?_ | refine x_skip_t rfl rfl (by first | rfl | assumption) ?_ | with_reducible (first | refine q_then ?_ | refine awp_ret ?_) )
    refine ret0_ct (by first | exact .inr rfl | exact .inl rfl) rfl rfl rfl rfl rfl rfl ?_
    repeat' (first | exact trivial | exact Ren.v _ | refine ren_ag ?_ | refine ren_tu ?_ | refine ⟨?_, ?_⟩)
  have d1 : (!strEq (strL (wAt W 1)) (strL [])) = true := c
  rw [seq_L] at d1
  rw [d1] at hB
  simp only [Bool.true_and] at hB
  rw [hB, ← seq_L]
  repeat (first | ((with_reducible refine k_move ?_); refine m_move rfl ?_) | ((with_reducible refine k_assign ?_); refine m_assign rfl ?_) | ((with_reducible refine k_load ?_); refine x_load_ep_one tbOk rfl rfl rfl ?_) | ((with_reducible refine k_store ?_); refine m_store tbOk rfl rfl rfl rfl rfl rfl rfl (Nat.le_of_ble_eq_true rfl) rfl ?_) | ((with_reducible refine k_pick ?_); refine m_pickt rfl (by first | rfl | assumption) rfl ?_) | ((with_reducible refine k_indexAddr ?_); refine x_indexAddr_n tbOk rfl rfl rfl rfl (by assumption) ?_) | ((with_reducible refine k_bin ?_); refine m_binS rfl rfl rfl ?_)  | refine e_drw (by kernel_rfl) ?_ | refine x_none rfl ?_ | refine x_run_t rfl rfl (by first | rfl | assumption) ?_ | with_reducible (first | refine q_then ?_ | refine awp_ret ?_) )
  refine ret0_ct (by first | exact .inr rfl | exact .inl rfl) rfl rfl rfl rfl rfl rfl ?_
  repeat' (first | exact trivial | exact Ren.v _ | refine ren_ag ?_ | refine ren_tu ?_ | refine ⟨?_, ?_⟩)
theorem lifn0_A (L : List Lk) (f : FuncId) (p : Lk → Bool) (hf : ∀ x ∈ L, ACalls Tryz.prog G f [x.av] [] (.v (.bool (p x))) []) (hm : L.length ≤ 4611686018427387904) :
    ACalls Tryz.prog G 50 [.sl 3 (L.map Lk.av), .fn f []] [] (.v (.int .i64 (idxF p L 0))) [] := by
  refine acalls_of tbOk (enter_of Tryz.func50 (by kernel_rfl) rfl) Tryz.func50 rfl _ Tryz.ntmps50 (Nat.le_of_ble_eq_true rfl) fun X hX => ?_
  subst hX
  repeat (first | ((with_reducible refine k_move ?_); refine m_move rfl ?_) | ((with_reducible refine k_assign ?_); refine m_assign rfl ?_) | ((with_reducible refine k_call ?_); refine x_len tbOk rfl rfl ?_)  | refine e_nrm ?_ | refine x_none rfl ?_ | with_reducible (first | refine q_then ?_ | refine awp_seq ?_ | refine awp_block ?_) | ((with_reducible refine w_region ?_ ?_); kernel_rfl))
  refine awp_loop (ι := Nat) (fun k => k ≤ L.length ∧ idxF p (L.drop k) k = idxF p L 0) (fun k => L.length - k) (fun v k => [(0, .sl 3 (L.map Lk.av)), (1, .fn f []), (7, .v (.int .i64 (L.map Lk.av).length)), (8, .v (.int .i64 k))]) (fun v k => []) ?_ ?_
  · exact ⟨0, ⟨Nat.zero_le _, rfl⟩, trivial, ⟨rfl, rfl, rfl, rfl, trivial⟩, trivial⟩
  · rintro v k ⟨hk, hi⟩
    repeat (first | ((with_reducible refine k_bin ?_); refine m_binI rfl rfl rfl ?_)  | refine e_nrm ?_ | refine x_none rfl ?_ | with_reducible (first | refine q_then ?_ | refine awp_seq ?_) | ((with_reducible refine w_region ?_ ?_); kernel_rfl))
    refine w_cond rfl (fun h => ?_) (fun h => ?_)
    · have hlt : k < L.length := by simpa using h
      obtain ⟨x, hx⟩ := some_at hlt
      have hy := lk_at hx
      rw [idxF_at hx] at hi
      repeat (first | ((with_reducible refine k_move ?_); refine m_move rfl ?_) | ((with_reducible refine k_assign ?_); refine m_assign rfl ?_) | ((with_reducible refine k_load ?_); refine x_load_ep_agg tbOk rfl rfl (Nat.le_of_ble_eq_true rfl) ?_) | ((with_reducible refine k_indexAddr ?_); refine x_indexAddr_n tbOk rfl rfl rfl rfl (by assumption) ?_)  | refine e_nrm ?_ | refine x_none rfl ?_ | with_reducible (first | refine q_then ?_ | refine awp_seq ?_ | refine awp_block ?_ | refine awp_skip ?_) | ((with_reducible refine w_region ?_ ?_); kernel_rfl))
      with_reducible refine k_call ?_
      refine x_callV (ss := []) (cs' := []) (hf x (List.mem_of_getElem? hx)) rfl (by repeat' (first | exact trivial | exact Ren.v _ | refine ren_ag ?_ | refine ⟨?_, ?_⟩)) (by simp) trivial rfl trivial (by repeat' exact RenB.v _) ?_
      repeat (first   | refine e_nrm ?_ | with_reducible refine q_then ?_ )
      refine w_cond rfl (fun hq => ?_) (fun hq => ?_)
      · repeat (first | ((with_reducible refine k_move ?_); refine m_move rfl ?_) | ((with_reducible refine k_assign ?_); refine m_assign rfl ?_)  | refine e_nrm ?_ | refine x_none rfl ?_ | with_reducible (first | refine q_then ?_ | refine q_then_ret ?_ | refine q_block_ret ?_ | refine awp_seq ?_ | refine awp_ret ?_) | ((with_reducible refine w_region ?_ ?_); kernel_rfl))
        refine ret_v (by first | exact .inr rfl | exact .inl rfl) rfl rfl ?_
        rw [if_pos hq] at hi
        rw [← hi]
      · repeat (first | ((with_reducible refine k_move ?_); refine m_move rfl ?_) | ((with_reducible refine k_bin ?_); refine x_add_in rfl rfl (by omega) ?_)  | refine e_nrm ?_ | refine x_none rfl ?_ | with_reducible (first | refine q_then ?_ | refine q_block ?_ | refine awp_skip ?_) | ((with_reducible refine w_region ?_ ?_); kernel_rfl))
        rw [if_neg (by simp [hq])] at hi
        exact ⟨k + 1, ⟨by omega, hi⟩, by omega, ⟨rfl, rfl, rfl, rfl, trivial⟩, trivial⟩
    · have hlt : ¬ k < L.length := by simpa using h
      repeat (first | ((with_reducible refine k_assign ?_); refine m_assign rfl ?_)  | refine e_nrm ?_ | refine x_none rfl ?_ | with_reducible (first | refine q_then ?_ | refine q_then_exit ?_ | refine awp_seq ?_ | refine awp_exit ?_ | refine awp_ret ?_) | ((with_reducible refine q_block_exit ?_ ?_); rfl) | ((with_reducible refine w_region ?_ ?_); kernel_rfl))
      refine ret_v (by first | exact .inr rfl | exact .inl rfl) rfl rfl ?_
      rw [List.drop_of_length_le (by omega)] at hi
      rw [← hi]; rfl
theorem con0_A (L : List Lk) (f : FuncId) (p : Lk → Bool) (hf : ∀ x ∈ L, ACalls Tryz.prog G f [x.av] [] (.v (.bool (p x))) []) (hm : L.length ≤ 4611686018427387904) :
    ACalls Tryz.prog G 28 [.sl 3 (L.map Lk.av), .fn f []] [] (.v (.bool (L.any p))) [] := by
  rw [← idxF_any p L 0]
  refine acalls_of tbOk (enter_of Tryz.func28 (by kernel_rfl) rfl) Tryz.func28 rfl _ Tryz.ntmps28 (Nat.le_of_ble_eq_true rfl) fun X hX => ?_
  subst hX
  repeat (first | ((with_reducible refine k_move ?_); refine m_move rfl ?_) | ((with_reducible refine k_assign ?_); refine m_assign rfl ?_)  | refine e_nrm ?_ | refine x_none rfl ?_ | with_reducible (first | refine q_then ?_ | refine awp_seq ?_) | ((with_reducible refine w_region ?_ ?_); kernel_rfl))
  refine x_call0 (lifn0_A L f p hf hm) (by repeat' (first | exact trivial | exact Ren.sl _ _ | refine ren_fn ?_ | refine ⟨?_, ?_⟩)) (by repeat' exact RenB.v _) ?_
  repeat (first | ((with_reducible refine k_assign ?_); refine m_assign rfl ?_) | ((with_reducible refine k_bin ?_); refine m_binI rfl rfl rfl ?_)  | refine e_nrm ?_ | refine x_none rfl ?_ | with_reducible (first | refine q_then ?_ | refine awp_ret ?_) )
  refine ret_v (by first | exact .inr rfl | exact .inl rfl) rfl rfl ?_
  rfl
theorem pcl_A (x : Lk) : ACalls Tryz.prog G 29 [x.av] [] (.v (.bool (decide (x.d < 0)))) [] := by
  refine acalls_of tbOk (enter_of Tryz.func29 (by kernel_rfl) rfl) Tryz.func29 rfl _ Tryz.ntmps29 (Nat.le_of_ble_eq_true rfl) fun X hX => ?_
  subst hX
  repeat (first | ((with_reducible refine k_assign ?_); refine m_assign rfl ?_) | ((with_reducible refine k_fieldAddr ?_); refine x_fieldAddr_ptr tbOk rfl rfl rfl rfl ?_) | ((with_reducible refine k_load ?_); refine x_load_one tbOk rfl rfl rfl rfl rfl ?_) | ((with_reducible refine k_box ?_); refine m_box rfl rfl rfl ?_) | ((with_reducible refine k_bin ?_); refine m_binI rfl rfl rfl ?_)  | refine e_nrm ?_ | refine x_none rfl ?_ | with_reducible (first | refine q_then ?_ | refine awp_seq ?_ | refine awp_ret ?_) | ((with_reducible refine w_region ?_ ?_); kernel_rfl))
  refine ret_v (by first | exact .inr rfl | exact .inl rfl) rfl rfl ?_
  rfl
end Go.Proofs.YtamihjgfncjdoaaGreatDoor
