/- The reference of register.Parse, by the abstract machine: a text is read as the plain function reads it; conditions: the table of classes stands. -/
import Derived.Test.YtggagmafkdhjcaaGreatDoorRxC
import Derived.Test.YtggagmafkdhjcaaGreatDoorCdD
import Derived.Test.YtggagmafkdhjcaaGreatDoorLxB
set_option linter.unusedVariables false
set_option linter.unusedSimpArgs false
namespace Go.Proofs.YtggagmafkdhjcaaGreatDoor
open Go Go.RowKit
set_option maxRecDepth 10000
variable {G : Nat → Option (List Value)}
def personQ (W : List (List UInt8)) : Per × Bool := if (personP W).2 = true then ((personP W).1, true) else (Per.zer, false)
set_option maxHeartbeats 16000000 in
theorem rperson_A (W : List (List UInt8)) (hw : ∀ w ∈ W, w.length ≤ 1000000) : ACalls Tryz.prog G 50 [.sl 1 (W.map svL)] [] (.tu [(personQ W).1.av, .v (.bool (personQ W).2)]) [] := by
  by_cases h10 : W.length ≠ 10
  · have hb : personQ W = (Per.zer, false) := by unfold personQ personP; rw [if_neg (c := personF W) (fun e => h10 e.1)]; rfl
    rw [hb]
    refine acalls_of tbOk (enter_of Tryz.func50 (by kernel_rfl) rfl) Tryz.func50 rfl _ Tryz.ntmps50 (Nat.le_of_ble_eq_true rfl) fun X hX => ?_
    subst hX
    repeat (first | ((with_reducible refine k_move ?_); refine m_move rfl ?_) | ((with_reducible refine k_assign ?_); refine m_assign rfl ?_) | ((with_reducible refine k_alloc ?_); refine x_alloc tbOk rfl rfl ?_) | ((with_reducible refine k_call ?_); refine x_len tbOk rfl rfl ?_) | ((with_reducible refine k_bin ?_); refine m_binI rfl rfl rfl ?_)  | refine e_nrm ?_ | refine x_none rfl ?_ | with_reducible (first | refine q_then ?_ | refine awp_seq ?_) | ((with_reducible refine w_region ?_ ?_); kernel_rfl))
    refine x_split rfl rfl (fun c => ?_) (fun c => ?_)
    rotate_left
    · exact absurd (by simp at c; omega) h10
    repeat (first | ((with_reducible refine k_move ?_); refine m_move rfl ?_) | ((with_reducible refine k_assign ?_); refine m_assign rfl ?_) | ((with_reducible refine k_store ?_); refine m_store tbOk rfl rfl rfl rfl rfl rfl rfl (Nat.le_of_ble_eq_true rfl) rfl ?_) | ((with_reducible refine k_pick ?_); refine m_pickt rfl (by first | rfl | assumption) rfl ?_) | ((with_reducible refine k_build ?_); refine m_build tbOk rfl rfl rfl rfl rfl ?_)  | refine e_nrm ?_ | refine x_none rfl ?_ | refine x_skip_f rfl rfl (by first | rfl | assumption) ?_ | with_reducible (first | refine q_then ?_ | refine q_then_ret ?_ | refine awp_seq ?_ | refine awp_ret ?_) | ((with_reducible refine w_region ?_ ?_); kernel_rfl) | refine w_cond_t rfl (by first | rfl | assumption) ?_)
    refine ret0_ct (by first | exact .inr rfl | exact .inl rfl) rfl rfl rfl rfl rfl rfl ?_
    repeat' (first | exact trivial | exact Ren.v _ | refine ren_ag ?_ | refine ren_tu ?_ | refine ⟨?_, ?_⟩)
  have h10 : W.length = 10 := by omega
  have hl : ∀ k, k < 10 → (wAt W k).length ≤ 1000000 := fun k hk => by
    obtain ⟨x, hx⟩ := some_at (L := W) (k := k) (by omega)
    have : wAt W k = x := by unfold wAt; rw [hx]; rfl
    rw [this]; exact hw x (List.mem_of_getElem? hx)
  have l0 : ((((W.map svL).length : Nat) : Int) != 10) = false := by simp; omega
  have l1 : (!decide ((((W.map svL).length : Nat) : Int) = 10)) = false := by simp; omega
  have z0 : (W.map svL)[(0 : Int).toNat]? = some (svL (wAt W 0)) := wat_at h10 (by decide)
  have z1 : (W.map svL)[(1 : Int).toNat]? = some (svL (wAt W 1)) := wat_at h10 (by decide)
  have z2 : (W.map svL)[(2 : Int).toNat]? = some (svL (wAt W 2)) := wat_at h10 (by decide)
  have z3 : (W.map svL)[(3 : Int).toNat]? = some (svL (wAt W 3)) := wat_at h10 (by decide)
  have z4 : (W.map svL)[(4 : Int).toNat]? = some (svL (wAt W 4)) := wat_at h10 (by decide)
  have z5 : (W.map svL)[(5 : Int).toNat]? = some (svL (wAt W 5)) := wat_at h10 (by decide)
  have z6 : (W.map svL)[(6 : Int).toNat]? = some (svL (wAt W 6)) := wat_at h10 (by decide)
  have z7 : (W.map svL)[(7 : Int).toNat]? = some (svL (wAt W 7)) := wat_at h10 (by decide)
  have z8 : (W.map svL)[(8 : Int).toNat]? = some (svL (wAt W 8)) := wat_at h10 (by decide)
  have z9 : (W.map svL)[(9 : Int).toNat]? = some (svL (wAt W 9)) := wat_at h10 (by decide)
  by_cases q0 : ¬ wAt W 0 = personL
  · have e0 : (!strEq (strL (wAt W 0)) ⟨#[112, 101, 114, 115, 111, 110]⟩) = true := by rw [seq_f (b := #[112, 101, 114, 115, 111, 110]) q0]; rfl
    have hb : personQ W = (Per.zer, false) := by unfold personQ personP; rw [if_neg (c := personF W) (fun e => q0 e.2.1)]; rfl
    rw [hb]
    refine acalls_of tbOk (enter_of Tryz.func50 (by kernel_rfl) rfl) Tryz.func50 rfl _ Tryz.ntmps50 (Nat.le_of_ble_eq_true rfl) fun X hX => ?_
    subst hX
    repeat (first | ((with_reducible refine k_move ?_); refine m_move rfl ?_) | ((with_reducible refine k_assign ?_); refine m_assign rfl ?_) | ((with_reducible refine k_load ?_); refine x_load_ep_one tbOk rfl rfl rfl ?_) | ((with_reducible refine k_store ?_); refine m_store tbOk rfl rfl rfl rfl rfl rfl rfl (Nat.le_of_ble_eq_true rfl) rfl ?_) | ((with_reducible refine k_alloc ?_); refine x_alloc tbOk rfl rfl ?_) | ((with_reducible refine k_pick ?_); (first | refine m_pickt rfl (by first | rfl | assumption) rfl ?_ | refine m_pickf rfl (by first | rfl | assumption) rfl ?_)) | ((with_reducible refine k_indexAddr ?_); refine x_indexAddr_n tbOk rfl rfl rfl rfl (by assumption) ?_) | ((with_reducible refine k_build ?_); refine m_build tbOk rfl rfl rfl rfl rfl ?_) | ((with_reducible refine k_call ?_); refine x_len tbOk rfl rfl ?_) | ((with_reducible refine k_bin ?_); (first | refine m_binI rfl rfl rfl ?_ | refine m_binS rfl rfl rfl ?_))  | refine e_nrm ?_ | refine x_none rfl ?_ | refine x_run_f rfl rfl (by first | rfl | assumption) ?_ | refine x_skip_f rfl rfl (by first | rfl | assumption) ?_ | with_reducible (first | refine q_then ?_ | refine q_then_ret ?_ | refine awp_seq ?_ | refine awp_ret ?_) | ((with_reducible refine w_region ?_ ?_); kernel_rfl) | refine w_cond_t rfl (by first | rfl | assumption) ?_)
    refine ret0_ct (by first | exact .inr rfl | exact .inl rfl) rfl rfl rfl rfl rfl rfl ?_
    repeat' (first | exact trivial | exact Ren.v _ | refine ren_ag ?_ | refine ren_tu ?_ | refine ⟨?_, ?_⟩)
  have q0 : wAt W 0 = personL := Classical.not_not.1 q0
  have e0 : (!strEq (strL (wAt W 0)) ⟨#[112, 101, 114, 115, 111, 110]⟩) = false := by rw [seq_t (b := #[112, 101, 114, 115, 111, 110]) q0]; rfl
  by_cases q2 : ¬ wAt W 2 = companyL
  · have e2 : (!strEq (strL (wAt W 2)) ⟨#[99, 111, 109, 112, 97, 110, 121]⟩) = true := by rw [seq_f (b := #[99, 111, 109, 112, 97, 110, 121]) q2]; rfl
    have hb : personQ W = (Per.zer, false) := by unfold personQ personP; rw [if_neg (c := personF W) (fun e => q2 e.2.2.1)]; rfl
    rw [hb]
    refine acalls_of tbOk (enter_of Tryz.func50 (by kernel_rfl) rfl) Tryz.func50 rfl _ Tryz.ntmps50 (Nat.le_of_ble_eq_true rfl) fun X hX => ?_
    subst hX
    repeat (first | ((with_reducible refine k_move ?_); refine m_move rfl ?_) | ((with_reducible refine k_assign ?_); refine m_assign rfl ?_) | ((with_reducible refine k_load ?_); refine x_load_ep_one tbOk rfl rfl rfl ?_) | ((with_reducible refine k_store ?_); refine m_store tbOk rfl rfl rfl rfl rfl rfl rfl (Nat.le_of_ble_eq_true rfl) rfl ?_) | ((with_reducible refine k_alloc ?_); refine x_alloc tbOk rfl rfl ?_) | ((with_reducible refine k_pick ?_); (first | refine m_pickt rfl (by first | rfl | assumption) rfl ?_ | refine m_pickf rfl (by first | rfl | assumption) rfl ?_)) | ((with_reducible refine k_indexAddr ?_); refine x_indexAddr_n tbOk rfl rfl rfl rfl (by assumption) ?_) | ((with_reducible refine k_build ?_); refine m_build tbOk rfl rfl rfl rfl rfl ?_) | ((with_reducible refine k_call ?_); refine x_len tbOk rfl rfl ?_) | ((with_reducible refine k_bin ?_); (first | refine m_binI rfl rfl rfl ?_ | refine m_binS rfl rfl rfl ?_))  | refine e_nrm ?_ | refine x_none rfl ?_ | refine x_run_f rfl rfl (by first | rfl | assumption) ?_ | refine x_skip_f rfl rfl (by first | rfl | assumption) ?_ | with_reducible (first | refine q_then ?_ | refine q_then_ret ?_ | refine awp_seq ?_ | refine awp_ret ?_) | ((with_reducible refine w_region ?_ ?_); kernel_rfl) | refine w_cond_t rfl (by first | rfl | assumption) ?_)
    refine ret0_ct (by first | exact .inr rfl | exact .inl rfl) rfl rfl rfl rfl rfl rfl ?_
    repeat' (first | exact trivial | exact Ren.v _ | refine ren_ag ?_ | refine ren_tu ?_ | refine ⟨?_, ?_⟩)
  have q2 : wAt W 2 = companyL := Classical.not_not.1 q2
  have e2 : (!strEq (strL (wAt W 2)) ⟨#[99, 111, 109, 112, 97, 110, 121]⟩) = false := by rw [seq_t (b := #[99, 111, 109, 112, 97, 110, 121]) q2]; rfl
  by_cases q4 : ¬ wAt W 4 = skillsL
  · have e4 : (!strEq (strL (wAt W 4)) ⟨#[115, 107, 105, 108, 108, 115]⟩) = true := by rw [seq_f (b := #[115, 107, 105, 108, 108, 115]) q4]; rfl
    have hb : personQ W = (Per.zer, false) := by unfold personQ personP; rw [if_neg (c := personF W) (fun e => q4 e.2.2.2.1)]; rfl
    rw [hb]
    refine acalls_of tbOk (enter_of Tryz.func50 (by kernel_rfl) rfl) Tryz.func50 rfl _ Tryz.ntmps50 (Nat.le_of_ble_eq_true rfl) fun X hX => ?_
    subst hX
    repeat (first | ((with_reducible refine k_move ?_); refine m_move rfl ?_) | ((with_reducible refine k_assign ?_); refine m_assign rfl ?_) | ((with_reducible refine k_load ?_); refine x_load_ep_one tbOk rfl rfl rfl ?_) | ((with_reducible refine k_store ?_); refine m_store tbOk rfl rfl rfl rfl rfl rfl rfl (Nat.le_of_ble_eq_true rfl) rfl ?_) | ((with_reducible refine k_alloc ?_); refine x_alloc tbOk rfl rfl ?_) | ((with_reducible refine k_pick ?_); (first | refine m_pickt rfl (by first | rfl | assumption) rfl ?_ | refine m_pickf rfl (by first | rfl | assumption) rfl ?_)) | ((with_reducible refine k_indexAddr ?_); refine x_indexAddr_n tbOk rfl rfl rfl rfl (by assumption) ?_) | ((with_reducible refine k_build ?_); refine m_build tbOk rfl rfl rfl rfl rfl ?_) | ((with_reducible refine k_call ?_); refine x_len tbOk rfl rfl ?_) | ((with_reducible refine k_bin ?_); (first | refine m_binI rfl rfl rfl ?_ | refine m_binS rfl rfl rfl ?_))  | refine e_nrm ?_ | refine x_none rfl ?_ | refine x_run_f rfl rfl (by first | rfl | assumption) ?_ | refine x_skip_f rfl rfl (by first | rfl | assumption) ?_ | with_reducible (first | refine q_then ?_ | refine q_then_ret ?_ | refine awp_seq ?_ | refine awp_ret ?_) | ((with_reducible refine w_region ?_ ?_); kernel_rfl) | refine w_cond_t rfl (by first | rfl | assumption) ?_)
    refine ret0_ct (by first | exact .inr rfl | exact .inl rfl) rfl rfl rfl rfl rfl rfl ?_
    repeat' (first | exact trivial | exact Ren.v _ | refine ren_ag ?_ | refine ren_tu ?_ | refine ⟨?_, ?_⟩)
  have q4 : wAt W 4 = skillsL := Classical.not_not.1 q4
  have e4 : (!strEq (strL (wAt W 4)) ⟨#[115, 107, 105, 108, 108, 115]⟩) = false := by rw [seq_t (b := #[115, 107, 105, 108, 108, 115]) q4]; rfl
  by_cases q6 : ¬ wAt W 6 = fromL
  · have e6 : (!strEq (strL (wAt W 6)) ⟨#[102, 114, 111, 109]⟩) = true := by rw [seq_f (b := #[102, 114, 111, 109]) q6]; rfl
    have hb : personQ W = (Per.zer, false) := by unfold personQ personP; rw [if_neg (c := personF W) (fun e => q6 e.2.2.2.2.1)]; rfl
    rw [hb]
    refine acalls_of tbOk (enter_of Tryz.func50 (by kernel_rfl) rfl) Tryz.func50 rfl _ Tryz.ntmps50 (Nat.le_of_ble_eq_true rfl) fun X hX => ?_
    subst hX
    repeat (first | ((with_reducible refine k_move ?_); refine m_move rfl ?_) | ((with_reducible refine k_assign ?_); refine m_assign rfl ?_) | ((with_reducible refine k_load ?_); refine x_load_ep_one tbOk rfl rfl rfl ?_) | ((with_reducible refine k_store ?_); refine m_store tbOk rfl rfl rfl rfl rfl rfl rfl (Nat.le_of_ble_eq_true rfl) rfl ?_) | ((with_reducible refine k_alloc ?_); refine x_alloc tbOk rfl rfl ?_) | ((with_reducible refine k_pick ?_); (first | refine m_pickt rfl (by first | rfl | assumption) rfl ?_ | refine m_pickf rfl (by first | rfl | assumption) rfl ?_)) | ((with_reducible refine k_indexAddr ?_); refine x_indexAddr_n tbOk rfl rfl rfl rfl (by assumption) ?_) | ((with_reducible refine k_build ?_); refine m_build tbOk rfl rfl rfl rfl rfl ?_) | ((with_reducible refine k_call ?_); refine x_len tbOk rfl rfl ?_) | ((with_reducible refine k_bin ?_); (first | refine m_binI rfl rfl rfl ?_ | refine m_binS rfl rfl rfl ?_))  | refine e_nrm ?_ | refine x_none rfl ?_ | refine x_run_f rfl rfl (by first | rfl | assumption) ?_ | refine x_skip_f rfl rfl (by first | rfl | assumption) ?_ | with_reducible (first | refine q_then ?_ | refine q_then_ret ?_ | refine awp_seq ?_ | refine awp_ret ?_) | ((with_reducible refine w_region ?_ ?_); kernel_rfl) | refine w_cond_t rfl (by first | rfl | assumption) ?_)
    refine ret0_ct (by first | exact .inr rfl | exact .inl rfl) rfl rfl rfl rfl rfl rfl ?_
    repeat' (first | exact trivial | exact Ren.v _ | refine ren_ag ?_ | refine ren_tu ?_ | refine ⟨?_, ?_⟩)
  have q6 : wAt W 6 = fromL := Classical.not_not.1 q6
  have e6 : (!strEq (strL (wAt W 6)) ⟨#[102, 114, 111, 109]⟩) = false := by rw [seq_t (b := #[102, 114, 111, 109]) q6]; rfl
  by_cases q8 : ¬ wAt W 8 = untilL
  · have e8 : (!strEq (strL (wAt W 8)) ⟨#[117, 110, 116, 105, 108]⟩) = true := by rw [seq_f (b := #[117, 110, 116, 105, 108]) q8]; rfl
    have hb : personQ W = (Per.zer, false) := by unfold personQ personP; rw [if_neg (c := personF W) (fun e => q8 e.2.2.2.2.2)]; rfl
    rw [hb]
    refine acalls_of tbOk (enter_of Tryz.func50 (by kernel_rfl) rfl) Tryz.func50 rfl _ Tryz.ntmps50 (Nat.le_of_ble_eq_true rfl) fun X hX => ?_
    subst hX
    repeat (first | ((with_reducible refine k_move ?_); refine m_move rfl ?_) | ((with_reducible refine k_assign ?_); refine m_assign rfl ?_) | ((with_reducible refine k_load ?_); refine x_load_ep_one tbOk rfl rfl rfl ?_) | ((with_reducible refine k_store ?_); refine m_store tbOk rfl rfl rfl rfl rfl rfl rfl (Nat.le_of_ble_eq_true rfl) rfl ?_) | ((with_reducible refine k_alloc ?_); refine x_alloc tbOk rfl rfl ?_) | ((with_reducible refine k_pick ?_); refine m_pickf rfl (by first | rfl | assumption) rfl ?_) | ((with_reducible refine k_indexAddr ?_); refine x_indexAddr_n tbOk rfl rfl rfl rfl (by assumption) ?_) | ((with_reducible refine k_build ?_); refine m_build tbOk rfl rfl rfl rfl rfl ?_) | ((with_reducible refine k_call ?_); refine x_len tbOk rfl rfl ?_) | ((with_reducible refine k_bin ?_); (first | refine m_binI rfl rfl rfl ?_ | refine m_binS rfl rfl rfl ?_))  | refine e_nrm ?_ | refine x_none rfl ?_ | refine x_run_f rfl rfl (by first | rfl | assumption) ?_ | with_reducible (first | refine q_then ?_ | refine q_then_ret ?_ | refine awp_seq ?_ | refine awp_ret ?_) | ((with_reducible refine w_region ?_ ?_); kernel_rfl) | refine w_cond_t rfl (by first | rfl | assumption) ?_)
    refine ret0_ct (by first | exact .inr rfl | exact .inl rfl) rfl rfl rfl rfl rfl rfl ?_
    repeat' (first | exact trivial | exact Ren.v _ | refine ren_ag ?_ | refine ren_tu ?_ | refine ⟨?_, ?_⟩)
  have q8 : wAt W 8 = untilL := Classical.not_not.1 q8
  have e8 : (!strEq (strL (wAt W 8)) ⟨#[117, 110, 116, 105, 108]⟩) = false := by rw [seq_t (b := #[117, 110, 116, 105, 108]) q8]; rfl
  have hP : personP W = (⟨strL (wAt W 1), (numP (wAt W 3) 1073741824).getD 0, (bitsP (strL (wAt W 5))).1, (parseP (wAt W 7)).1, (parseP (wAt W 9)).1⟩,
    (numP (wAt W 3) 1073741824).isSome && (bitsP (strL (wAt W 5))).2 && decide ((parseP (wAt W 7)).2 = 0) && decide ((parseP (wAt W 9)).2 = 0)) := by
    unfold personP
    rw [if_pos ⟨h10, q0, q2, q4, q6, q8⟩]
  have hn := rnumber_A (G := G) (strL (wAt W 3)) 1073741824 (by rw [strL_size]; have := hl 3 (by decide); unfold maxLen; omega) (by omega) (by omega)
  rw [strL_data] at hn
  have hf := rparse_A (G := G) (strL (wAt W 7)) (by rw [strL_size]; have := hl 7 (by decide); unfold maxLen; omega)
  have hu := rparse_A (G := G) (strL (wAt W 9)) (by rw [strL_size]; have := hl 9 (by decide); unfold maxLen; omega)
  rw [strL_data] at hf hu
  unfold personQ
  rw [hP]
  clear hP
  dsimp only
  obtain ⟨s5, hs5⟩ : ∃ q, q = strL (wAt W 5) := ⟨_, rfl⟩
  replace z5 : (W.map svL)[(5 : Int).toNat]? = some (.v (.string s5)) := by rw [hs5]; exact z5
  rw [← hs5]
  clear hs5
  generalize (numP (wAt W 3) 1073741824).getD 0 = m3 at hn ⊢
  generalize (numP (wAt W 3) 1073741824).isSome = b3 at hn ⊢
  generalize parseP (wAt W 7) = q7 at hf ⊢
  generalize parseP (wAt W 9) = q9 at hu ⊢
  obtain ⟨f7, e7⟩ := q7
  obtain ⟨f9, e9⟩ := q9
  dsimp only at hf hu ⊢
  by_cases hB : (b3 && decide (e7 = 0) && decide (e9 = 0)) = true
  · simp only [Bool.and_eq_true, decide_eq_true_eq] at hB
    obtain ⟨⟨rfl, rfl⟩, rfl⟩ := hB
    simp only [Bool.true_and, decide_true, Bool.and_true]
    obtain ⟨q5, hq5⟩ : ∃ q, q = bitsP s5 := ⟨_, rfl⟩
    rw [← hq5]
    refine acalls_of tbOk (enter_of Tryz.func50 (by kernel_rfl) rfl) Tryz.func50 rfl _ Tryz.ntmps50 (Nat.le_of_ble_eq_true rfl) fun X hX => ?_
    subst hX
    repeat (first | ((with_reducible refine k_move ?_); refine m_move rfl ?_) | ((with_reducible refine k_assign ?_); refine m_assign rfl ?_) | ((with_reducible refine k_load ?_); refine x_load_ep_one tbOk rfl rfl rfl ?_) | ((with_reducible refine k_alloc ?_); refine x_alloc tbOk rfl rfl ?_) | ((with_reducible refine k_pick ?_); refine m_pickf rfl (by first | rfl | assumption) rfl ?_) | ((with_reducible refine k_indexAddr ?_); refine x_indexAddr_n tbOk rfl rfl rfl rfl (by assumption) ?_) | ((with_reducible refine k_call ?_); refine x_len tbOk rfl rfl ?_) | ((with_reducible refine k_bin ?_); (first | refine m_binI rfl rfl rfl ?_ | refine m_binS rfl rfl rfl ?_))  | refine e_nrm ?_ | refine x_none rfl ?_ | refine x_run_f rfl rfl (by first | rfl | assumption) ?_ | with_reducible (first | refine q_then ?_ | refine awp_seq ?_ | refine awp_skip ?_) | ((with_reducible refine w_region ?_ ?_); kernel_rfl) | refine w_cond_f rfl (by first | rfl | assumption) ?_)
    refine x_call0 (hn) (by repeat' (first | exact trivial | exact Ren.v _ | refine ⟨?_, ?_⟩)) (by repeat' (first | exact trivial | exact RenB.v _ | refine renb_tu ?_ | refine ⟨?_, ?_⟩)) ?_
    repeat (first | ((with_reducible refine k_move ?_); refine m_move rfl ?_) | ((with_reducible refine k_assign ?_); refine m_assign rfl ?_) | ((with_reducible refine k_load ?_); refine x_load_ep_one tbOk rfl rfl rfl ?_) | ((with_reducible refine k_extract ?_); refine x_extract rfl rfl ?_) | ((with_reducible refine k_indexAddr ?_); refine x_indexAddr_n tbOk rfl rfl rfl rfl (by assumption) ?_)  | refine e_nrm ?_ | refine x_none rfl ?_ | with_reducible (first | refine q_then ?_ | refine awp_seq ?_) | ((with_reducible refine w_region ?_ ?_); kernel_rfl))
    refine x_call0 (hf) (by repeat' (first | exact trivial | exact Ren.v _ | refine ⟨?_, ?_⟩)) (by repeat' (first | exact trivial | exact RenB.v _ | refine renb_tu ?_ | refine ⟨?_, ?_⟩)) ?_
    repeat (first | ((with_reducible refine k_move ?_); refine m_move rfl ?_) | ((with_reducible refine k_assign ?_); refine m_assign rfl ?_) | ((with_reducible refine k_load ?_); refine x_load_ep_one tbOk rfl rfl rfl ?_) | ((with_reducible refine k_extract ?_); refine x_extract rfl rfl ?_) | ((with_reducible refine k_indexAddr ?_); refine x_indexAddr_n tbOk rfl rfl rfl rfl (by assumption) ?_)  | refine e_nrm ?_ | refine x_none rfl ?_ | with_reducible (first | refine q_then ?_ | refine awp_seq ?_) | ((with_reducible refine w_region ?_ ?_); kernel_rfl))
    refine x_call0 (hu) (by repeat' (first | exact trivial | exact Ren.v _ | refine ⟨?_, ?_⟩)) (by repeat' (first | exact trivial | exact RenB.v _ | refine renb_tu ?_ | refine ⟨?_, ?_⟩)) ?_
    repeat (first | ((with_reducible refine k_move ?_); refine m_move rfl ?_) | ((with_reducible refine k_assign ?_); refine m_assign rfl ?_) | ((with_reducible refine k_extract ?_); refine x_extract rfl rfl ?_)  | refine e_nrm ?_ | refine x_none rfl ?_ | with_reducible (first | refine q_then ?_ | refine awp_seq ?_ | refine awp_block ?_) | ((with_reducible refine w_region ?_ ?_); kernel_rfl))
    refine awp_loop (ι := Nat) (fun n => n ≤ 32 ∧ bitsGo s5 (32 - n) n = q5) (fun n => 32 - n) (fun v n => [(0, .sl 1 (W.map svL)), (2, .ptr 2 (v 2) 0), (4, .v (.int .i64 m3)), (5, .v (.bool true)), (6, .v (.int .i64 f7)), (7, .v (.int .i64 0)), (8, .v (.int .i64 f9)), (9, .v (.int .i64 0)), (10, .v (.int .i64 (n : Nat)))]) (fun v n => [(2, .box Per.zer.av.cells)]) ?_ ?_
    · exact ⟨0, ⟨Nat.zero_le _, hq5.symm⟩, trivial, ⟨rfl, rfl, rfl, rfl, rfl, rfl, rfl, rfl, rfl, trivial⟩, ⟨rfl, trivial⟩⟩
    clear hq5
    rintro v n ⟨hn32, hb⟩
    repeat (first | ((with_reducible refine k_move ?_); refine m_move rfl ?_) | ((with_reducible refine k_bin ?_); refine m_binI rfl rfl rfl ?_)  | refine e_nrm ?_ | refine x_none rfl ?_ | with_reducible (first | refine q_then ?_ | refine awp_seq ?_) | ((with_reducible refine w_region ?_ ?_); kernel_rfl))
    refine w_cond rfl (fun h => ?_) (fun h => ?_)
    · have hlt : n < 32 := by simp at h; omega
      rw [show 32 - n = (32 - (n + 1)) + 1 by omega, bitsGo] at hb
      have hsk := rletters_A (G := X.G) (n : Int)
      generalize skillsS (n : Int) = t at hsk hb
      repeat (first | ((with_reducible refine k_move ?_); refine m_move rfl ?_)  | refine x_none rfl ?_ | with_reducible (first | refine q_then ?_ | refine awp_seq ?_ | refine awp_block ?_ | refine awp_skip ?_) | ((with_reducible refine w_draw mixd ?_ ?_); kernel_rfl))
      refine x_call0 (hsk) (by repeat' (first | exact trivial | exact Ren.v _ | refine ⟨?_, ?_⟩)) (by repeat' exact RenB.v _) ?_
      repeat (first | ((with_reducible refine k_move ?_); refine m_move rfl ?_) | ((with_reducible refine k_load ?_); refine x_load_ep_one tbOk rfl rfl rfl ?_) | ((with_reducible refine k_indexAddr ?_); refine x_indexAddr_n tbOk rfl rfl rfl rfl (by assumption) ?_) | ((with_reducible refine k_bin ?_); refine m_binS rfl rfl rfl ?_)  | refine x_none rfl ?_  )
      refine x_split rfl rfl (fun c => ?_) (fun c => ?_)
      · rw [if_pos (strEq_iff.1 c)] at hb
        rw [← hb]
        repeat (first | ((with_reducible refine k_move ?_); refine m_move rfl ?_) | ((with_reducible refine k_assign ?_); refine m_assign rfl ?_) | ((with_reducible refine k_load ?_); refine x_load_ep_one tbOk rfl rfl rfl ?_) | ((with_reducible refine k_store ?_); refine m_store tbOk rfl rfl rfl rfl rfl rfl rfl (Nat.le_of_ble_eq_true rfl) rfl ?_) | ((with_reducible refine k_pick ?_); refine m_pickt rfl (by first | rfl | assumption) rfl ?_) | ((with_reducible refine k_indexAddr ?_); refine x_indexAddr_n tbOk rfl rfl rfl rfl (by assumption) ?_) | ((with_reducible refine k_build ?_); refine m_build tbOk rfl rfl rfl rfl rfl ?_) | ((with_reducible refine k_bin ?_); refine m_binI rfl rfl rfl ?_)  | refine e_nrm ?_ | refine e_drw (by kernel_rfl) ?_ | refine x_none rfl ?_ | refine x_run_t rfl rfl (by first | rfl | assumption) ?_ | with_reducible (first | refine q_then ?_ | refine q_then_ret ?_ | refine q_block_ret ?_ | refine awp_seq ?_ | refine awp_ret ?_) | ((with_reducible refine w_region ?_ ?_); kernel_rfl) | refine w_cond_t rfl (by first | rfl | assumption) ?_)
        refine ret0_ct (by first | exact .inr rfl | exact .inl rfl) rfl rfl rfl rfl rfl rfl ?_
        repeat' (first | exact trivial | exact Ren.v _ | refine ren_ag ?_ | refine ren_tu ?_ | refine ⟨?_, ?_⟩)
      · rw [if_neg (fun e => by rw [strEq_iff.2 e] at c; cases c)] at hb
        repeat (first | ((with_reducible refine k_move ?_); refine m_move rfl ?_) | ((with_reducible refine k_assign ?_); refine m_assign rfl ?_) | ((with_reducible refine k_pick ?_); refine m_pickf rfl (by first | rfl | assumption) rfl ?_) | ((with_reducible refine k_bin ?_); refine x_add_in rfl rfl (by omega) ?_)  | refine e_nrm ?_ | refine e_drw (by kernel_rfl) ?_ | refine x_none rfl ?_ | refine x_skip_t rfl rfl (by first | rfl | assumption) ?_ | with_reducible (first | refine q_then ?_ | refine q_block ?_ | refine awp_skip ?_) | ((with_reducible refine w_region ?_ ?_); kernel_rfl) | refine w_cond_f rfl (by first | rfl | assumption) ?_)
        exact ⟨n + 1, ⟨hlt, hb⟩, by omega, ⟨rfl, rfl, rfl, rfl, rfl, rfl, rfl, rfl, rfl, trivial⟩, ⟨rfl, trivial⟩⟩
    · have he : n = 32 := by simp at h; omega
      rw [he, Nat.sub_self, bitsGo] at hb
      rw [← hb]
      repeat (first | ((with_reducible refine k_assign ?_); refine m_assign rfl ?_) | ((with_reducible refine k_store ?_); refine m_store tbOk rfl rfl rfl rfl rfl rfl rfl (Nat.le_of_ble_eq_true rfl) rfl ?_) | ((with_reducible refine k_build ?_); refine m_build tbOk rfl rfl rfl rfl rfl ?_)  | refine e_nrm ?_ | refine x_none rfl ?_ | with_reducible (first | refine q_then ?_ | refine q_then_exit ?_ | refine awp_seq ?_ | refine awp_exit ?_ | refine awp_ret ?_) | ((with_reducible refine q_block_exit ?_ ?_); rfl) | ((with_reducible refine w_region ?_ ?_); kernel_rfl))
      refine ret0_ct (by first | exact .inr rfl | exact .inl rfl) rfl rfl rfl rfl rfl rfl ?_
      repeat' (first | exact trivial | exact Ren.v _ | refine ren_ag ?_ | refine ren_tu ?_ | refine ⟨?_, ?_⟩)
  · have hz : ∀ (x y : Per × Bool) (b : Bool), (if (b3 && b && decide (e7 = 0) && decide (e9 = 0)) = true then x else y) = y := fun x y b => by
      rw [if_neg]
      intro e
      apply hB
      simp only [Bool.and_eq_true] at e ⊢
      exact ⟨⟨e.1.1.1, e.1.2⟩, e.2⟩
    rw [hz]
    refine acalls_of tbOk (enter_of Tryz.func50 (by kernel_rfl) rfl) Tryz.func50 rfl _ Tryz.ntmps50 (Nat.le_of_ble_eq_true rfl) fun X hX => ?_
    subst hX
    repeat (first | ((with_reducible refine k_move ?_); refine m_move rfl ?_) | ((with_reducible refine k_assign ?_); refine m_assign rfl ?_) | ((with_reducible refine k_load ?_); refine x_load_ep_one tbOk rfl rfl rfl ?_) | ((with_reducible refine k_alloc ?_); refine x_alloc tbOk rfl rfl ?_) | ((with_reducible refine k_pick ?_); refine m_pickf rfl (by first | rfl | assumption) rfl ?_) | ((with_reducible refine k_indexAddr ?_); refine x_indexAddr_n tbOk rfl rfl rfl rfl (by assumption) ?_) | ((with_reducible refine k_call ?_); refine x_len tbOk rfl rfl ?_) | ((with_reducible refine k_bin ?_); (first | refine m_binI rfl rfl rfl ?_ | refine m_binS rfl rfl rfl ?_))  | refine e_nrm ?_ | refine x_none rfl ?_ | refine x_run_f rfl rfl (by first | rfl | assumption) ?_ | with_reducible (first | refine q_then ?_ | refine awp_seq ?_ | refine awp_skip ?_) | ((with_reducible refine w_region ?_ ?_); kernel_rfl) | refine w_cond_f rfl (by first | rfl | assumption) ?_)
    refine x_call0 (hn) (by repeat' (first | exact trivial | exact Ren.v _ | refine ⟨?_, ?_⟩)) (by repeat' (first | exact trivial | exact RenB.v _ | refine renb_tu ?_ | refine ⟨?_, ?_⟩)) ?_
    repeat (first | ((with_reducible refine k_move ?_); refine m_move rfl ?_) | ((with_reducible refine k_assign ?_); refine m_assign rfl ?_) | ((with_reducible refine k_load ?_); refine x_load_ep_one tbOk rfl rfl rfl ?_) | ((with_reducible refine k_extract ?_); refine x_extract rfl rfl ?_) | ((with_reducible refine k_indexAddr ?_); refine x_indexAddr_n tbOk rfl rfl rfl rfl (by assumption) ?_)  | refine e_nrm ?_ | refine x_none rfl ?_ | with_reducible (first | refine q_then ?_ | refine awp_seq ?_) | ((with_reducible refine w_region ?_ ?_); kernel_rfl))
    refine x_call0 (hf) (by repeat' (first | exact trivial | exact Ren.v _ | refine ⟨?_, ?_⟩)) (by repeat' (first | exact trivial | exact RenB.v _ | refine renb_tu ?_ | refine ⟨?_, ?_⟩)) ?_
    repeat (first | ((with_reducible refine k_move ?_); refine m_move rfl ?_) | ((with_reducible refine k_assign ?_); refine m_assign rfl ?_) | ((with_reducible refine k_load ?_); refine x_load_ep_one tbOk rfl rfl rfl ?_) | ((with_reducible refine k_extract ?_); refine x_extract rfl rfl ?_) | ((with_reducible refine k_indexAddr ?_); refine x_indexAddr_n tbOk rfl rfl rfl rfl (by assumption) ?_)  | refine e_nrm ?_ | refine x_none rfl ?_ | with_reducible (first | refine q_then ?_ | refine awp_seq ?_) | ((with_reducible refine w_region ?_ ?_); kernel_rfl))
    refine x_call0 (hu) (by repeat' (first | exact trivial | exact Ren.v _ | refine ⟨?_, ?_⟩)) (by repeat' (first | exact trivial | exact RenB.v _ | refine renb_tu ?_ | refine ⟨?_, ?_⟩)) ?_
    repeat (first | ((with_reducible refine k_move ?_); refine m_move rfl ?_) | ((with_reducible refine k_assign ?_); refine m_assign rfl ?_) | ((with_reducible refine k_extract ?_); refine x_extract rfl rfl ?_)  | refine e_nrm ?_ | refine x_none rfl ?_ | with_reducible (first | refine q_then ?_ | refine awp_seq ?_ | refine awp_block ?_) | ((with_reducible refine w_region ?_ ?_); kernel_rfl))
    refine awp_loop (ι := Nat) (fun n => n ≤ 32) (fun n => 32 - n) (fun v n => [(0, .sl 1 (W.map svL)), (2, .ptr 2 (v 2) 0), (4, .v (.int .i64 m3)), (5, .v (.bool b3)), (6, .v (.int .i64 f7)), (7, .v (.int .i64 e7)), (8, .v (.int .i64 f9)), (9, .v (.int .i64 e9)), (10, .v (.int .i64 (n : Nat)))]) (fun v n => [(2, .box Per.zer.av.cells)]) ?_ ?_
    · exact ⟨0, Nat.zero_le _, trivial, ⟨rfl, rfl, rfl, rfl, rfl, rfl, rfl, rfl, rfl, trivial⟩, ⟨rfl, trivial⟩⟩
    rintro v n hn
    repeat (first | ((with_reducible refine k_move ?_); refine m_move rfl ?_) | ((with_reducible refine k_bin ?_); refine m_binI rfl rfl rfl ?_)  | refine e_nrm ?_ | refine x_none rfl ?_ | with_reducible (first | refine q_then ?_ | refine awp_seq ?_) | ((with_reducible refine w_region ?_ ?_); kernel_rfl))
    refine w_cond rfl (fun h => ?_) (fun h => ?_)
    · have hlt : n < 32 := by simp at h; omega
      have hsk := rletters_A (G := X.G) (n : Int)
      generalize skillsS (n : Int) = t at hsk
      repeat (first | ((with_reducible refine k_move ?_); refine m_move rfl ?_)  | refine x_none rfl ?_ | with_reducible (first | refine q_then ?_ | refine awp_seq ?_ | refine awp_block ?_ | refine awp_skip ?_) | ((with_reducible refine w_draw mixd ?_ ?_); kernel_rfl))
      refine x_call0 (hsk) (by repeat' (first | exact trivial | exact Ren.v _ | refine ⟨?_, ?_⟩)) (by repeat' exact RenB.v _) ?_
      repeat' (first | ((with_reducible refine k_move ?_); refine m_move rfl ?_) | ((with_reducible refine k_assign ?_); refine m_assign rfl ?_) | ((with_reducible refine k_load ?_); refine x_load_ep_one tbOk rfl rfl rfl ?_) | ((with_reducible refine k_store ?_); refine m_store tbOk rfl rfl rfl rfl rfl rfl rfl (Nat.le_of_ble_eq_true rfl) rfl ?_) | ((with_reducible refine k_pick ?_); (first | refine m_pickt rfl (by first | rfl | assumption) rfl ?_ | refine m_pickf rfl (by first | rfl | assumption) rfl ?_)) | ((with_reducible refine k_indexAddr ?_); refine x_indexAddr_n tbOk rfl rfl rfl rfl (by assumption) ?_) | ((with_reducible refine k_build ?_); refine m_build tbOk rfl rfl rfl rfl rfl ?_) | ((with_reducible refine k_bin ?_); (first | refine x_add_in rfl rfl (by omega) ?_ | refine m_binI rfl rfl rfl ?_ | refine m_binS rfl rfl rfl ?_))  | refine e_nrm ?_ | refine e_drw (by kernel_rfl) ?_ | refine x_none rfl ?_ | refine x_run_t rfl rfl (by first | rfl | assumption) ?_ | refine x_skip_t rfl rfl (by first | rfl | assumption) ?_ | with_reducible (first | refine q_then ?_ | refine q_then_ret ?_ | refine q_block ?_ | refine q_block_ret ?_ | refine awp_seq ?_ | refine awp_skip ?_ | refine awp_ret ?_) | ((with_reducible refine w_region ?_ ?_); kernel_rfl) | refine w_cond_f rfl (by first | rfl | assumption) ?_ | refine x_split rfl rfl (fun _ => ?_) (fun _ => ?_) | refine w_cond rfl (fun _ => ?_) (fun _ => ?_))
      all_goals first
        | exact ⟨n + 1, hlt, by omega, ⟨rfl, rfl, rfl, rfl, rfl, rfl, rfl, rfl, rfl, trivial⟩, ⟨rfl, trivial⟩⟩
        | (exfalso; simp_all; done)
    · repeat (first | ((with_reducible refine k_assign ?_); refine m_assign rfl ?_) | ((with_reducible refine k_store ?_); refine m_store tbOk rfl rfl rfl rfl rfl rfl rfl (Nat.le_of_ble_eq_true rfl) rfl ?_) | ((with_reducible refine k_build ?_); refine m_build tbOk rfl rfl rfl rfl rfl ?_)  | refine e_nrm ?_ | refine x_none rfl ?_ | with_reducible (first | refine q_then ?_ | refine q_then_exit ?_ | refine awp_seq ?_ | refine awp_exit ?_ | refine awp_ret ?_) | ((with_reducible refine q_block_exit ?_ ?_); rfl) | ((with_reducible refine w_region ?_ ?_); kernel_rfl))
      refine ret0_ct (by first | exact .inr rfl | exact .inl rfl) rfl rfl rfl rfl rfl rfl ?_
      repeat' (first | exact trivial | exact Ren.v _ | refine ren_ag ?_ | refine ren_tu ?_ | refine ⟨?_, ?_⟩)
theorem personQ_1 {W : List (List UInt8)} (h : (personQ W).2 = true) : (personQ W).1 = (personP W).1 := by
  unfold personQ at h ⊢
  split at h
  · rename_i e; rw [if_pos e]
  · cases h
theorem personQ_2 (W : List (List UInt8)) : (personQ W).2 = (personP W).2 := by
  unfold personQ
  split
  · rename_i e; rw [e]
  · rename_i e; simpa using e
theorem bits_range (s : ByteArray) : 0 ≤ (bitsP s).1 ∧ (bitsP s).1 ≤ 31 := by
  have h : ∀ (m n : Nat), n + m ≤ 32 → 0 ≤ (bitsGo s m n).1 ∧ (bitsGo s m n).1 ≤ 31 := by
    intro m
    induction m with
    | zero => intro n _; exact ⟨Int.le_refl 0, show (0 : Int) ≤ 31 by decide⟩
    | succ m ih =>
      intro n hn
      rw [bitsGo]
      split
      · dsimp only; omega
      · exact ih (n + 1) (by omega)
  exact h 32 0 (by omega)
theorem personP_s (W : List (List UInt8)) : I64 (personP W).1.s := by
  unfold personP I64
  split
  · dsimp only
    have := bits_range (strL (wAt W 5))
    omega
  · exact ⟨by decide, by decide⟩
theorem addK_i {R : List Per} {p : Per} (hR : ∀ q ∈ R, I64 q.s) (hp : I64 p.s) : ∀ q ∈ (addK R p).1, I64 q.s := by
  intro q hq
  unfold addK at hq
  repeat' split at hq
  all_goals first
    | (simp at hq; done)
    | (have hq2 := (isort_perm (lt := ltP) (R ++ [p])).mem_iff.1 hq
       rcases List.mem_append.1 hq2 with h | h
       · exact hR q h
       · rw [List.mem_singleton.1 h]; exact hp)
set_option maxHeartbeats 16000000 in
theorem rkparse_A (s : ByteArray) (hG : GCls G) (hs : s.size ≤ 900000) :
    ACalls Tryz.prog G 25 [.v (.string s)] [] (.tu [regAV (parseR s.data.toList).1, .v (.int .i64 (parseR s.data.toList).2.1), .v (.int .i64 (parseR s.data.toList).2.2)]) [] := by
  have hz := nsizeS s
  obtain ⟨hLl, hLw⟩ := lines_len (l := s.data.toList)
  have hlin := rlines_A (G := G) s (by omega)
  unfold parseR
  cases hq : linesL s.data.toList with
  | none =>
    rw [hq] at hlin
    dsimp only
    refine acalls_of tbOk (enter_of Tryz.func25 (by kernel_rfl) rfl) Tryz.func25 rfl _ Tryz.ntmps25 (Nat.le_of_ble_eq_true rfl) fun X hX => ?_
    subst hX
    repeat (first | ((with_reducible refine k_move ?_); refine m_move rfl ?_) | ((with_reducible refine k_assign ?_); refine m_assign rfl ?_) | ((with_reducible refine k_alloc ?_); refine x_alloc tbOk rfl rfl ?_)  | refine e_nrm ?_ | refine x_none rfl ?_ | with_reducible (first | refine q_then ?_ | refine awp_seq ?_) | ((with_reducible refine w_region ?_ ?_); kernel_rfl))
    refine x_call0 (hlin) (by repeat' (first | exact trivial | exact Ren.v _ | refine ⟨?_, ?_⟩)) (by repeat' (first | exact trivial | exact RenB.v _ | exact RenB.sl _ _ | refine renb_tu ?_ | refine ⟨?_, ?_⟩)) ?_
    repeat (first | ((with_reducible refine k_move ?_); refine m_move rfl ?_) | ((with_reducible refine k_assign ?_); refine m_assign rfl ?_) | ((with_reducible refine k_store ?_); refine m_store tbOk rfl rfl rfl rfl rfl rfl rfl (Nat.le_of_ble_eq_true rfl) rfl ?_) | ((with_reducible refine k_un ?_); refine x_not rfl ?_) | ((with_reducible refine k_extract ?_); refine x_extract rfl rfl ?_) | ((with_reducible refine k_build ?_); refine m_build tbOk rfl rfl rfl rfl rfl ?_)  | refine e_nrm ?_ | refine x_none rfl ?_ | with_reducible (first | refine q_then ?_ | refine q_then_ret ?_ | refine awp_seq ?_ | refine awp_ret ?_) | ((with_reducible refine w_region ?_ ?_); kernel_rfl) | refine w_cond_t rfl (by first | rfl | assumption) ?_)
    refine ret0_ctt (by first | exact .inr rfl | exact .inl rfl) rfl rfl rfl rfl rfl rfl rfl ?_
    unfold regAV
    repeat' (first | exact trivial | exact Ren.v _ | exact Ren.nil _ | refine ren_ag ?_ | refine ren_tu ?_ | refine ⟨?_, ?_⟩)
  | some L =>
    rw [hq, Option.getD_some] at hLl hLw
    rw [hq] at hlin
    rw [Option.getD_some] at hlin
    dsimp only
    refine acalls_of tbOk (enter_of Tryz.func25 (by kernel_rfl) rfl) Tryz.func25 rfl _ Tryz.ntmps25 (Nat.le_of_ble_eq_true rfl) fun X hX => ?_
    subst hX
    repeat (first | ((with_reducible refine k_move ?_); refine m_move rfl ?_) | ((with_reducible refine k_assign ?_); refine m_assign rfl ?_) | ((with_reducible refine k_alloc ?_); refine x_alloc tbOk rfl rfl ?_)  | refine e_nrm ?_ | refine x_none rfl ?_ | with_reducible (first | refine q_then ?_ | refine awp_seq ?_) | ((with_reducible refine w_region ?_ ?_); kernel_rfl))
    refine x_call0 (hlin) (by repeat' (first | exact trivial | exact Ren.v _ | refine ⟨?_, ?_⟩)) (by repeat' (first | exact trivial | exact RenB.v _ | exact RenB.sl _ _ | refine renb_tu ?_ | refine ⟨?_, ?_⟩)) ?_
    repeat (first | ((with_reducible refine k_move ?_); refine m_move rfl ?_) | ((with_reducible refine k_assign ?_); refine m_assign rfl ?_) | ((with_reducible refine k_alloc ?_); refine x_alloc tbOk rfl rfl ?_) | ((with_reducible refine k_un ?_); refine x_not rfl ?_) | ((with_reducible refine k_extract ?_); refine x_extract rfl rfl ?_)  | refine e_nrm ?_ | refine x_none rfl ?_ | with_reducible (first | refine q_then ?_ | refine awp_seq ?_ | refine awp_block ?_ | refine awp_skip ?_) | ((with_reducible refine w_region ?_ ?_); kernel_rfl) | refine w_cond_f rfl (by first | rfl | assumption) ?_)
    refine awp_box [.sl 5 []] (s := 7) (k := 1) rfl ⟨.inr ⟨rfl, 5, rfl⟩, trivial⟩ ?_
    refine awp_loop (ι := Nat × List Per) (fun i => i.1 ≤ L.length ∧ i.2.length ≤ 64 ∧ (∀ q ∈ i.2, q.n.size ≤ maxLen) ∧ (∀ q ∈ i.2, I64 q.s) ∧ regGo i.1 i.2 (L.drop i.1) = regGo 0 [] L) (fun i => L.length - i.1) (fun v i => [(2, .ptr 2 (v 2) 0), (7, .ptr 7 (v 7) 0), (5, .sl 1 (L.map svL)), (8, .v (.int .i64 (i.1 : Nat)))]) (fun v i => [(2, .box [.v (.slice none 0 0)]), (7, .box [.sl 5 (i.2.map Per.av)])]) ?_ ?_
    · exact ⟨(0, []), ⟨Nat.zero_le _, Nat.zero_le _, fun q h => (by cases h), fun q h => (by cases h), rfl⟩, trivial, ⟨rfl, rfl, rfl, rfl, trivial⟩, ⟨rfl, rfl, trivial⟩⟩
    rintro v ⟨k, R⟩ ⟨hk, hRl, hRs, hRi, hgo⟩
    dsimp only at hk hRl hRs hRi hgo ⊢
    repeat (first | ((with_reducible refine k_move ?_); refine m_move rfl ?_) | ((with_reducible refine k_call ?_); refine x_len tbOk rfl rfl ?_) | ((with_reducible refine k_bin ?_); refine m_binI rfl rfl rfl ?_)  | refine e_nrm ?_ | refine x_none rfl ?_ | with_reducible (first | refine q_then ?_ | refine awp_seq ?_) | ((with_reducible refine w_region ?_ ?_); kernel_rfl))
    refine w_cond rfl (fun h => ?_) (fun h => ?_)
    · have hlt : k < L.length := by simp at h; omega
      obtain ⟨l, hl⟩ := some_at hlt
      have hll := hLw l (List.mem_of_getElem? hl)
      have hy := sv_at hl
      rw [drop_at hl, regGo_cons] at hgo
      have hw := rwords_A (G := X.G) (strL l) (by rw [strL_size]; omega)
      rw [strL_data] at hw
      have hwm : ∀ w ∈ wordsL l, w.length ≤ 1000000 := fun w hw => by have := wl_len (show w ∈ wl [] l from hw); simp at this; omega
      have hwne : ∀ w ∈ wordsL l, w ≠ [] := fun w h => (words_ok w h).1
      have hpe := rperson_A (G := X.G) (wordsL l) hwm
      have hps : (personP (wordsL l)).1.n.size ≤ maxLen := by
        unfold personP
        split
        · show (strL (wAt (wordsL l) 1)).size ≤ _
          rw [strL_size]
          unfold wAt
          cases hw : (wordsL l)[1]? with
          | none => simp
          | some w => have := hwm w (List.mem_of_getElem? hw); unfold maxLen; simp; omega
        · exact Nat.zero_le _
      have hpi := personP_s (wordsL l)
      have hka := raddK_A (G := X.G) R (personP (wordsL l)).1 hG hRs hps (by unfold maxLen; omega) hRi hpi
      have hkl : (addK R (personP (wordsL l)).1).2 = 0 → (addK R (personP (wordsL l)).1).1.length ≤ 64 := fun h => (addK_vl h).1
      have hks := addK_sz hRs hps
      have hki := addK_i hRi hpi
      have hq1 := personQ_1 (W := wordsL l)
      have hq2 := personQ_2 (wordsL l)
      obtain ⟨⟨p, pb⟩, hpp⟩ : ∃ q, q = personP (wordsL l) := ⟨_, rfl⟩
      obtain ⟨⟨p', pb'⟩, hpp'⟩ : ∃ q, q = personQ (wordsL l) := ⟨_, rfl⟩
      rw [← hpp] at hgo hka hkl hks hki hq1 hq2
      rw [← hpp'] at hpe hq1 hq2
      dsimp only at hgo hpe hka hkl hks hki hq1 hq2
      subst hq2
      obtain ⟨⟨R2, e2⟩, ha⟩ : ∃ q, q = addK R p := ⟨_, rfl⟩
      rw [← ha] at hgo hka hkl hks hki
      dsimp only at hgo hka hkl hks hki
      clear hpp hpp' ha hps hpi
      obtain ⟨W, hW⟩ : ∃ W, W = wordsL l := ⟨_, rfl⟩
      rw [← hW] at hgo hw hpe hwne
      clear hW hwm
      cases W with
      | nil =>
        rw [if_pos (show matB [] = false from rfl)] at hgo
        repeat (first | ((with_reducible refine k_move ?_); refine m_move rfl ?_) | ((with_reducible refine k_load ?_); refine x_load_ep_one tbOk rfl rfl rfl ?_) | ((with_reducible refine k_indexAddr ?_); refine x_indexAddr_n tbOk rfl rfl rfl rfl (by assumption) ?_)  | refine x_none rfl ?_ | with_reducible (first | refine q_then ?_ | refine awp_seq ?_ | refine awp_block ?_ | refine awp_skip ?_) | ((with_reducible refine w_region ?_ ?_); kernel_rfl))
        refine x_call0 (hw) (by repeat' (first | exact trivial | exact Ren.v _ | refine ⟨?_, ?_⟩)) (by repeat' exact RenB.sl _ _) ?_
        repeat (first | ((with_reducible refine k_move ?_); refine m_move rfl ?_) | ((with_reducible refine k_assign ?_); refine m_assign rfl ?_) | ((with_reducible refine k_pick ?_); refine m_pickt rfl (by first | rfl | assumption) rfl ?_) | ((with_reducible refine k_call ?_); refine x_len tbOk rfl rfl ?_) | ((with_reducible refine k_bin ?_); (first | refine x_add_in rfl rfl (by omega) ?_ | refine m_binI rfl rfl rfl ?_))  | refine e_nrm ?_ | refine x_none rfl ?_ | refine x_skip_f rfl rfl (by first | rfl | assumption) ?_ | with_reducible (first | refine q_then ?_ | refine q_then_exit ?_ | refine awp_seq ?_ | refine awp_exit ?_) | ((with_reducible refine q_block_exit ?_ ?_); rfl) | ((with_reducible refine w_region ?_ ?_); kernel_rfl) | refine w_cond_t rfl (by first | rfl | assumption) ?_)
        exact ⟨(k + 1, R), ⟨hlt, hRl, hRs, hRi, hgo⟩, by dsimp only; omega, ⟨rfl, rfl, rfl, rfl, trivial⟩, ⟨rfl, rfl, trivial⟩⟩
      | cons w W =>
        have hne := hwne w (by simp)
        obtain ⟨c, hc⟩ := some_at (L := w) (k := 0) (List.length_pos_iff.2 hne)
        have hz0 : ((w :: W).map svL)[(0 : Int).toNat]? = some (svL w) := rfl
        have hix := nidxS (strL w) 0 c (by rw [strL_data]; exact hc)
        have hpos : (((((w :: W).map svL).length : Nat) : Int) == 0) = false := by simp; omega
        have e : matB (w :: W) = !decide ((c.toNat : Int) = 35) := by
          unfold matB wAt
          simp only [List.length_cons, List.getElem?_cons_zero, Option.getD_some, hc, Option.some.injEq]
          by_cases h : c = 35
          · subst h; rfl
          · have : (c.toNat : Int) ≠ 35 := fun e => h (UInt8.toNat_inj.1 (by show c.toNat = 35; omega))
            simp [h, this]
        rw [e] at hgo
        repeat (first | ((with_reducible refine k_move ?_); refine m_move rfl ?_) | ((with_reducible refine k_load ?_); refine x_load_ep_one tbOk rfl rfl rfl ?_) | ((with_reducible refine k_indexAddr ?_); refine x_indexAddr_n tbOk rfl rfl rfl rfl (by assumption) ?_)  | refine x_none rfl ?_ | with_reducible (first | refine q_then ?_ | refine awp_seq ?_ | refine awp_block ?_ | refine awp_skip ?_) | ((with_reducible refine w_region ?_ ?_); kernel_rfl))
        refine x_call0 (hw) (by repeat' (first | exact trivial | exact Ren.v _ | refine ⟨?_, ?_⟩)) (by repeat' exact RenB.sl _ _) ?_
        repeat (first | ((with_reducible refine k_move ?_); refine m_move rfl ?_) | ((with_reducible refine k_assign ?_); refine m_assign rfl ?_) | ((with_reducible refine k_load ?_); refine x_load_ep_one tbOk rfl rfl rfl ?_) | ((with_reducible refine k_pick ?_); refine m_pickf rfl (by first | rfl | assumption) rfl ?_) | ((with_reducible refine k_indexAddr ?_); refine x_indexAddr_n tbOk rfl rfl rfl rfl (by assumption) ?_) | ((with_reducible refine k_index ?_); refine x_index rfl rfl (by assumption) ?_) | ((with_reducible refine k_call ?_); refine x_len tbOk rfl rfl ?_) | ((with_reducible refine k_bin ?_); refine m_binI rfl rfl rfl ?_)  | refine e_nrm ?_ | refine x_none rfl ?_ | refine x_run_f rfl rfl (by first | rfl | assumption) ?_ | with_reducible (first | refine q_then ?_ | refine awp_seq ?_) | ((with_reducible refine w_region ?_ ?_); kernel_rfl))
        refine w_cond rfl (fun c => ?_) (fun c => ?_)
        · rw [if_pos (by simpa using c)] at hgo
          repeat (first | ((with_reducible refine k_move ?_); refine m_move rfl ?_) | ((with_reducible refine k_assign ?_); refine m_assign rfl ?_) | ((with_reducible refine k_bin ?_); refine x_add_in rfl rfl (by omega) ?_)  | refine e_nrm ?_ | refine x_none rfl ?_ | with_reducible (first | refine q_then ?_ | refine q_then_exit ?_ | refine awp_exit ?_) | ((with_reducible refine q_block_exit ?_ ?_); rfl) | ((with_reducible refine w_region ?_ ?_); kernel_rfl))
          exact ⟨(k + 1, R), ⟨hlt, hRl, hRs, hRi, hgo⟩, by dsimp only; omega, ⟨rfl, rfl, rfl, rfl, trivial⟩, ⟨rfl, rfl, trivial⟩⟩
        rw [if_neg (by simpa using c)] at hgo
        repeat (first | ((with_reducible refine k_move ?_); refine m_move rfl ?_)  | refine x_none rfl ?_ | with_reducible (first | refine q_then ?_ | refine awp_seq ?_ | refine awp_skip ?_) | ((with_reducible refine w_region ?_ ?_); kernel_rfl))
        refine x_call0 (hpe) (by repeat' (first | exact trivial | exact Ren.sl _ _ | refine ⟨?_, ?_⟩)) (by repeat' (first | exact trivial | exact RenB.v _ | refine renb_ag ?_ | refine renb_tu ?_ | refine ⟨?_, ?_⟩)) ?_
        repeat (first | ((with_reducible refine k_move ?_); refine m_move rfl ?_) | ((with_reducible refine k_assign ?_); refine m_assign rfl ?_) | ((with_reducible refine k_store ?_); refine m_store tbOk rfl rfl rfl rfl rfl rfl rfl (Nat.le_of_ble_eq_true rfl) rfl ?_) | ((with_reducible refine k_alloc ?_); refine x_alloc tbOk rfl rfl ?_) | ((with_reducible refine k_un ?_); refine x_not rfl ?_) | ((with_reducible refine k_extract ?_); refine x_extract rfl rfl ?_)  | refine e_nrm ?_ | refine x_none rfl ?_ | with_reducible (first | refine q_then ?_ | refine awp_seq ?_) | ((with_reducible refine w_region ?_ ?_); kernel_rfl))
        refine w_cond rfl (fun c => ?_) (fun c => ?_)
        · rw [if_pos (by simpa using c)] at hgo
          rw [← hgo]
          repeat (first | ((with_reducible refine k_move ?_); refine m_move rfl ?_) | ((with_reducible refine k_assign ?_); refine m_assign rfl ?_) | ((with_reducible refine k_store ?_); refine m_store tbOk rfl rfl rfl rfl rfl rfl rfl (Nat.le_of_ble_eq_true rfl) rfl ?_) | ((with_reducible refine k_build ?_); refine m_build tbOk rfl rfl rfl rfl rfl ?_) | ((with_reducible refine k_bin ?_); refine x_add_in rfl rfl (by omega) ?_)  | refine e_nrm ?_ | refine x_none rfl ?_ | with_reducible (first | refine q_then ?_ | refine q_then_ret ?_ | refine q_block_ret ?_ | refine awp_seq ?_ | refine awp_ret ?_) | ((with_reducible refine w_region ?_ ?_); kernel_rfl))
          refine ret0_ctt (by first | exact .inr rfl | exact .inl rfl) rfl rfl rfl rfl rfl rfl rfl ?_
          unfold regAV
          repeat' (first | exact trivial | exact Ren.v _ | exact Ren.nil _ | refine ren_ag ?_ | refine ren_tu ?_ | refine ⟨?_, ?_⟩)
        rw [if_neg (by simpa using c)] at hgo
        obtain rfl := hq1 (by simpa using c)
        repeat (first | ((with_reducible refine k_load ?_); refine x_load_agg tbOk rfl rfl rfl rfl (Nat.le_of_ble_eq_true rfl) ?_)  | refine x_none rfl ?_ | with_reducible (first | refine q_then ?_ | refine awp_seq ?_ | refine awp_skip ?_) | ((with_reducible refine w_region ?_ ?_); kernel_rfl))
        refine x_call0 (hka) (by repeat' (first | exact trivial | exact Ren.v _ | exact Ren.sl _ _ | refine ren_ag ?_ | refine ⟨?_, ?_⟩)) (by repeat' (first | exact trivial | exact RenB.v _ | exact RenB.sl _ _ | refine renb_ag ?_ | refine renb_tu ?_ | refine ⟨?_, ?_⟩)) ?_
        repeat (first | ((with_reducible refine k_move ?_); refine m_move rfl ?_) | ((with_reducible refine k_assign ?_); refine m_assign rfl ?_) | ((with_reducible refine k_store ?_); refine m_store tbOk rfl rfl rfl rfl rfl rfl rfl (Nat.le_of_ble_eq_true rfl) rfl ?_) | ((with_reducible refine k_alloc ?_); refine x_alloc tbOk rfl rfl ?_) | ((with_reducible refine k_extract ?_); refine x_extract rfl rfl ?_) | ((with_reducible refine k_bin ?_); refine m_binI rfl rfl rfl ?_)  | refine e_nrm ?_ | refine x_none rfl ?_ | with_reducible (first | refine q_then ?_ | refine awp_seq ?_) | ((with_reducible refine w_region ?_ ?_); kernel_rfl))
        refine w_cond rfl (fun c => ?_) (fun c => ?_)
        · rw [if_pos (by simpa using c)] at hgo
          rw [← hgo]
          repeat (first | ((with_reducible refine k_move ?_); refine m_move rfl ?_) | ((with_reducible refine k_assign ?_); refine m_assign rfl ?_) | ((with_reducible refine k_store ?_); refine m_store tbOk rfl rfl rfl rfl rfl rfl rfl (Nat.le_of_ble_eq_true rfl) rfl ?_) | ((with_reducible refine k_build ?_); refine m_build tbOk rfl rfl rfl rfl rfl ?_) | ((with_reducible refine k_bin ?_); refine x_add_in rfl rfl (by omega) ?_)  | refine e_nrm ?_ | refine x_none rfl ?_ | with_reducible (first | refine q_then ?_ | refine q_then_ret ?_ | refine q_block_ret ?_ | refine awp_seq ?_ | refine awp_ret ?_) | ((with_reducible refine w_region ?_ ?_); kernel_rfl))
          refine ret0_ctt (by first | exact .inr rfl | exact .inl rfl) rfl rfl rfl rfl rfl rfl rfl ?_
          unfold regAV
          repeat' (first | exact trivial | exact Ren.v _ | exact Ren.nil _ | refine ren_ag ?_ | refine ren_tu ?_ | refine ⟨?_, ?_⟩)
        · rw [if_neg (by simpa using c)] at hgo
          repeat (first | ((with_reducible refine k_move ?_); refine m_move rfl ?_) | ((with_reducible refine k_assign ?_); refine m_assign rfl ?_) | ((with_reducible refine k_load ?_); refine x_load_agg tbOk rfl rfl rfl rfl (Nat.le_of_ble_eq_true rfl) ?_) | ((with_reducible refine k_store ?_); refine m_store tbOk rfl rfl rfl rfl rfl rfl rfl (Nat.le_of_ble_eq_true rfl) rfl ?_) | ((with_reducible refine k_bin ?_); refine x_add_in rfl rfl (by omega) ?_)  | refine e_nrm ?_ | refine x_none rfl ?_ | with_reducible (first | refine q_then ?_ | refine q_block ?_ | refine awp_skip ?_) | ((with_reducible refine w_region ?_ ?_); kernel_rfl))
          exact ⟨(k + 1, R2), ⟨hlt, hkl (by simpa using c), hks, hki, hgo⟩, by dsimp only; omega, ⟨rfl, rfl, rfl, rfl, trivial⟩, ⟨rfl, rfl, trivial⟩⟩
    · have hge : L.length ≤ k := by simp at h; omega
      rw [List.drop_of_length_le hge, regGo] at hgo
      rw [← hgo]
      repeat (first | ((with_reducible refine k_assign ?_); refine m_assign rfl ?_) | ((with_reducible refine k_load ?_); refine x_load_agg tbOk rfl rfl rfl rfl (Nat.le_of_ble_eq_true rfl) ?_) | ((with_reducible refine k_store ?_); refine m_store tbOk rfl rfl rfl rfl rfl rfl rfl (Nat.le_of_ble_eq_true rfl) rfl ?_)  | refine e_nrm ?_ | refine x_none rfl ?_ | with_reducible (first | refine q_then ?_ | refine q_then_exit ?_ | refine awp_seq ?_ | refine awp_exit ?_ | refine awp_ret ?_) | ((with_reducible refine q_block_exit ?_ ?_); rfl) | ((with_reducible refine w_region ?_ ?_); kernel_rfl))
      refine ret0_ctt (by first | exact .inr rfl | exact .inl rfl) rfl rfl rfl rfl rfl rfl rfl ?_
      unfold regAV
      repeat' (first | exact trivial | exact Ren.v _ | exact Ren.sl _ _ | refine ren_ag ?_ | refine ren_tu ?_ | refine ⟨?_, ?_⟩)
end Go.Proofs.YtggagmafkdhjcaaGreatDoor
