/- modeltext.Matter, register.bits and person, by the abstract machine; conditions: none. -/
import Derived.Test.YtggagmafkdhjcaaGreatDoorTxB
import Derived.Test.YtggagmafkdhjcaaGreatDoorNmA
import Derived.Test.YtggagmafkdhjcaaGreatDoorLxA
import Derived.Test.YtggagmafkdhjcaaGreatDoorCdC
set_option linter.unusedVariables false
set_option linter.unusedSimpArgs false
namespace Go.Proofs.YtggagmafkdhjcaaGreatDoor
open Go Go.RowKit
set_option maxRecDepth 10000
variable {G : Nat → Option (List Value)}
theorem wat_sv {L : List (List UInt8)} {k : Nat} (h : k < L.length) : (L.map svL)[k]? = some (svL (wAt L k)) := by
  obtain ⟨x, hx⟩ := some_at h
  unfold wAt
  rw [hx, List.getElem?_map, hx]; rfl
theorem wat_at {W : List (List UInt8)} {k n : Nat} (h : W.length = n) (hk : k < n) : (W.map svL)[((k : Nat) : Int).toNat]? = some (svL (wAt W k)) := wat_sv (by omega)
theorem strEq_L (a b : List UInt8) : strEq (strL a) (strL b) = true ↔ a = b := by
  rw [strEq_iff]
  exact ⟨fun h => by rw [← strL_data a, h, strL_data], fun h => by rw [h]⟩
theorem seq_t {a : List UInt8} {b : Array UInt8} (h : a = b.toList) : strEq (strL a) ⟨b⟩ = true := (strEq_L a b.toList).2 h
theorem seq_f {a : List UInt8} {b : Array UInt8} (h : ¬ a = b.toList) : strEq (strL a) ⟨b⟩ = false := by
  cases hq : strEq (strL a) ⟨b⟩ with
  | false => rfl
  | true => exact absurd ((strEq_L a b.toList).1 hq) h
set_option maxHeartbeats 2000000 in
theorem matter_A (l : List UInt8) (hl : l.length ≤ 1000000) : ACalls Tryz.prog G 34 [svL l] [] (.tu [.sl 1 ((wordsL l).map svL), .v (.bool (matB (wordsL l)))]) [] := by
  obtain ⟨W, hW⟩ : ∃ W, W = wordsL l := ⟨_, rfl⟩
  have hw := words_A (G := G) (strL l) (by rw [strL_size]; omega)
  rw [strL_data, ← hW] at hw
  have hwok : ∀ w ∈ W, w ≠ [] := fun w h => (words_ok w (by rw [← hW]; exact h)).1
  have hwc : W.length ≤ l.length + 1 := by rw [hW]; exact wl_count
  rw [← hW]
  cases W with
  | nil =>
    refine acalls_of tbOk (enter_of Tryz.func34 (by kernel_rfl) rfl) Tryz.func34 rfl _ Tryz.ntmps34 (Nat.le_of_ble_eq_true rfl) fun X hX => ?_
    subst hX
    repeat (first | ((with_reducible refine k_move ?_); refine m_move rfl ?_) | ((with_reducible refine k_assign ?_); refine m_assign rfl ?_)  | refine e_nrm ?_ | refine x_none rfl ?_ | with_reducible (first | refine q_then ?_ | refine awp_seq ?_) | ((with_reducible refine w_region ?_ ?_); kernel_rfl))
    refine x_call0 (hw) (by repeat' (first | exact trivial | exact Ren.v _ | refine ⟨?_, ?_⟩)) (by repeat' exact RenB.sl _ _) ?_
    repeat (first | ((with_reducible refine k_move ?_); refine m_move rfl ?_) | ((with_reducible refine k_assign ?_); refine m_assign rfl ?_) | ((with_reducible refine k_pick ?_); refine m_pickf rfl (by first | rfl | assumption) rfl ?_) | ((with_reducible refine k_call ?_); refine x_len tbOk rfl rfl ?_) | ((with_reducible refine k_bin ?_); refine m_binI rfl rfl rfl ?_)  | refine e_nrm ?_ | refine e_drw (by kernel_rfl) ?_ | refine x_none rfl ?_ | refine x_skip_t rfl rfl (by first | rfl | assumption) ?_ | with_reducible (first | refine q_then ?_ | refine awp_seq ?_ | refine awp_ret ?_) | ((with_reducible refine w_draw mixd ?_ ?_); kernel_rfl))
    refine ret0_2 (by first | exact .inr rfl | exact .inl rfl) rfl rfl rfl ?_
    repeat' (first | exact trivial | exact Ren.v _ | exact Ren.sl _ _ | refine ren_tu ?_ | refine ⟨?_, ?_⟩)
  | cons w W =>
    have hne := hwok w (by simp)
    obtain ⟨c, hc⟩ := some_at (L := w) (k := 0) (List.length_pos_iff.2 hne)
    have hz : ((w :: W).map svL)[(0 : Int).toNat]? = some (svL w) := rfl
    have hix := nidxS (strL w) 0 c (by rw [strL_data]; exact hc)
    have hpos : decide ((0 : Int) < (((w :: W).map svL).length : Nat)) = true := by simp
    have e : matB (w :: W) = !decide ((c.toNat : Int) = 35) := by
      unfold matB wAt
      simp only [List.length_cons, List.getElem?_cons_zero, Option.getD_some, hc, Option.some.injEq]
      by_cases h : c = 35
      · subst h; rfl
      · have : (c.toNat : Int) ≠ 35 := fun e => h (UInt8.toNat_inj.1 (by show c.toNat = 35; omega))
        simp [h, this]
    rw [e]
    refine acalls_of tbOk (enter_of Tryz.func34 (by kernel_rfl) rfl) Tryz.func34 rfl _ Tryz.ntmps34 (Nat.le_of_ble_eq_true rfl) fun X hX => ?_
    subst hX
    repeat (first | ((with_reducible refine k_move ?_); refine m_move rfl ?_) | ((with_reducible refine k_assign ?_); refine m_assign rfl ?_)  | refine e_nrm ?_ | refine x_none rfl ?_ | with_reducible (first | refine q_then ?_ | refine awp_seq ?_) | ((with_reducible refine w_region ?_ ?_); kernel_rfl))
    refine x_call0 (hw) (by repeat' (first | exact trivial | exact Ren.v _ | refine ⟨?_, ?_⟩)) (by repeat' exact RenB.sl _ _) ?_
    repeat (first | ((with_reducible refine k_move ?_); refine m_move rfl ?_) | ((with_reducible refine k_assign ?_); refine m_assign rfl ?_) | ((with_reducible refine k_load ?_); refine x_load_ep_one tbOk rfl rfl rfl ?_) | ((with_reducible refine k_pick ?_); refine m_pickt rfl (by first | rfl | assumption) rfl ?_) | ((with_reducible refine k_indexAddr ?_); refine x_indexAddr_n tbOk rfl rfl rfl rfl (by assumption) ?_) | ((with_reducible refine k_index ?_); refine x_index rfl rfl (by assumption) ?_) | ((with_reducible refine k_call ?_); refine x_len tbOk rfl rfl ?_) | ((with_reducible refine k_bin ?_); refine m_binI rfl rfl rfl ?_)  | refine e_nrm ?_ | refine e_drw (by kernel_rfl) ?_ | refine x_none rfl ?_ | refine x_run_t rfl rfl (by first | rfl | assumption) ?_ | with_reducible (first | refine q_then ?_ | refine awp_seq ?_ | refine awp_ret ?_) | ((with_reducible refine w_draw mixd ?_ ?_); kernel_rfl))
    refine ret0_2 (by first | exact .inr rfl | exact .inl rfl) rfl rfl rfl ?_
    repeat' (first | exact trivial | exact Ren.v _ | exact Ren.sl _ _ | refine ren_tu ?_ | refine ⟨?_, ?_⟩)
theorem bits_A (s : ByteArray) : ACalls Tryz.prog G 59 [.v (.string s)] [] (.tu [.v (.int .i64 (bitsP s).1), .v (.bool (bitsP s).2)]) [] := by
  refine acalls_of tbOk (enter_of Tryz.func59 (by kernel_rfl) rfl) Tryz.func59 rfl _ Tryz.ntmps59 (Nat.le_of_ble_eq_true rfl) fun X hX => ?_
  subst hX
  repeat (first | ((with_reducible refine k_move ?_); refine m_move rfl ?_) | ((with_reducible refine k_assign ?_); refine m_assign rfl ?_)  | refine e_nrm ?_ | refine x_none rfl ?_ | with_reducible (first | refine q_then ?_ | refine awp_seq ?_ | refine awp_block ?_) | ((with_reducible refine w_region ?_ ?_); kernel_rfl))
  refine awp_loop (ι := Nat) (fun n => n ≤ 32 ∧ bitsGo s (32 - n) n = bitsP s) (fun n => 32 - n) (fun v n => [(0, .v (.string s)), (5, .v (.int .i64 (n : Nat)))]) (fun v n => []) ?_ ?_
  · exact ⟨0, ⟨Nat.zero_le _, rfl⟩, trivial, ⟨rfl, rfl, trivial⟩, trivial⟩
  rintro v n ⟨hn, hb⟩
  repeat (first | ((with_reducible refine k_bin ?_); refine m_binI rfl rfl rfl ?_)  | refine e_nrm ?_ | refine x_none rfl ?_ | with_reducible (first | refine q_then ?_ | refine awp_seq ?_) | ((with_reducible refine w_region ?_ ?_); kernel_rfl))
  refine w_cond rfl (fun h => ?_) (fun h => ?_)
  · have hlt : n < 32 := by simp at h; omega
    rw [show 32 - n = (32 - (n + 1)) + 1 by omega, bitsGo] at hb
    have hsk := skills_A (G := X.G) (n : Int)
    generalize skillsS (n : Int) = t at hsk hb
    repeat (first | ((with_reducible refine k_move ?_); refine m_move rfl ?_) | ((with_reducible refine k_assign ?_); refine m_assign rfl ?_)  | refine e_nrm ?_ | refine x_none rfl ?_ | with_reducible (first | refine q_then ?_ | refine awp_seq ?_ | refine awp_block ?_ | refine awp_skip ?_) | ((with_reducible refine w_region ?_ ?_); kernel_rfl))
    refine x_call0 (hsk) (by repeat' (first | exact trivial | exact Ren.v _ | refine ⟨?_, ?_⟩)) (by repeat' exact RenB.v _) ?_
    repeat (first | ((with_reducible refine k_move ?_); refine m_move rfl ?_) | ((with_reducible refine k_bin ?_); refine m_binS rfl rfl rfl ?_)  | refine e_nrm ?_ | refine x_none rfl ?_ | with_reducible refine q_then ?_ )
    refine w_cond rfl (fun q => ?_) (fun q => ?_)
    · rw [if_pos (strEq_iff.1 q)] at hb
      rw [← hb]
      repeat (first | ((with_reducible refine k_move ?_); refine m_move rfl ?_) | ((with_reducible refine k_assign ?_); refine m_assign rfl ?_)  | refine e_nrm ?_ | refine x_none rfl ?_ | with_reducible (first | refine q_then ?_ | refine q_then_ret ?_ | refine q_block_ret ?_ | refine awp_seq ?_ | refine awp_ret ?_) | ((with_reducible refine w_region ?_ ?_); kernel_rfl))
      refine ret0_2 (by first | exact .inr rfl | exact .inl rfl) rfl rfl rfl ?_
      repeat' (first | exact trivial | exact Ren.v _ | refine ren_tu ?_ | refine ⟨?_, ?_⟩)
    · rw [if_neg (fun e => by rw [strEq_iff.2 e] at q; cases q)] at hb
      repeat (first | ((with_reducible refine k_move ?_); refine m_move rfl ?_) | ((with_reducible refine k_bin ?_); refine x_add_in rfl rfl (by omega) ?_)  | refine e_nrm ?_ | refine x_none rfl ?_ | with_reducible (first | refine q_then ?_ | refine q_block ?_ | refine awp_skip ?_) | ((with_reducible refine w_region ?_ ?_); kernel_rfl))
      exact ⟨n + 1, ⟨hlt, hb⟩, by omega, ⟨rfl, rfl, trivial⟩, trivial⟩
  · have he : n = 32 := by simp at h; omega
    rw [he, Nat.sub_self, bitsGo] at hb
    rw [← hb]
    repeat (first | ((with_reducible refine k_assign ?_); refine m_assign rfl ?_)  | refine e_nrm ?_ | refine x_none rfl ?_ | with_reducible (first | refine q_then ?_ | refine q_then_exit ?_ | refine awp_seq ?_ | refine awp_exit ?_ | refine awp_ret ?_) | ((with_reducible refine q_block_exit ?_ ?_); rfl) | ((with_reducible refine w_region ?_ ?_); kernel_rfl))
    refine ret0_2 (by first | exact .inr rfl | exact .inl rfl) rfl rfl rfl ?_
    repeat' (first | exact trivial | exact Ren.v _ | refine ren_tu ?_ | refine ⟨?_, ?_⟩)
set_option maxHeartbeats 16000000 in
theorem pline_A (W : List (List UInt8)) (hw : ∀ w ∈ W, w.length ≤ 1000000) (hbits : ∀ s : ByteArray, ACalls Tryz.prog G 59 [.v (.string s)] [] (.tu [.v (.int .i64 (bitsP s).1), .v (.bool (bitsP s).2)]) []) : ACalls Tryz.prog G 35 [.sl 1 (W.map svL)] [] (.tu [(personP W).1.av, .v (.bool (personP W).2)]) [] := by
  by_cases h10 : W.length ≠ 10
  · have hb : personP W = (Per.zer, false) := by unfold personP; rw [if_neg (fun e => h10 e.1)]
    rw [hb]
    refine acalls_of tbOk (enter_of Tryz.func35 (by kernel_rfl) rfl) Tryz.func35 rfl _ Tryz.ntmps35 (Nat.le_of_ble_eq_true rfl) fun X hX => ?_
    subst hX
    repeat (first | ((with_reducible refine k_move ?_); refine m_move rfl ?_) | ((with_reducible refine k_assign ?_); refine m_assign rfl ?_) | ((with_reducible refine k_alloc ?_); refine x_alloc tbOk rfl rfl ?_) | ((with_reducible refine k_call ?_); refine x_len tbOk rfl rfl ?_) | ((with_reducible refine k_bin ?_); refine m_binI rfl rfl rfl ?_)  | refine e_nrm ?_ | refine x_none rfl ?_ | with_reducible (first | refine q_then ?_ | refine awp_seq ?_) | ((with_reducible refine w_region ?_ ?_); kernel_rfl))
    refine x_split rfl rfl (fun c => ?_) (fun c => ?_)
    rotate_left
    · exact absurd (by simp at c; omega) h10
    repeat (first | ((with_reducible refine k_move ?_); refine m_move rfl ?_) | ((with_reducible refine k_assign ?_); refine m_assign rfl ?_) | ((with_reducible refine k_store ?_); refine m_store tbOk rfl rfl rfl rfl rfl rfl rfl (Nat.le_of_ble_eq_true rfl) rfl ?_) | ((with_reducible refine k_pick ?_); refine m_pickt rfl (by first | rfl | assumption) rfl ?_) | ((with_reducible refine k_build ?_); refine m_build tbOk rfl rfl rfl rfl rfl ?_)  | refine e_nrm ?_ | refine x_none rfl ?_ | refine x_skip_f rfl rfl (by first | rfl | assumption) ?_ | with_reducible (first | refine q_then ?_ | refine q_then_ret ?_ | refine awp_seq ?_ | refine awp_ret ?_) | ((with_reducible refine w_region ?_ ?_); kernel_rfl) | refine w_cond_t rfl (by first | rfl | assumption) ?_)
    refine ret0_ct (by first | exact .inr rfl | exact .inl rfl) rfl rfl rfl rfl rfl rfl ?_
    repeat' (first | exact trivial | exact Ren.v _ | refine ren_ag ?_ | refine ren_tu ?_ | refine ⟨?_, ?_⟩)
  have h10 : W.length = 10 := by omega
  have hl : ∀ k, k < 10 → (wAt W k).length ≤ 1000000 := fun k hk => by
    obtain ⟨x, hx⟩ := some_at (L := W) (k := k) (by omega)
    have : wAt W k = x := by unfold wAt; rw [hx]; rfl
    rw [this]; exact hw x (List.mem_of_getElem? hx)
  have l0 : ((((W.map svL).length : Nat) : Int) != 10) = false := by simp; omega
  have l1 : (!decide ((((W.map svL).length : Nat) : Int) = 10)) = false := by simp; omega
  have z0 : (W.map svL)[(0 : Int).toNat]? = some (svL (wAt W 0)) := wat_at h10 (by decide)
  have z1 : (W.map svL)[(1 : Int).toNat]? = some (svL (wAt W 1)) := wat_at h10 (by decide)
  have z2 : (W.map svL)[(2 : Int).toNat]? = some (svL (wAt W 2)) := wat_at h10 (by decide)
  have z3 : (W.map svL)[(3 : Int).toNat]? = some (svL (wAt W 3)) := wat_at h10 (by decide)
  have z4 : (W.map svL)[(4 : Int).toNat]? = some (svL (wAt W 4)) := wat_at h10 (by decide)
  have z5 : (W.map svL)[(5 : Int).toNat]? = some (svL (wAt W 5)) := wat_at h10 (by decide)
  have z6 : (W.map svL)[(6 : Int).toNat]? = some (svL (wAt W 6)) := wat_at h10 (by decide)
  have z7 : (W.map svL)[(7 : Int).toNat]? = some (svL (wAt W 7)) := wat_at h10 (by decide)
  have z8 : (W.map svL)[(8 : Int).toNat]? = some (svL (wAt W 8)) := wat_at h10 (by decide)
  have z9 : (W.map svL)[(9 : Int).toNat]? = some (svL (wAt W 9)) := wat_at h10 (by decide)
  by_cases q0 : ¬ wAt W 0 = personL
  · have e0 : (!strEq (strL (wAt W 0)) ⟨#[112, 101, 114, 115, 111, 110]⟩) = true := by rw [seq_f (b := #[112, 101, 114, 115, 111, 110]) q0]; rfl
    have hb : personP W = (Per.zer, false) := by unfold personP; rw [if_neg (fun e => q0 e.2.1)]
    rw [hb]
    refine acalls_of tbOk (enter_of Tryz.func35 (by kernel_rfl) rfl) Tryz.func35 rfl _ Tryz.ntmps35 (Nat.le_of_ble_eq_true rfl) fun X hX => ?_
    subst hX
    repeat (first | ((with_reducible refine k_move ?_); refine m_move rfl ?_) | ((with_reducible refine k_assign ?_); refine m_assign rfl ?_) | ((with_reducible refine k_load ?_); refine x_load_ep_one tbOk rfl rfl rfl ?_) | ((with_reducible refine k_store ?_); refine m_store tbOk rfl rfl rfl rfl rfl rfl rfl (Nat.le_of_ble_eq_true rfl) rfl ?_) | ((with_reducible refine k_alloc ?_); refine x_alloc tbOk rfl rfl ?_) | ((with_reducible refine k_pick ?_); (first | refine m_pickt rfl (by first | rfl | assumption) rfl ?_ | refine m_pickf rfl (by first | rfl | assumption) rfl ?_)) | ((with_reducible refine k_indexAddr ?_); refine x_indexAddr_n tbOk rfl rfl rfl rfl (by assumption) ?_) | ((with_reducible refine k_build ?_); refine m_build tbOk rfl rfl rfl rfl rfl ?_) | ((with_reducible refine k_call ?_); refine x_len tbOk rfl rfl ?_) | ((with_reducible refine k_bin ?_); (first | refine m_binI rfl rfl rfl ?_ | refine m_binS rfl rfl rfl ?_))  | refine e_nrm ?_ | refine x_none rfl ?_ | refine x_run_f rfl rfl (by first | rfl | assumption) ?_ | refine x_skip_f rfl rfl (by first | rfl | assumption) ?_ | with_reducible (first | refine q_then ?_ | refine q_then_ret ?_ | refine awp_seq ?_ | refine awp_ret ?_) | ((with_reducible refine w_region ?_ ?_); kernel_rfl) | refine w_cond_t rfl (by first | rfl | assumption) ?_)
    refine ret0_ct (by first | exact .inr rfl | exact .inl rfl) rfl rfl rfl rfl rfl rfl ?_
    repeat' (first | exact trivial | exact Ren.v _ | refine ren_ag ?_ | refine ren_tu ?_ | refine ⟨?_, ?_⟩)
  have q0 : wAt W 0 = personL := Classical.not_not.1 q0
  have e0 : (!strEq (strL (wAt W 0)) ⟨#[112, 101, 114, 115, 111, 110]⟩) = false := by rw [seq_t (b := #[112, 101, 114, 115, 111, 110]) q0]; rfl
  by_cases q2 : ¬ wAt W 2 = companyL
  · have e2 : (!strEq (strL (wAt W 2)) ⟨#[99, 111, 109, 112, 97, 110, 121]⟩) = true := by rw [seq_f (b := #[99, 111, 109, 112, 97, 110, 121]) q2]; rfl
    have hb : personP W = (Per.zer, false) := by unfold personP; rw [if_neg (fun e => q2 e.2.2.1)]
    rw [hb]
    refine acalls_of tbOk (enter_of Tryz.func35 (by kernel_rfl) rfl) Tryz.func35 rfl _ Tryz.ntmps35 (Nat.le_of_ble_eq_true rfl) fun X hX => ?_
    subst hX
    repeat (first | ((with_reducible refine k_move ?_); refine m_move rfl ?_) | ((with_reducible refine k_assign ?_); refine m_assign rfl ?_) | ((with_reducible refine k_load ?_); refine x_load_ep_one tbOk rfl rfl rfl ?_) | ((with_reducible refine k_store ?_); refine m_store tbOk rfl rfl rfl rfl rfl rfl rfl (Nat.le_of_ble_eq_true rfl) rfl ?_) | ((with_reducible refine k_alloc ?_); refine x_alloc tbOk rfl rfl ?_) | ((with_reducible refine k_pick ?_); (first | refine m_pickt rfl (by first | rfl | assumption) rfl ?_ | refine m_pickf rfl (by first | rfl | assumption) rfl ?_)) | ((with_reducible refine k_indexAddr ?_); refine x_indexAddr_n tbOk rfl rfl rfl rfl (by assumption) ?_) | ((with_reducible refine k_build ?_); refine m_build tbOk rfl rfl rfl rfl rfl ?_) | ((with_reducible refine k_call ?_); refine x_len tbOk rfl rfl ?_) | ((with_reducible refine k_bin ?_); (first | refine m_binI rfl rfl rfl ?_ | refine m_binS rfl rfl rfl ?_))  | refine e_nrm ?_ | refine x_none rfl ?_ | refine x_run_f rfl rfl (by first | rfl | assumption) ?_ | refine x_skip_f rfl rfl (by first | rfl | assumption) ?_ | with_reducible (first | refine q_then ?_ | refine q_then_ret ?_ | refine awp_seq ?_ | refine awp_ret ?_) | ((with_reducible refine w_region ?_ ?_); kernel_rfl) | refine w_cond_t rfl (by first | rfl | assumption) ?_)
    refine ret0_ct (by first | exact .inr rfl | exact .inl rfl) rfl rfl rfl rfl rfl rfl ?_
    repeat' (first | exact trivial | exact Ren.v _ | refine ren_ag ?_ | refine ren_tu ?_ | refine ⟨?_, ?_⟩)
  have q2 : wAt W 2 = companyL := Classical.not_not.1 q2
  have e2 : (!strEq (strL (wAt W 2)) ⟨#[99, 111, 109, 112, 97, 110, 121]⟩) = false := by rw [seq_t (b := #[99, 111, 109, 112, 97, 110, 121]) q2]; rfl
  by_cases q4 : ¬ wAt W 4 = skillsL
  · have e4 : (!strEq (strL (wAt W 4)) ⟨#[115, 107, 105, 108, 108, 115]⟩) = true := by rw [seq_f (b := #[115, 107, 105, 108, 108, 115]) q4]; rfl
    have hb : personP W = (Per.zer, false) := by unfold personP; rw [if_neg (fun e => q4 e.2.2.2.1)]
    rw [hb]
    refine acalls_of tbOk (enter_of Tryz.func35 (by kernel_rfl) rfl) Tryz.func35 rfl _ Tryz.ntmps35 (Nat.le_of_ble_eq_true rfl) fun X hX => ?_
    subst hX
    repeat (first | ((with_reducible refine k_move ?_); refine m_move rfl ?_) | ((with_reducible refine k_assign ?_); refine m_assign rfl ?_) | ((with_reducible refine k_load ?_); refine x_load_ep_one tbOk rfl rfl rfl ?_) | ((with_reducible refine k_store ?_); refine m_store tbOk rfl rfl rfl rfl rfl rfl rfl (Nat.le_of_ble_eq_true rfl) rfl ?_) | ((with_reducible refine k_alloc ?_); refine x_alloc tbOk rfl rfl ?_) | ((with_reducible refine k_pick ?_); (first | refine m_pickt rfl (by first | rfl | assumption) rfl ?_ | refine m_pickf rfl (by first | rfl | assumption) rfl ?_)) | ((with_reducible refine k_indexAddr ?_); refine x_indexAddr_n tbOk rfl rfl rfl rfl (by assumption) ?_) | ((with_reducible refine k_build ?_); refine m_build tbOk rfl rfl rfl rfl rfl ?_) | ((with_reducible refine k_call ?_); refine x_len tbOk rfl rfl ?_) | ((with_reducible refine k_bin ?_); (first | refine m_binI rfl rfl rfl ?_ | refine m_binS rfl rfl rfl ?_))  | refine e_nrm ?_ | refine x_none rfl ?_ | refine x_run_f rfl rfl (by first | rfl | assumption) ?_ | refine x_skip_f rfl rfl (by first | rfl | assumption) ?_ | with_reducible (first | refine q_then ?_ | refine q_then_ret ?_ | refine awp_seq ?_ | refine awp_ret ?_) | ((with_reducible refine w_region ?_ ?_); kernel_rfl) | refine w_cond_t rfl (by first | rfl | assumption) ?_)
    refine ret0_ct (by first | exact .inr rfl | exact .inl rfl) rfl rfl rfl rfl rfl rfl ?_
    repeat' (first | exact trivial | exact Ren.v _ | refine ren_ag ?_ | refine ren_tu ?_ | refine ⟨?_, ?_⟩)
  have q4 : wAt W 4 = skillsL := Classical.not_not.1 q4
  have e4 : (!strEq (strL (wAt W 4)) ⟨#[115, 107, 105, 108, 108, 115]⟩) = false := by rw [seq_t (b := #[115, 107, 105, 108, 108, 115]) q4]; rfl
  by_cases q6 : ¬ wAt W 6 = fromL
  · have e6 : (!strEq (strL (wAt W 6)) ⟨#[102, 114, 111, 109]⟩) = true := by rw [seq_f (b := #[102, 114, 111, 109]) q6]; rfl
    have hb : personP W = (Per.zer, false) := by unfold personP; rw [if_neg (fun e => q6 e.2.2.2.2.1)]
    rw [hb]
    refine acalls_of tbOk (enter_of Tryz.func35 (by kernel_rfl) rfl) Tryz.func35 rfl _ Tryz.ntmps35 (Nat.le_of_ble_eq_true rfl) fun X hX => ?_
    subst hX
    repeat (first | ((with_reducible refine k_move ?_); refine m_move rfl ?_) | ((with_reducible refine k_assign ?_); refine m_assign rfl ?_) | ((with_reducible refine k_load ?_); refine x_load_ep_one tbOk rfl rfl rfl ?_) | ((with_reducible refine k_store ?_); refine m_store tbOk rfl rfl rfl rfl rfl rfl rfl (Nat.le_of_ble_eq_true rfl) rfl ?_) | ((with_reducible refine k_alloc ?_); refine x_alloc tbOk rfl rfl ?_) | ((with_reducible refine k_pick ?_); (first | refine m_pickt rfl (by first | rfl | assumption) rfl ?_ | refine m_pickf rfl (by first | rfl | assumption) rfl ?_)) | ((with_reducible refine k_indexAddr ?_); refine x_indexAddr_n tbOk rfl rfl rfl rfl (by assumption) ?_) | ((with_reducible refine k_build ?_); refine m_build tbOk rfl rfl rfl rfl rfl ?_) | ((with_reducible refine k_call ?_); refine x_len tbOk rfl rfl ?_) | ((with_reducible refine k_bin ?_); (first | refine m_binI rfl rfl rfl ?_ | refine m_binS rfl rfl rfl ?_))  | refine e_nrm ?_ | refine x_none rfl ?_ | refine x_run_f rfl rfl (by first | rfl | assumption) ?_ | refine x_skip_f rfl rfl (by first | rfl | assumption) ?_ | with_reducible (first | refine q_then ?_ | refine q_then_ret ?_ | refine awp_seq ?_ | refine awp_ret ?_) | ((with_reducible refine w_region ?_ ?_); kernel_rfl) | refine w_cond_t rfl (by first | rfl | assumption) ?_)
    refine ret0_ct (by first | exact .inr rfl | exact .inl rfl) rfl rfl rfl rfl rfl rfl ?_
    repeat' (first | exact trivial | exact Ren.v _ | refine ren_ag ?_ | refine ren_tu ?_ | refine ⟨?_, ?_⟩)
  have q6 : wAt W 6 = fromL := Classical.not_not.1 q6
  have e6 : (!strEq (strL (wAt W 6)) ⟨#[102, 114, 111, 109]⟩) = false := by rw [seq_t (b := #[102, 114, 111, 109]) q6]; rfl
  by_cases q8 : ¬ wAt W 8 = untilL
  · have e8 : (!strEq (strL (wAt W 8)) ⟨#[117, 110, 116, 105, 108]⟩) = true := by rw [seq_f (b := #[117, 110, 116, 105, 108]) q8]; rfl
    have hb : personP W = (Per.zer, false) := by unfold personP; rw [if_neg (fun e => q8 e.2.2.2.2.2)]
    rw [hb]
    refine acalls_of tbOk (enter_of Tryz.func35 (by kernel_rfl) rfl) Tryz.func35 rfl _ Tryz.ntmps35 (Nat.le_of_ble_eq_true rfl) fun X hX => ?_
    subst hX
    repeat (first | ((with_reducible refine k_move ?_); refine m_move rfl ?_) | ((with_reducible refine k_assign ?_); refine m_assign rfl ?_) | ((with_reducible refine k_load ?_); refine x_load_ep_one tbOk rfl rfl rfl ?_) | ((with_reducible refine k_store ?_); refine m_store tbOk rfl rfl rfl rfl rfl rfl rfl (Nat.le_of_ble_eq_true rfl) rfl ?_) | ((with_reducible refine k_alloc ?_); refine x_alloc tbOk rfl rfl ?_) | ((with_reducible refine k_pick ?_); refine m_pickf rfl (by first | rfl | assumption) rfl ?_) | ((with_reducible refine k_indexAddr ?_); refine x_indexAddr_n tbOk rfl rfl rfl rfl (by assumption) ?_) | ((with_reducible refine k_build ?_); refine m_build tbOk rfl rfl rfl rfl rfl ?_) | ((with_reducible refine k_call ?_); refine x_len tbOk rfl rfl ?_) | ((with_reducible refine k_bin ?_); (first | refine m_binI rfl rfl rfl ?_ | refine m_binS rfl rfl rfl ?_))  | refine e_nrm ?_ | refine x_none rfl ?_ | refine x_run_f rfl rfl (by first | rfl | assumption) ?_ | with_reducible (first | refine q_then ?_ | refine q_then_ret ?_ | refine awp_seq ?_ | refine awp_ret ?_) | ((with_reducible refine w_region ?_ ?_); kernel_rfl) | refine w_cond_t rfl (by first | rfl | assumption) ?_)
    refine ret0_ct (by first | exact .inr rfl | exact .inl rfl) rfl rfl rfl rfl rfl rfl ?_
    repeat' (first | exact trivial | exact Ren.v _ | refine ren_ag ?_ | refine ren_tu ?_ | refine ⟨?_, ?_⟩)
  have q8 : wAt W 8 = untilL := Classical.not_not.1 q8
  have e8 : (!strEq (strL (wAt W 8)) ⟨#[117, 110, 116, 105, 108]⟩) = false := by rw [seq_t (b := #[117, 110, 116, 105, 108]) q8]; rfl
  have hP : personP W = (⟨strL (wAt W 1), (numP (wAt W 3) 1073741824).getD 0, (bitsP (strL (wAt W 5))).1, (parseP (wAt W 7)).1, (parseP (wAt W 9)).1⟩,
    (numP (wAt W 3) 1073741824).isSome && (bitsP (strL (wAt W 5))).2 && decide ((parseP (wAt W 7)).2 = 0) && decide ((parseP (wAt W 9)).2 = 0)) := by
    unfold personP
    rw [if_pos ⟨h10, q0, q2, q4, q6, q8⟩]
  have hn := number_A (G := G) (strL (wAt W 3)) 1073741824 (by rw [strL_size]; have := hl 3 (by decide); unfold maxLen; omega) (by omega) (by omega)
  rw [strL_data] at hn
  have hbi := hbits (strL (wAt W 5))
  have hf := parse_A (G := G) (strL (wAt W 7)) (by rw [strL_size]; have := hl 7 (by decide); unfold maxLen; omega)
  have hu := parse_A (G := G) (strL (wAt W 9)) (by rw [strL_size]; have := hl 9 (by decide); unfold maxLen; omega)
  rw [strL_data] at hf hu
  rw [hP]
  clear hP
  dsimp only
  generalize (numP (wAt W 3) 1073741824).getD 0 = m3 at hn ⊢
  generalize (numP (wAt W 3) 1073741824).isSome = b3 at hn ⊢
  generalize bitsP (strL (wAt W 5)) = q5 at hbi ⊢
  generalize parseP (wAt W 7) = q7 at hf ⊢
  generalize parseP (wAt W 9) = q9 at hu ⊢
  obtain ⟨s5, b5⟩ := q5
  obtain ⟨f7, e7⟩ := q7
  obtain ⟨f9, e9⟩ := q9
  dsimp only at hbi hf hu ⊢
  obtain ⟨B, hB⟩ : ∃ B, B = (b3 && b5 && decide (e7 = 0) && decide (e9 = 0)) := ⟨_, rfl⟩
  rw [← hB]
  refine acalls_of tbOk (enter_of Tryz.func35 (by kernel_rfl) rfl) Tryz.func35 rfl _ Tryz.ntmps35 (Nat.le_of_ble_eq_true rfl) fun X hX => ?_
  subst hX
  repeat (first | ((with_reducible refine k_move ?_); refine m_move rfl ?_) | ((with_reducible refine k_assign ?_); refine m_assign rfl ?_) | ((with_reducible refine k_load ?_); refine x_load_ep_one tbOk rfl rfl rfl ?_) | ((with_reducible refine k_alloc ?_); refine x_alloc tbOk rfl rfl ?_) | ((with_reducible refine k_pick ?_); refine m_pickf rfl (by first | rfl | assumption) rfl ?_) | ((with_reducible refine k_indexAddr ?_); refine x_indexAddr_n tbOk rfl rfl rfl rfl (by assumption) ?_) | ((with_reducible refine k_call ?_); refine x_len tbOk rfl rfl ?_) | ((with_reducible refine k_bin ?_); (first | refine m_binI rfl rfl rfl ?_ | refine m_binS rfl rfl rfl ?_))  | refine e_nrm ?_ | refine x_none rfl ?_ | refine x_run_f rfl rfl (by first | rfl | assumption) ?_ | with_reducible (first | refine q_then ?_ | refine awp_seq ?_ | refine awp_skip ?_) | ((with_reducible refine w_region ?_ ?_); kernel_rfl) | refine w_cond_f rfl (by first | rfl | assumption) ?_)
  refine x_call0 (hn) (by repeat' (first | exact trivial | exact Ren.v _ | refine ⟨?_, ?_⟩)) (by repeat' (first | exact trivial | exact RenB.v _ | refine renb_tu ?_ | refine ⟨?_, ?_⟩)) ?_
  repeat (first | ((with_reducible refine k_move ?_); refine m_move rfl ?_) | ((with_reducible refine k_assign ?_); refine m_assign rfl ?_) | ((with_reducible refine k_load ?_); refine x_load_ep_one tbOk rfl rfl rfl ?_) | ((with_reducible refine k_extract ?_); refine x_extract rfl rfl ?_) | ((with_reducible refine k_indexAddr ?_); refine x_indexAddr_n tbOk rfl rfl rfl rfl (by assumption) ?_)  | refine e_nrm ?_ | refine x_none rfl ?_ | with_reducible (first | refine q_then ?_ | refine awp_seq ?_) | ((with_reducible refine w_region ?_ ?_); kernel_rfl))
  refine x_call0 (hbi) (by repeat' (first | exact trivial | exact Ren.v _ | refine ⟨?_, ?_⟩)) (by repeat' (first | exact trivial | exact RenB.v _ | refine renb_tu ?_ | refine ⟨?_, ?_⟩)) ?_
  repeat (first | ((with_reducible refine k_move ?_); refine m_move rfl ?_) | ((with_reducible refine k_assign ?_); refine m_assign rfl ?_) | ((with_reducible refine k_load ?_); refine x_load_ep_one tbOk rfl rfl rfl ?_) | ((with_reducible refine k_extract ?_); refine x_extract rfl rfl ?_) | ((with_reducible refine k_indexAddr ?_); refine x_indexAddr_n tbOk rfl rfl rfl rfl (by assumption) ?_)  | refine e_nrm ?_ | refine x_none rfl ?_ | with_reducible (first | refine q_then ?_ | refine awp_seq ?_) | ((with_reducible refine w_region ?_ ?_); kernel_rfl))
  refine x_call0 (hf) (by repeat' (first | exact trivial | exact Ren.v _ | refine ⟨?_, ?_⟩)) (by repeat' (first | exact trivial | exact RenB.v _ | refine renb_tu ?_ | refine ⟨?_, ?_⟩)) ?_
  repeat (first | ((with_reducible refine k_move ?_); refine m_move rfl ?_) | ((with_reducible refine k_assign ?_); refine m_assign rfl ?_) | ((with_reducible refine k_load ?_); refine x_load_ep_one tbOk rfl rfl rfl ?_) | ((with_reducible refine k_extract ?_); refine x_extract rfl rfl ?_) | ((with_reducible refine k_indexAddr ?_); refine x_indexAddr_n tbOk rfl rfl rfl rfl (by assumption) ?_)  | refine e_nrm ?_ | refine x_none rfl ?_ | with_reducible (first | refine q_then ?_ | refine awp_seq ?_) | ((with_reducible refine w_region ?_ ?_); kernel_rfl))
  refine x_call0 (hu) (by repeat' (first | exact trivial | exact Ren.v _ | refine ⟨?_, ?_⟩)) (by repeat' (first | exact trivial | exact RenB.v _ | refine renb_tu ?_ | refine ⟨?_, ?_⟩)) ?_
  repeat (first | ((with_reducible refine k_move ?_); refine m_move rfl ?_) | ((with_reducible refine k_assign ?_); refine m_assign rfl ?_) | ((with_reducible refine k_load ?_); refine x_load_ep_one tbOk rfl rfl rfl ?_) | ((with_reducible refine k_extract ?_); refine x_extract rfl rfl ?_) | ((with_reducible refine k_indexAddr ?_); refine x_indexAddr_n tbOk rfl rfl rfl rfl (by assumption) ?_) | ((with_reducible refine k_build ?_); refine m_build tbOk rfl rfl rfl rfl rfl ?_)  | refine e_nrm ?_ | refine x_none rfl ?_ | with_reducible (first | refine q_then ?_ | refine awp_seq ?_) | ((with_reducible refine w_region ?_ ?_); kernel_rfl))
  refine x_split rfl rfl (fun c => ?_) (fun c => ?_)
  rotate_left
  · replace c : b3 = false := c
    rw [c] at hB
    simp only [Bool.false_and] at hB
    rw [hB]
    repeat (first | ((with_reducible refine k_move ?_); refine m_move rfl ?_) | ((with_reducible refine k_assign ?_); refine m_assign rfl ?_) | ((with_reducible refine k_store ?_); refine m_store tbOk rfl rfl rfl rfl rfl rfl rfl (Nat.le_of_ble_eq_true rfl) rfl ?_) | ((with_reducible refine k_pick ?_); refine m_pickf rfl (by first | rfl | assumption) rfl ?_)  | refine e_nrm ?_ | refine x_none rfl ?_ | refine x_skip_t rfl rfl (by first | rfl | assumption) ?_ | with_reducible (first | refine q_then ?_ | refine awp_ret ?_) )
    refine ret0_ct (by first | exact .inr rfl | exact .inl rfl) rfl rfl rfl rfl rfl rfl ?_
    repeat' (first | exact trivial | exact Ren.v _ | refine ren_ag ?_ | refine ren_tu ?_ | refine ⟨?_, ?_⟩)
  replace c : b3 = true := c
  rw [c, Bool.true_and] at hB
  repeat (first | ((with_reducible refine k_move ?_); refine m_move rfl ?_) | ((with_reducible refine k_pick ?_); refine m_pickt rfl (by first | rfl | assumption) rfl ?_)  | refine x_none rfl ?_ | refine x_run_t rfl rfl (by first | rfl | assumption) ?_  )
  refine x_split rfl rfl (fun c => ?_) (fun c => ?_)
  rotate_left
  · replace c : b5 = false := c
    rw [c] at hB
    simp only [Bool.false_and] at hB
    rw [hB]
    repeat (first | ((with_reducible refine k_move ?_); refine m_move rfl ?_) | ((with_reducible refine k_assign ?_); refine m_assign rfl ?_) | ((with_reducible refine k_store ?_); refine m_store tbOk rfl rfl rfl rfl rfl rfl rfl (Nat.le_of_ble_eq_true rfl) rfl ?_) | ((with_reducible refine k_pick ?_); refine m_pickf rfl (by first | rfl | assumption) rfl ?_)  | refine e_nrm ?_ | refine x_none rfl ?_ | refine x_skip_t rfl rfl (by first | rfl | assumption) ?_ | with_reducible (first | refine q_then ?_ | refine awp_ret ?_) )
    refine ret0_ct (by first | exact .inr rfl | exact .inl rfl) rfl rfl rfl rfl rfl rfl ?_
    repeat' (first | exact trivial | exact Ren.v _ | refine ren_ag ?_ | refine ren_tu ?_ | refine ⟨?_, ?_⟩)
  replace c : b5 = true := c
  rw [c, Bool.true_and] at hB
  repeat (first | ((with_reducible refine k_move ?_); refine m_move rfl ?_) | ((with_reducible refine k_pick ?_); refine m_pickt rfl (by first | rfl | assumption) rfl ?_) | ((with_reducible refine k_bin ?_); refine m_binI rfl rfl rfl ?_)  | refine x_none rfl ?_ | refine x_run_t rfl rfl (by first | rfl | assumption) ?_  )
  refine x_split rfl rfl (fun c => ?_) (fun c => ?_)
  rotate_left
  · replace c : decide (e7 = 0) = false := c
    rw [c] at hB
    simp only [Bool.false_and] at hB
    rw [hB]
    repeat (first | ((with_reducible refine k_assign ?_); refine m_assign rfl ?_) | ((with_reducible refine k_store ?_); refine m_store tbOk rfl rfl rfl rfl rfl rfl rfl (Nat.le_of_ble_eq_true rfl) rfl ?_) | ((with_reducible refine k_pick ?_); refine m_pickf rfl (by first | rfl | assumption) rfl ?_)  | refine e_nrm ?_ | refine x_none rfl ?_ | refine x_skip_t rfl rfl (by first | rfl | assumption) ?_ | with_reducible (first | refine q_then ?_ | refine awp_ret ?_) )
    refine ret0_ct (by first | exact .inr rfl | exact .inl rfl) rfl rfl rfl rfl rfl rfl ?_
    repeat' (first | exact trivial | exact Ren.v _ | refine ren_ag ?_ | refine ren_tu ?_ | refine ⟨?_, ?_⟩)
  replace c : decide (e7 = 0) = true := c
  rw [c, Bool.true_and] at hB
  repeat (first | ((with_reducible refine k_move ?_); refine m_move rfl ?_) | ((with_reducible refine k_assign ?_); refine m_assign rfl ?_) | ((with_reducible refine k_store ?_); refine m_store tbOk rfl rfl rfl rfl rfl rfl rfl (Nat.le_of_ble_eq_true rfl) rfl ?_) | ((with_reducible refine k_pick ?_); refine m_pickt rfl (by first | rfl | assumption) rfl ?_) | ((with_reducible refine k_bin ?_); refine m_binI rfl rfl rfl ?_)  | refine e_nrm ?_ | refine x_none rfl ?_ | refine x_run_t rfl rfl (by first | rfl | assumption) ?_ | with_reducible (first | refine q_then ?_ | refine awp_ret ?_) )
  rw [hB]
  refine ret0_ct (by first | exact .inr rfl | exact .inl rfl) rfl rfl rfl rfl rfl rfl ?_
  repeat' (first | exact trivial | exact Ren.v _ | refine ren_ag ?_ | refine ren_tu ?_ | refine ⟨?_, ?_⟩)
end Go.Proofs.YtggagmafkdhjcaaGreatDoor
