/- register.Add at few people, register.Remove, and the reference's Same, by the abstract machine; conditions: the table of classes stands. -/
import Derived.Test.YtnfjlinffjhkpaaDoorReA
import Derived.Test.YtnfjlinffjhkpaaDoorSlQ
import Derived.Test.YtnfjlinffjhkpaaDoorRgF
set_option linter.unusedVariables false
set_option linter.unusedSimpArgs false
namespace Go.Proofs.YtnfjlinffjhkpaaDoor
open Go Go.RowKit
set_option maxRecDepth 10000
variable {G : Nat → Option (List Value)}
theorem per_sz (L : List Per) : ∀ x ∈ L.map Per.av, x.cells.length = 5 := fun x hx => by
  obtain ⟨y, -, rfl⟩ := List.mem_map.1 hx
  rfl
theorem per_pu (L : List Per) : ∀ x ∈ L.map Per.av, pureL x.cells = true := fun x hx => by
  obtain ⟨y, -, rfl⟩ := List.mem_map.1 hx
  rfl
def addK (L : List Per) (p : Per) : List Per × Int :=
  if pcheckE pvalidE L ≠ 0 then ([], pcheckE pvalidE L) else if pvalidE p ≠ 0 then ([], pvalidE p) else if 0 ≤ idxP p.n L 0 then ([], 4) else if L.length = 64 then ([], 1) else (isort ltP (L ++ [p]), 0)
set_option maxHeartbeats 4000000 in
theorem kadd_A (L : List Per) (p : Per) (hG : GCls G) (hs : ∀ q ∈ L, q.n.size ≤ maxLen) (hp : p.n.size ≤ maxLen) (hm : L.length ≤ 11) :
    ACalls Tryd.prog G 13 [regAV L, p.av] [] (.tu [regAV (addK L p).1, .v (.int .i64 (addK L p).2)]) [] := by
  have hml : L.length ≤ maxLen := by unfold maxLen; omega
  refine acalls_of0 tbOk (enter_of Tryd.func13 (by kernel_rfl) rfl) Tryd.func13 rfl _ Tryd.ntmps13 (Nat.le_of_ble_eq_true rfl) fun X hX hgs => ?_
  subst hX
  unfold addK
  repeat (first | ((with_reducible refine k_assign ?_); refine m_assign rfl ?_) | ((with_reducible refine k_load ?_); refine x_load_agg tbOk rfl rfl rfl rfl (Nat.le_of_ble_eq_true rfl) ?_) | ((with_reducible refine k_alloc ?_); refine x_alloc tbOk rfl rfl ?_) | ((with_reducible refine k_box ?_); refine m_box rfl rfl rfl ?_)  | refine e_nrm ?_ | refine x_none rfl ?_ | with_reducible refine q_then ?_ | with_reducible refine awp_seq ?_ | ((with_reducible refine w_region ?_ ?_); kernel_rfl))
  refine x_call0 (check_A L hG hs hml) (by repeat' (first | exact trivial | exact Ren.v _ | exact Ren.sl _ _ | exact Ren.ep _ | exact Ren.ptr _ _ _ _ rfl | exact Ren.bs _ _ _ _ _ rfl | exact Ren.nil _ | exact Ren.own _ _ _ _ ⟨_, rfl⟩ | refine ren_ag ?_ | refine ren_tu ?_ | refine ren_fn ?_ | refine ⟨?_, ?_⟩)) (by repeat' (first | exact trivial | exact RenB.v _ | exact RenB.sl _ _ | exact RenB.ep _ | exact RenB.ptr _ _ _ _ rfl | refine renb_ag ?_ | refine renb_tu ?_ | refine ⟨?_, ?_⟩)) ?_
  by_cases h1 : pcheckE pvalidE L = 0
  · have q1 : (pcheckE pvalidE L == 0) = true := by simp [h1]
    rw [if_neg (by simp [h1])]
    repeat (first | ((with_reducible refine k_move ?_); refine m_move rfl ?_) | ((with_reducible refine k_assign ?_); refine m_assign rfl ?_) | ((with_reducible refine k_load ?_); refine x_load_agg tbOk rfl rfl rfl rfl (Nat.le_of_ble_eq_true rfl) ?_) | ((with_reducible refine k_bin ?_); refine m_binI rfl rfl rfl ?_)  | refine e_nrm ?_ | refine x_none rfl ?_ | with_reducible refine q_then ?_ | with_reducible refine awp_seq ?_ | ((with_reducible refine w_region ?_ ?_); kernel_rfl) | refine w_cond_t rfl (by first | rfl | assumption) ?_)
    refine x_call0 (valid_A p hG hp) (by repeat' (first | exact trivial | exact Ren.v _ | exact Ren.sl _ _ | exact Ren.ep _ | exact Ren.ptr _ _ _ _ rfl | exact Ren.bs _ _ _ _ _ rfl | exact Ren.nil _ | exact Ren.own _ _ _ _ ⟨_, rfl⟩ | refine ren_ag ?_ | refine ren_tu ?_ | refine ren_fn ?_ | refine ⟨?_, ?_⟩)) (by repeat' (first | exact trivial | exact RenB.v _ | exact RenB.sl _ _ | exact RenB.ep _ | exact RenB.ptr _ _ _ _ rfl | refine renb_ag ?_ | refine renb_tu ?_ | refine ⟨?_, ?_⟩)) ?_
    by_cases h2 : pvalidE p = 0
    · have q2 : (pvalidE p != 0) = false := by simp [h2]
      rw [if_neg (by simp [h2])]
      repeat (first | ((with_reducible refine k_move ?_); refine m_move rfl ?_) | ((with_reducible refine k_assign ?_); refine m_assign rfl ?_) | ((with_reducible refine k_fieldAddr ?_); refine x_fieldAddr_ptr tbOk rfl rfl rfl rfl ?_) | ((with_reducible refine k_load ?_); refine x_load_one tbOk rfl rfl rfl rfl rfl ?_) | ((with_reducible refine k_load ?_); refine x_load_agg tbOk rfl rfl rfl rfl (Nat.le_of_ble_eq_true rfl) ?_) | ((with_reducible refine k_bin ?_); refine m_binI rfl rfl rfl ?_)  | refine e_nrm ?_ | refine x_none rfl ?_ | with_reducible refine q_then ?_ | with_reducible refine awp_seq ?_ | with_reducible refine awp_block ?_ | ((with_reducible refine w_region ?_ ?_); kernel_rfl) | refine w_cond_f rfl (by first | rfl | assumption) ?_)
      refine x_call0 (index_A L p.n (by omega)) (by repeat' (first | exact trivial | exact Ren.v _ | exact Ren.sl _ _ | exact Ren.ep _ | exact Ren.ptr _ _ _ _ rfl | exact Ren.bs _ _ _ _ _ rfl | exact Ren.nil _ | exact Ren.own _ _ _ _ ⟨_, rfl⟩ | refine ren_ag ?_ | refine ren_tu ?_ | refine ren_fn ?_ | refine ⟨?_, ?_⟩)) (by repeat' (first | exact trivial | exact RenB.v _ | exact RenB.sl _ _ | exact RenB.ep _ | exact RenB.ptr _ _ _ _ rfl | refine renb_ag ?_ | refine renb_tu ?_ | refine ⟨?_, ?_⟩)) ?_
      by_cases h3 : 0 ≤ idxP p.n L 0
      · have q3 : decide (idxP p.n L 0 ≥ 0) = true := decide_eq_true h3
        rw [if_pos h3]
        repeat (first | ((with_reducible refine k_assign ?_); refine m_assign rfl ?_) | ((with_reducible refine k_store ?_); refine m_store tbOk rfl rfl rfl rfl rfl rfl rfl (Nat.le_of_ble_eq_true rfl) rfl ?_) | ((with_reducible refine k_build ?_); refine m_build tbOk rfl rfl rfl rfl rfl ?_) | ((with_reducible refine k_bin ?_); refine m_binI rfl rfl rfl ?_)  | refine e_nrm ?_ | refine x_none rfl ?_ | with_reducible refine q_then ?_ | with_reducible refine q_then_ret ?_ | with_reducible refine q_block_ret ?_ | with_reducible refine awp_seq ?_ | with_reducible refine awp_ret ?_ | ((with_reducible refine w_region ?_ ?_); kernel_rfl) | refine w_cond_t rfl (by first | rfl | assumption) ?_)
        refine ret0 (by first | exact .inr rfl | exact .inl rfl) (xs := [.ag [.v (.slice none 0 0)], .v (.int .i64 (4))]) ?_ ?_
        · exact ⟨.agg _ _ _ _ _ _ rfl rfl rfl rfl, .tmp _, trivial⟩
        · repeat' (first | exact trivial | exact Ren.v _ | exact Ren.sl _ _ | exact Ren.ep _ | exact Ren.ptr _ _ _ _ rfl | exact Ren.bs _ _ _ _ _ rfl | exact Ren.nil _ | exact Ren.own _ _ _ _ ⟨_, rfl⟩ | refine ren_ag ?_ | refine ren_tu ?_ | refine ren_fn ?_ | refine ⟨?_, ?_⟩)
      · have q3 : decide (idxP p.n L 0 ≥ 0) = false := decide_eq_false h3
        have q4 : (((L.map Per.av).length : Int) == 64) = false := by
          rw [List.length_map, beq_eq_false_iff_ne]
          omega
        rw [if_neg h3, if_neg (by omega)]
        have hN : ∀ y ∈ [p.av], allOne y.cells = true := fun y hy => by simp at hy; subst hy; rfl
        have hlm : (L.map Per.av).length ≤ 11 := by rw [List.length_map]; exact hm
        repeat (first | ((with_reducible refine k_assign ?_); refine m_assign rfl ?_) | ((with_reducible refine k_fieldAddr ?_); refine x_fieldAddr_ptr tbOk rfl rfl rfl rfl ?_) | ((with_reducible refine k_load ?_); refine x_load_one tbOk rfl rfl rfl rfl rfl ?_) | ((with_reducible refine k_call ?_); refine x_len tbOk rfl rfl ?_) | ((with_reducible refine k_bin ?_); refine m_binI rfl rfl rfl ?_)  | refine e_nrm ?_ | refine x_none rfl ?_ | with_reducible refine q_then ?_ | with_reducible refine q_block ?_ | with_reducible refine awp_seq ?_ | with_reducible refine awp_skip ?_ | ((with_reducible refine w_region ?_ ?_); kernel_rfl) | ((with_reducible refine w_draw mixd ?_ ?_); kernel_rfl) | refine w_cond_f rfl (by first | rfl | assumption) ?_)
        with_reducible refine k_call ?_
        refine x_call_own (clone_OQ (L.map Per.av) (per_oneA L) (by omega)) (by repeat' (first | exact trivial | exact Ren.v _ | exact Ren.sl _ _ | exact Ren.ep _ | exact Ren.ptr _ _ _ _ rfl | exact Ren.bs _ _ _ _ _ rfl | exact Ren.nil _ | exact Ren.own _ _ _ _ ⟨_, rfl⟩ | refine ren_ag ?_ | refine ren_tu ?_ | refine ren_fn ?_ | refine ⟨?_, ?_⟩)) rfl ?_
        repeat (first | ((with_reducible refine k_load ?_); refine x_load_agg tbOk rfl rfl rfl rfl (Nat.le_of_ble_eq_true rfl) ?_) | ((with_reducible refine k_buildSlice ?_); refine m_buildSlice tbOk rfl rfl rfl rfl rfl (by omega) rfl rfl rfl ?_) | refine x_none rfl ?_  )
        refine x_append_own tbOk rfl rfl rfl rfl rfl (by decide) rfl rfl rfl rfl rfl hN (by simp at hlm ⊢; omega) (by simp at hlm ⊢; omega) ?_
        repeat (first | ((with_reducible refine k_assign ?_); refine m_assign rfl ?_) | refine e_drw (by kernel_rfl) ?_ | refine x_none rfl ?_ | with_reducible refine q_then ?_ | with_reducible refine awp_seq ?_)
        have el : L.map Per.av ++ [p.av] = (L ++ [p]).map Per.av := by rw [List.map_append]; rfl
        have hl12 : (L ++ [p]).length ≤ 12 := by simp; omega
        refine awp_buf_box (s := 37) (k := 1) (L := L.map Per.av ++ [p.av]) [(7, .bs 37 2 5 (L.map Per.av ++ [p.av]).length)] rfl (by simp) (fun J => ⟨.inl (.inr ⟨rfl, rfl⟩), trivial⟩) (fun J hJ => ?_)
        rw [el, List.length_map]
        repeat (first | ((with_reducible refine k_move ?_); refine m_move rfl ?_)  | refine x_none rfl ?_  | ((with_reducible refine w_region ?_ ?_); kernel_rfl))
        with_reducible refine k_call ?_
        refine x_call (y := .tu []) (ss := [(37, 2)]) (psortf_A (L ++ [p]) J hJ hl12) (by repeat' (first | exact trivial | exact Ren.v _ | exact Ren.sl _ _ | exact Ren.ep _ | exact Ren.ptr _ _ _ _ rfl | exact Ren.bs _ _ _ _ _ rfl | exact Ren.nil _ | exact Ren.own _ _ _ _ ⟨_, rfl⟩ | refine ren_ag ?_ | refine ren_tu ?_ | refine ren_fn ?_ | refine ⟨?_, ?_⟩)) (by simp) (in1_pj rfl (bsC_pj (per_pu _) hJ)) rfl (back1_pj (bsC_pj (per_pu _) hJ)) (by repeat' (first | exact trivial | exact RenB.v _ | exact RenB.sl _ _ | exact RenB.ep _ | exact RenB.ptr _ _ _ _ rfl | refine renb_ag ?_ | refine renb_tu ?_ | refine ⟨?_, ?_⟩)) ?_
        repeat (first  | refine e_nrm ?_ | with_reducible refine q_then ?_ | with_reducible refine awp_seq ?_)
        refine awp_box_sl (s := 37) (k := 2) (L := (isort ltP (L ++ [p])).map Per.av) (J := J) (sz := 5) hgs [(7, .sl 5 ((isort ltP (L ++ [p])).map Per.av))] rfl (per_sz _) (by decide) (per_pu _) (by rw [List.length_map, isort_len]; unfold maxLen; omega) ⟨.inl (.inr ⟨?_, rfl⟩), trivial⟩ ?_
        · show AV.bs 37 2 5 (L ++ [p]).length = _
          rw [List.length_map, isort_len]
        repeat (first | ((with_reducible refine k_move ?_); refine m_move rfl ?_) | ((with_reducible refine k_assign ?_); refine m_assign rfl ?_) | ((with_reducible refine k_store ?_); refine m_store tbOk rfl rfl rfl rfl rfl rfl rfl (Nat.le_of_ble_eq_true rfl) rfl ?_) | ((with_reducible refine k_build ?_); refine m_build tbOk rfl rfl rfl rfl rfl ?_)  | refine e_nrm ?_ | refine x_none rfl ?_ | with_reducible refine q_then ?_ | with_reducible refine awp_ret ?_ | ((with_reducible refine w_region ?_ ?_); kernel_rfl))
        refine ret0_ct (by first | exact .inr rfl | exact .inl rfl) rfl rfl rfl rfl rfl rfl ?_
        unfold regAV
        repeat' (first | exact trivial | exact Ren.v _ | exact Ren.sl _ _ | exact Ren.ep _ | exact Ren.ptr _ _ _ _ rfl | exact Ren.bs _ _ _ _ _ rfl | exact Ren.nil _ | exact Ren.own _ _ _ _ ⟨_, rfl⟩ | refine ren_ag ?_ | refine ren_tu ?_ | refine ren_fn ?_ | refine ⟨?_, ?_⟩)
    · have q2 : (pvalidE p != 0) = true := by simp [h2]
      rw [if_pos h2]
      repeat (first | ((with_reducible refine k_move ?_); refine m_move rfl ?_) | ((with_reducible refine k_assign ?_); refine m_assign rfl ?_) | ((with_reducible refine k_store ?_); refine m_store tbOk rfl rfl rfl rfl rfl rfl rfl (Nat.le_of_ble_eq_true rfl) rfl ?_) | ((with_reducible refine k_build ?_); refine m_build tbOk rfl rfl rfl rfl rfl ?_) | ((with_reducible refine k_bin ?_); refine m_binI rfl rfl rfl ?_)  | refine e_nrm ?_ | refine x_none rfl ?_ | with_reducible refine q_then ?_ | with_reducible refine q_then_ret ?_ | with_reducible refine q_block_ret ?_ | with_reducible refine awp_seq ?_ | with_reducible refine awp_block ?_ | with_reducible refine awp_ret ?_ | ((with_reducible refine w_region ?_ ?_); kernel_rfl) | refine w_cond_t rfl (by first | rfl | assumption) ?_)
      refine ret0 (by first | exact .inr rfl | exact .inl rfl) (xs := [.ag [.v (.slice none 0 0)], .v (.int .i64 (pvalidE p))]) ?_ ?_
      · exact ⟨.agg _ _ _ _ _ _ rfl rfl rfl rfl, .tmp _, trivial⟩
      · repeat' (first | exact trivial | exact Ren.v _ | exact Ren.sl _ _ | exact Ren.ep _ | exact Ren.ptr _ _ _ _ rfl | exact Ren.bs _ _ _ _ _ rfl | exact Ren.nil _ | exact Ren.own _ _ _ _ ⟨_, rfl⟩ | refine ren_ag ?_ | refine ren_tu ?_ | refine ren_fn ?_ | refine ⟨?_, ?_⟩)
  · have q1 : (pcheckE pvalidE L == 0) = false := by simp [h1]
    have q2 : (pcheckE pvalidE L != 0) = true := by simp [h1]
    rw [if_pos h1]
    repeat (first | ((with_reducible refine k_move ?_); refine m_move rfl ?_) | ((with_reducible refine k_assign ?_); refine m_assign rfl ?_) | ((with_reducible refine k_store ?_); refine m_store tbOk rfl rfl rfl rfl rfl rfl rfl (Nat.le_of_ble_eq_true rfl) rfl ?_) | ((with_reducible refine k_build ?_); refine m_build tbOk rfl rfl rfl rfl rfl ?_) | ((with_reducible refine k_bin ?_); refine m_binI rfl rfl rfl ?_)  | refine e_nrm ?_ | refine x_none rfl ?_ | with_reducible refine q_then ?_ | with_reducible refine q_then_ret ?_ | with_reducible refine q_block_ret ?_ | with_reducible refine awp_seq ?_ | with_reducible refine awp_block ?_ | with_reducible refine awp_skip ?_ | with_reducible refine awp_ret ?_ | ((with_reducible refine w_region ?_ ?_); kernel_rfl) | refine w_cond_t rfl (by first | rfl | assumption) ?_ | refine w_cond_f rfl (by first | rfl | assumption) ?_)
    refine ret0 (by first | exact .inr rfl | exact .inl rfl) (xs := [.ag [.v (.slice none 0 0)], .v (.int .i64 (pcheckE pvalidE L))]) ?_ ?_
    · exact ⟨.agg _ _ _ _ _ _ rfl rfl rfl rfl, .tmp _, trivial⟩
    · repeat' (first | exact trivial | exact Ren.v _ | exact Ren.sl _ _ | exact Ren.ep _ | exact Ren.ptr _ _ _ _ rfl | exact Ren.bs _ _ _ _ _ rfl | exact Ren.nil _ | exact Ren.own _ _ _ _ ⟨_, rfl⟩ | refine ren_ag ?_ | refine ren_tu ?_ | refine ren_fn ?_ | refine ⟨?_, ?_⟩)
def removeK (L : List Per) (nm : ByteArray) : List Per × Int :=
  if pcheckE pvalidE L ≠ 0 then ([], pcheckE pvalidE L) else if idxP nm L 0 < 0 then ([], 15) else (L.take (idxP nm L 0).toNat ++ L.drop ((idxP nm L 0).toNat + 1), 0)
set_option maxHeartbeats 4000000 in
theorem kremove_A (L : List Per) (nm : ByteArray) (hG : GCls G) (hs : ∀ q ∈ L, q.n.size ≤ maxLen) (hm : L.length ≤ 64) :
    ACalls Tryd.prog G 17 [regAV L, .v (.string nm)] [] (.tu [regAV (removeK L nm).1, .v (.int .i64 (removeK L nm).2)]) [] := by
  have hml : L.length ≤ maxLen := by unfold maxLen; omega
  refine acalls_of tbOk (enter_of Tryd.func17 (by kernel_rfl) rfl) Tryd.func17 rfl _ Tryd.ntmps17 (Nat.le_of_ble_eq_true rfl) fun X hX => ?_
  subst hX
  unfold removeK
  repeat (first | ((with_reducible refine k_assign ?_); refine m_assign rfl ?_) | ((with_reducible refine k_load ?_); refine x_load_agg tbOk rfl rfl rfl rfl (Nat.le_of_ble_eq_true rfl) ?_) | ((with_reducible refine k_alloc ?_); refine x_alloc tbOk rfl rfl ?_) | ((with_reducible refine k_box ?_); refine m_box rfl rfl rfl ?_)  | refine e_nrm ?_ | refine x_none rfl ?_ | with_reducible refine q_then ?_ | with_reducible refine awp_seq ?_ | ((with_reducible refine w_region ?_ ?_); kernel_rfl))
  refine x_call0 (check_A L hG hs hml) (by repeat' (first | exact trivial | exact Ren.v _ | exact Ren.sl _ _ | exact Ren.ep _ | exact Ren.ptr _ _ _ _ rfl | exact Ren.bs _ _ _ _ _ rfl | exact Ren.nil _ | exact Ren.own _ _ _ _ ⟨_, rfl⟩ | refine ren_ag ?_ | refine ren_tu ?_ | refine ren_fn ?_ | refine ⟨?_, ?_⟩)) (by repeat' (first | exact trivial | exact RenB.v _ | exact RenB.sl _ _ | exact RenB.ep _ | exact RenB.ptr _ _ _ _ rfl | refine renb_ag ?_ | refine renb_tu ?_ | refine ⟨?_, ?_⟩)) ?_
  by_cases h1 : pcheckE pvalidE L = 0
  · have q1 : (pcheckE pvalidE L != 0) = false := by simp [h1]
    rw [if_neg (by simp [h1])]
    repeat (first | ((with_reducible refine k_move ?_); refine m_move rfl ?_) | ((with_reducible refine k_assign ?_); refine m_assign rfl ?_) | ((with_reducible refine k_load ?_); refine x_load_agg tbOk rfl rfl rfl rfl (Nat.le_of_ble_eq_true rfl) ?_) | ((with_reducible refine k_bin ?_); refine m_binI rfl rfl rfl ?_)  | refine e_nrm ?_ | refine x_none rfl ?_ | with_reducible refine q_then ?_ | with_reducible refine awp_seq ?_ | with_reducible refine awp_skip ?_ | ((with_reducible refine w_region ?_ ?_); kernel_rfl) | refine w_cond_f rfl (by first | rfl | assumption) ?_)
    refine x_call0 (index_A L nm (by omega)) (by repeat' (first | exact trivial | exact Ren.v _ | exact Ren.sl _ _ | exact Ren.ep _ | exact Ren.ptr _ _ _ _ rfl | exact Ren.bs _ _ _ _ _ rfl | exact Ren.nil _ | exact Ren.own _ _ _ _ ⟨_, rfl⟩ | refine ren_ag ?_ | refine ren_tu ?_ | refine ren_fn ?_ | refine ⟨?_, ?_⟩)) (by repeat' (first | exact trivial | exact RenB.v _ | exact RenB.sl _ _ | exact RenB.ep _ | exact RenB.ptr _ _ _ _ rfl | refine renb_ag ?_ | refine renb_tu ?_ | refine ⟨?_, ?_⟩)) ?_
    by_cases h3 : idxP nm L 0 < 0
    · have q3 : decide (idxP nm L 0 < 0) = true := decide_eq_true h3
      rw [if_pos h3]
      repeat (first | ((with_reducible refine k_move ?_); refine m_move rfl ?_) | ((with_reducible refine k_assign ?_); refine m_assign rfl ?_) | ((with_reducible refine k_store ?_); refine m_store tbOk rfl rfl rfl rfl rfl rfl rfl (Nat.le_of_ble_eq_true rfl) rfl ?_) | ((with_reducible refine k_build ?_); refine m_build tbOk rfl rfl rfl rfl rfl ?_) | ((with_reducible refine k_bin ?_); refine m_binI rfl rfl rfl ?_)  | refine e_nrm ?_ | refine x_none rfl ?_ | with_reducible refine q_then ?_ | with_reducible refine q_then_ret ?_ | with_reducible refine awp_seq ?_ | with_reducible refine awp_ret ?_ | ((with_reducible refine w_region ?_ ?_); kernel_rfl) | refine w_cond_t rfl (by first | rfl | assumption) ?_)
      refine ret0 (by first | exact .inr rfl | exact .inl rfl) (xs := [.ag [.v (.slice none 0 0)], .v (.int .i64 (15))]) ?_ ?_
      · exact ⟨.agg _ _ _ _ _ _ rfl rfl rfl rfl, .tmp _, trivial⟩
      · repeat' (first | exact trivial | exact Ren.v _ | exact Ren.sl _ _ | exact Ren.ep _ | exact Ren.ptr _ _ _ _ rfl | exact Ren.bs _ _ _ _ _ rfl | exact Ren.nil _ | exact Ren.own _ _ _ _ ⟨_, rfl⟩ | refine ren_ag ?_ | refine ren_tu ?_ | refine ren_fn ?_ | refine ⟨?_, ?_⟩)
    · rw [if_neg h3]
      obtain ⟨j, hj, hjl⟩ : ∃ j : Nat, idxP nm L 0 = (j : Int) ∧ j < L.length := by
        rcases idx_range nm L 0 with h | ⟨j, h, hl⟩
        · omega
        · exact ⟨j, by simpa using h, hl⟩
      rw [hj, Int.toNat_natCast]
      have q3 : decide ((j : Int) < 0) = false := decide_eq_false (by omega)
      repeat (first | ((with_reducible refine k_move ?_); refine m_move rfl ?_) | ((with_reducible refine k_assign ?_); refine m_assign rfl ?_) | ((with_reducible refine k_fieldAddr ?_); refine x_fieldAddr_ptr tbOk rfl rfl rfl rfl ?_) | ((with_reducible refine k_load ?_); refine x_load_one tbOk rfl rfl rfl rfl rfl ?_) | ((with_reducible refine k_bin ?_); refine m_binI rfl rfl rfl ?_)  | refine e_nrm ?_ | refine x_none rfl ?_ | with_reducible refine q_then ?_ | with_reducible refine awp_seq ?_ | with_reducible refine awp_skip ?_ | ((with_reducible refine w_region ?_ ?_); kernel_rfl) | refine w_cond_f rfl (by first | rfl | assumption) ?_)
      with_reducible refine k_call ?_
      refine x_call_own (clone_OQ (L.map Per.av) (per_oneA L) (by rw [List.length_map]; omega)) (by repeat' (first | exact trivial | exact Ren.v _ | exact Ren.sl _ _ | exact Ren.ep _ | exact Ren.ptr _ _ _ _ rfl | exact Ren.bs _ _ _ _ _ rfl | exact Ren.nil _ | exact Ren.own _ _ _ _ ⟨_, rfl⟩ | refine ren_ag ?_ | refine ren_tu ?_ | refine ren_fn ?_ | refine ⟨?_, ?_⟩)) rfl ?_
      repeat (first | ((with_reducible refine k_move ?_); refine m_move rfl ?_) | ((with_reducible refine k_bin ?_); refine x_add_in rfl rfl (by omega) ?_)  | refine x_none rfl ?_  )
      with_reducible refine k_call ?_
      refine x_call_ins (delete_IQ (L.map Per.av) j (by rw [List.length_map]; exact hjl)) rfl rfl rfl rfl rfl rfl ?_
      repeat (first | ((with_reducible refine k_assign ?_); refine m_assign rfl ?_) | ((with_reducible refine k_store ?_); refine m_store tbOk rfl rfl rfl rfl rfl rfl rfl (Nat.le_of_ble_eq_true rfl) rfl ?_) | ((with_reducible refine k_build ?_); refine m_build tbOk rfl rfl rfl rfl rfl ?_)  | refine e_nrm ?_ | refine x_none rfl ?_ | with_reducible refine q_then ?_ | with_reducible refine awp_ret ?_ )
      refine ret0_ct (by first | exact .inr rfl | exact .inl rfl) rfl rfl rfl rfl rfl rfl ?_
      have el : (L.take j ++ L.drop (j + 1)).map Per.av = (L.map Per.av).take j ++ (L.map Per.av).drop (j + 1) := by rw [List.map_append, List.map_take, List.map_drop]
      unfold regAV
      rw [el]
      repeat' (first | exact trivial | exact Ren.v _ | exact Ren.sl _ _ | exact Ren.ep _ | exact Ren.ptr _ _ _ _ rfl | exact Ren.bs _ _ _ _ _ rfl | exact Ren.nil _ | exact Ren.own _ _ _ _ ⟨_, rfl⟩ | refine ren_ag ?_ | refine ren_tu ?_ | refine ren_fn ?_ | refine ⟨?_, ?_⟩)
  · have q1 : (pcheckE pvalidE L != 0) = true := by simp [h1]
    rw [if_pos h1]
    repeat (first | ((with_reducible refine k_move ?_); refine m_move rfl ?_) | ((with_reducible refine k_assign ?_); refine m_assign rfl ?_) | ((with_reducible refine k_store ?_); refine m_store tbOk rfl rfl rfl rfl rfl rfl rfl (Nat.le_of_ble_eq_true rfl) rfl ?_) | ((with_reducible refine k_build ?_); refine m_build tbOk rfl rfl rfl rfl rfl ?_) | ((with_reducible refine k_bin ?_); refine m_binI rfl rfl rfl ?_)  | refine e_nrm ?_ | refine x_none rfl ?_ | with_reducible refine q_then ?_ | with_reducible refine q_then_ret ?_ | with_reducible refine awp_seq ?_ | with_reducible refine awp_ret ?_ | ((with_reducible refine w_region ?_ ?_); kernel_rfl) | refine w_cond_t rfl (by first | rfl | assumption) ?_)
    refine ret0 (by first | exact .inr rfl | exact .inl rfl) (xs := [.ag [.v (.slice none 0 0)], .v (.int .i64 (pcheckE pvalidE L))]) ?_ ?_
    · exact ⟨.agg _ _ _ _ _ _ rfl rfl rfl rfl, .tmp _, trivial⟩
    · repeat' (first | exact trivial | exact Ren.v _ | exact Ren.sl _ _ | exact Ren.ep _ | exact Ren.ptr _ _ _ _ rfl | exact Ren.bs _ _ _ _ _ rfl | exact Ren.nil _ | exact Ren.own _ _ _ _ ⟨_, rfl⟩ | refine ren_ag ?_ | refine ren_tu ?_ | refine ren_fn ?_ | refine ⟨?_, ?_⟩)
def Per.vals (p : Per) : List Value := [.string p.n, .int .i64 p.c, .int .i64 p.s, .int .i64 p.f, .int .i64 p.u]
theorem held_Per : Tryd.prog.stoodInHeld 32 = false := by kernel_rfl
theorem perSame (a : Per) (w : World) (d : Nat) : (Op.equalIn (d + 2) 32 (.agg ⟨a.vals⟩) (.agg ⟨a.vals⟩)).run Tryd.prog w = .ok true w := by
  obtain ⟨n, c, s, f, u⟩ := a
  rw [run_equalIn_struct w (d + 1) 32 _ _ (by kernel_rfl) held_Per]
  simp [Per.vals, Program.fieldsOf, Tryd.underlying32, Op.eqFields, go_sem, Tryd.underlying3, Tryd.underlying9]
theorem perNeq (x y : Operand) (a : Per) (w : World) : (do eqGuard .neq 32 x y (.agg ⟨a.vals⟩) (.agg ⟨a.vals⟩); binOp .neq 32 (.agg ⟨a.vals⟩) (.agg ⟨a.vals⟩) : Sem Value).run Tryd.prog w = .ok (.bool false) w := by
  have hg : (eqGuard .neq 32 x y (.agg ⟨a.vals⟩) (.agg ⟨a.vals⟩)).run Tryd.prog w = .ok () w := by
    unfold eqGuard
    simp [show Tryd.prog.eqGuardType Tryd.prog.depth 32 = false by kernel_rfl]
  rw [Sem.run_bind, hg]
  simp only [Result.andThen_ok, binOp]
  simp [Op.equal, Op.maxDepth, perSame a w 9998]
theorem psame_A (L : List Per) (hm : L.length ≤ 1000) : ACalls Tryd.prog G 18 [regAV L, regAV L] [] (.v (.bool true)) [] := by
  have q : (((L.map Per.av).length : Int) != ((L.map Per.av).length : Int)) = false := by simp
  refine acalls_of tbOk (enter_of Tryd.func18 (by kernel_rfl) rfl) Tryd.func18 rfl _ Tryd.ntmps18 (Nat.le_of_ble_eq_true rfl) fun X hX => ?_
  subst hX
  repeat (first | ((with_reducible refine k_assign ?_); refine m_assign rfl ?_) | ((with_reducible refine k_fieldAddr ?_); refine x_fieldAddr_ptr tbOk rfl rfl rfl rfl ?_) | ((with_reducible refine k_load ?_); refine x_load_one tbOk rfl rfl rfl rfl rfl ?_) | ((with_reducible refine k_box ?_); refine m_box rfl rfl rfl ?_) | ((with_reducible refine k_call ?_); refine x_len tbOk rfl rfl ?_) | ((with_reducible refine k_bin ?_); refine m_binI rfl rfl rfl ?_)  | refine e_nrm ?_ | refine x_none rfl ?_ | with_reducible refine q_then ?_ | with_reducible refine awp_seq ?_ | with_reducible refine awp_block ?_ | with_reducible refine awp_skip ?_ | ((with_reducible refine w_region ?_ ?_); kernel_rfl) | refine w_cond_f rfl (by first | rfl | assumption) ?_)
  refine awp_loop (ι := Nat) (fun j => j ≤ L.length) (fun j => L.length - j) (fun v j => [(2, .ptr 2 (v 2) 0), (3, .ptr 3 (v 3) 0), (5, .v (.int .i64 j))]) (fun v j => [(2, .box [.sl 5 (L.map Per.av)]), (3, .box [.sl 5 (L.map Per.av)])]) ?_ ?_
  · exact ⟨0, Nat.zero_le _, trivial, ⟨rfl, rfl, rfl, trivial⟩, ⟨rfl, rfl, trivial⟩⟩
  rintro v j hj
  repeat (first | ((with_reducible refine k_move ?_); refine m_move rfl ?_) | ((with_reducible refine k_fieldAddr ?_); refine x_fieldAddr_ptr tbOk rfl rfl rfl rfl ?_) | ((with_reducible refine k_load ?_); refine x_load_one tbOk rfl rfl rfl rfl rfl ?_) | ((with_reducible refine k_call ?_); refine x_len tbOk rfl rfl ?_) | ((with_reducible refine k_bin ?_); refine m_binI rfl rfl rfl ?_)  | refine e_nrm ?_ | refine x_none rfl ?_ | with_reducible refine q_then ?_ | with_reducible refine awp_seq ?_ | ((with_reducible refine w_region ?_ ?_); kernel_rfl))
  refine w_cond rfl (fun h => ?_) (fun h => ?_)
  · have hlt : j < L.length := by simpa using h
    obtain ⟨x, hx⟩ := some_at hlt
    have hy : (L.map Per.av)[j]? = some x.av := by rw [List.getElem?_map, hx]; rfl
    repeat (first | ((with_reducible refine k_move ?_); refine m_move rfl ?_) | ((with_reducible refine k_fieldAddr ?_); refine x_fieldAddr_ptr tbOk rfl rfl rfl rfl ?_) | ((with_reducible refine k_load ?_); refine x_load_one tbOk rfl rfl rfl rfl rfl ?_) | ((with_reducible refine k_load ?_); refine x_load_ep_agg tbOk rfl rfl (Nat.le_of_ble_eq_true rfl) ?_) | ((with_reducible refine k_indexAddr ?_); refine x_indexAddr_n tbOk rfl rfl rfl rfl (by assumption) ?_)  | refine x_none rfl ?_ | with_reducible refine q_then ?_ | with_reducible refine awp_seq ?_ | with_reducible refine awp_block ?_ | with_reducible refine awp_skip ?_ | ((with_reducible refine w_draw mixd ?_ ?_); kernel_rfl))
    with_reducible refine k_bin ?_
    refine x_bin_ag rfl rfl (rfl : concL _ = some x.vals) (rfl : concL _ = some x.vals) (fun w => perNeq _ _ _ w) ?_
    repeat (first | ((with_reducible refine k_move ?_); refine m_move rfl ?_) | ((with_reducible refine k_assign ?_); refine m_assign rfl ?_) | ((with_reducible refine k_bin ?_); refine x_add_in rfl rfl (by omega) ?_)  | refine e_nrm ?_ | refine e_drw (by kernel_rfl) ?_ | refine x_none rfl ?_ | with_reducible refine q_then ?_ | with_reducible refine q_block ?_ | with_reducible refine awp_skip ?_ | ((with_reducible refine w_region ?_ ?_); kernel_rfl) | refine w_cond_f rfl (by first | rfl | assumption) ?_)
    exact ⟨j + 1, by show j + 1 ≤ L.length; omega, by show L.length - (j + 1) < L.length - j; omega, ⟨rfl, rfl, rfl, trivial⟩, ⟨rfl, rfl, trivial⟩⟩
  · repeat (first | ((with_reducible refine k_assign ?_); refine m_assign rfl ?_)  | refine e_nrm ?_ | refine x_none rfl ?_ | with_reducible refine q_then ?_ | with_reducible refine q_then_exit ?_ | with_reducible refine awp_seq ?_ | with_reducible refine awp_exit ?_ | with_reducible refine awp_ret ?_ | ((with_reducible refine q_block_exit ?_ ?_); rfl) | ((with_reducible refine w_region ?_ ?_); kernel_rfl))
    refine ret_v (by first | exact .inr rfl | exact .inl rfl) rfl rfl ?_
    rfl
end Go.Proofs.YtnfjlinffjhkpaaDoor
