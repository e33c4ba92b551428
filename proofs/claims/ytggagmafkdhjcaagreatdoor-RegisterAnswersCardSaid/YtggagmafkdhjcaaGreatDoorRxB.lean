/- The references of chapter 05 for removing and printing, and register.Add at up to 70 people, by the abstract machine; conditions: the tables of classes and powers stand. -/
import Derived.Test.YtggagmafkdhjcaaGreatDoorNetP
import Derived.Test.YtggagmafkdhjcaaGreatDoorRtC
import Derived.Test.YtggagmafkdhjcaaGreatDoorTxB
import Derived.Test.YtggagmafkdhjcaaGreatDoorRgC
set_option linter.unusedVariables false
set_option linter.unusedSimpArgs false
namespace Go.Proofs.YtggagmafkdhjcaaGreatDoor
open Go Go.RowKit Go.Sort
set_option maxRecDepth 10000
variable {G : Nat → Option (List Value)}
theorem str_app2 (a b : List UInt8) : strL a ++ strL b = strL (a ++ b) := by
  apply ByteArray.ext
  simp [strL]
theorem kaddK_A (L : List Per) (p : Per) (hG : GCls G) (hs : ∀ q ∈ L, q.n.size ≤ maxLen) (hp : p.n.size ≤ maxLen) (hm : L.length ≤ 70) :
    ACalls Tryz.prog G 23 [regAV L, p.av] [] (.tu [regAV (addK L p).1, .v (.int .i64 (addK L p).2)]) [] := by
  have h := kadd64_A (G := G) L p hG hs hp hm
  rw [addK64_eq] at h
  exact h
theorem raddK_A (L : List Per) (p : Per) (hG : GCls G) (hs : ∀ q ∈ L, q.n.size ≤ maxLen) (hp : p.n.size ≤ maxLen) (hm : L.length ≤ maxLen) (hi : ∀ q ∈ L, I64 q.s) (hpi : I64 p.s) :
    ACalls Tryz.prog G 24 [regAV L, p.av] [] (.tu [regAV (addK L p).1, .v (.int .i64 (addK L p).2)]) [] := by
  have h := add_A (G := G) L p hG hs hp hm
  rw [addR_eq L p hi hpi] at h
  exact h
set_option maxHeartbeats 4000000 in
theorem rremove_A (L : List Per) (nm : ByteArray) (hG : GCls G) (hs : ∀ q ∈ L, q.n.size ≤ maxLen) (hm : L.length ≤ maxLen) (hi : ∀ q ∈ L, I64 q.s) :
    ACalls Tryz.prog G 17 [regAV L, .v (.string nm)] [] (.tu [regAV (removeK L nm).1, .v (.int .i64 (removeK L nm).2)]) [] := by
  have hc := rcheck_A (G := G) L hG hs hm
  have hf := rfind_A (G := G) L nm hG hs hm
  unfold findI at hf
  rw [← pcheck_eq L hi] at hc hf
  unfold removeK
  by_cases h1 : pcheckE pvalidE L = 0
  · rw [if_pos h1] at hf
    rw [if_neg (by simp [h1])]
    have h64 := check_len h1
    have q1 : (pcheckE pvalidE L != 0) = false := by simp [h1]
    by_cases h3 : idxP nm L 0 < 0
    · have q3 : decide (idxP nm L 0 < 0) = true := decide_eq_true h3
      rw [if_pos h3]
      refine acalls_of tbOk (enter_of Tryz.func17 (by kernel_rfl) rfl) Tryz.func17 rfl _ Tryz.ntmps17 (Nat.le_of_ble_eq_true rfl) fun X hX => ?_
      subst hX
      repeat (first | ((with_reducible refine k_assign ?_); refine m_assign rfl ?_) | ((with_reducible refine k_load ?_); refine x_load_agg tbOk rfl rfl rfl rfl (Nat.le_of_ble_eq_true rfl) ?_) | ((with_reducible refine k_alloc ?_); refine x_alloc tbOk rfl rfl ?_) | ((with_reducible refine k_box ?_); refine m_box rfl rfl rfl ?_)  | refine e_nrm ?_ | refine x_none rfl ?_ | with_reducible (first | refine q_then ?_ | refine awp_seq ?_) | ((with_reducible refine w_region ?_ ?_); kernel_rfl))
      refine x_call0 (hc) (by repeat' (first | exact trivial | exact Ren.sl _ _ | refine ren_ag ?_ | refine ⟨?_, ?_⟩)) (by repeat' exact RenB.v _) ?_
      repeat (first | ((with_reducible refine k_move ?_); refine m_move rfl ?_) | ((with_reducible refine k_assign ?_); refine m_assign rfl ?_) | ((with_reducible refine k_load ?_); refine x_load_agg tbOk rfl rfl rfl rfl (Nat.le_of_ble_eq_true rfl) ?_) | ((with_reducible refine k_bin ?_); refine m_binI rfl rfl rfl ?_)  | refine e_nrm ?_ | refine x_none rfl ?_ | with_reducible (first | refine q_then ?_ | refine awp_seq ?_ | refine awp_skip ?_) | ((with_reducible refine w_region ?_ ?_); kernel_rfl) | refine w_cond_f rfl (by first | rfl | assumption) ?_)
      refine x_call0 (hf) (by repeat' (first | exact trivial | exact Ren.v _ | exact Ren.sl _ _ | refine ren_ag ?_ | refine ⟨?_, ?_⟩)) (by repeat' exact RenB.v _) ?_
      repeat (first | ((with_reducible refine k_move ?_); refine m_move rfl ?_) | ((with_reducible refine k_assign ?_); refine m_assign rfl ?_) | ((with_reducible refine k_store ?_); refine m_store tbOk rfl rfl rfl rfl rfl rfl rfl (Nat.le_of_ble_eq_true rfl) rfl ?_) | ((with_reducible refine k_build ?_); refine m_build tbOk rfl rfl rfl rfl rfl ?_) | ((with_reducible refine k_bin ?_); refine m_binI rfl rfl rfl ?_)  | refine e_nrm ?_ | refine x_none rfl ?_ | with_reducible (first | refine q_then ?_ | refine q_then_ret ?_ | refine awp_seq ?_ | refine awp_ret ?_) | ((with_reducible refine w_region ?_ ?_); kernel_rfl) | refine w_cond_t rfl (by first | rfl | assumption) ?_)
      refine ret0 (by first | exact .inr rfl | exact .inl rfl) (xs := [.ag [.v (.slice none 0 0)], .v (.int .i64 (15))]) ?_ ?_
      · exact ⟨.agg _ _ _ _ _ _ rfl rfl rfl rfl, .tmp _, trivial⟩
      · repeat' (first | exact trivial | exact Ren.v _ | exact Ren.nil _ | refine ren_ag ?_ | refine ren_tu ?_ | refine ⟨?_, ?_⟩)
    · rw [if_neg h3]
      obtain ⟨j, hj, hjl⟩ : ∃ j : Nat, idxP nm L 0 = (j : Int) ∧ j < L.length := by
        rcases idx_range nm L 0 with h | ⟨j, h, hl⟩
        · omega
        · exact ⟨j, by simpa using h, hl⟩
      rw [hj, Int.toNat_natCast]
      rw [hj] at hf
      have q3 : decide ((j : Int) < 0) = false := decide_eq_false (by omega)
      have hkn : j < (L.map Per.av).length := by simpa using hjl
      have hln : (L.map Per.av).length ≤ 64 := by simpa using h64
      have ho1 : ∀ x ∈ ((L.map Per.av).take (j : Int).toNat).drop (0 : Int).toNat, allOne x.cells = true := fun x hx => per_oneA L x (List.mem_of_mem_take (List.mem_of_mem_drop hx))
      have ho3 : ∀ x ∈ ((L.map Per.av).take ((L.map Per.av).length : Int).toNat).drop ((j : Int) + 1).toNat, allOne x.cells = true := fun x hx => per_oneA L x (List.mem_of_mem_take (List.mem_of_mem_drop hx))
      have l1 : (((L.map Per.av).take (j : Int).toNat).drop (0 : Int).toNat).length ≤ 64 := by simp only [List.length_drop, List.length_take]; omega
      have l2 : (((L.map Per.av).take ((L.map Per.av).length : Int).toNat).drop ((j : Int) + 1).toNat).length ≤ 64 := by simp only [List.length_drop, List.length_take]; omega
      refine acalls_of tbOk (enter_of Tryz.func17 (by kernel_rfl) rfl) Tryz.func17 rfl _ Tryz.ntmps17 (Nat.le_of_ble_eq_true rfl) fun X hX => ?_
      subst hX
      repeat (first | ((with_reducible refine k_assign ?_); refine m_assign rfl ?_) | ((with_reducible refine k_load ?_); refine x_load_agg tbOk rfl rfl rfl rfl (Nat.le_of_ble_eq_true rfl) ?_) | ((with_reducible refine k_alloc ?_); refine x_alloc tbOk rfl rfl ?_) | ((with_reducible refine k_box ?_); refine m_box rfl rfl rfl ?_)  | refine e_nrm ?_ | refine x_none rfl ?_ | with_reducible (first | refine q_then ?_ | refine awp_seq ?_) | ((with_reducible refine w_region ?_ ?_); kernel_rfl))
      refine x_call0 (hc) (by repeat' (first | exact trivial | exact Ren.sl _ _ | refine ren_ag ?_ | refine ⟨?_, ?_⟩)) (by repeat' exact RenB.v _) ?_
      repeat (first | ((with_reducible refine k_move ?_); refine m_move rfl ?_) | ((with_reducible refine k_assign ?_); refine m_assign rfl ?_) | ((with_reducible refine k_load ?_); refine x_load_agg tbOk rfl rfl rfl rfl (Nat.le_of_ble_eq_true rfl) ?_) | ((with_reducible refine k_bin ?_); refine m_binI rfl rfl rfl ?_)  | refine e_nrm ?_ | refine x_none rfl ?_ | with_reducible (first | refine q_then ?_ | refine awp_seq ?_ | refine awp_skip ?_) | ((with_reducible refine w_region ?_ ?_); kernel_rfl) | refine w_cond_f rfl (by first | rfl | assumption) ?_)
      refine x_call0 (hf) (by repeat' (first | exact trivial | exact Ren.v _ | exact Ren.sl _ _ | refine ren_ag ?_ | refine ⟨?_, ?_⟩)) (by repeat' exact RenB.v _) ?_
      repeat (first | ((with_reducible refine k_move ?_); refine m_move rfl ?_) | ((with_reducible refine k_assign ?_); refine m_assign rfl ?_) | ((with_reducible refine k_fieldAddr ?_); refine x_fieldAddr_ptr tbOk rfl rfl rfl rfl ?_) | ((with_reducible refine k_load ?_); refine x_load_one tbOk rfl rfl rfl rfl rfl ?_) | ((with_reducible refine k_slice ?_); refine x_slice tbOk rfl rfl rfl rfl rfl (by refine ⟨?_, ?_, ?_⟩ <;> omega) ?_) | ((with_reducible refine k_bin ?_); refine m_binI rfl rfl rfl ?_)  | refine e_nrm ?_ | refine x_none rfl ?_ | with_reducible (first | refine q_then ?_ | refine awp_seq ?_ | refine awp_skip ?_) | ((with_reducible refine w_region ?_ ?_); kernel_rfl) | refine w_cond_f rfl (by first | rfl | assumption) ?_)
      refine x_append_nil tbOk rfl rfl rfl rfl rfl (by decide) rfl rfl rfl ho1 (by omega) ?_
      repeat (first | ((with_reducible refine k_move ?_); refine m_move rfl ?_) | ((with_reducible refine k_assign ?_); refine m_assign rfl ?_) | ((with_reducible refine k_fieldAddr ?_); refine x_fieldAddr_ptr tbOk rfl rfl rfl rfl ?_) | ((with_reducible refine k_load ?_); refine x_load_one tbOk rfl rfl rfl rfl rfl ?_) | ((with_reducible refine k_slice ?_); refine x_slice tbOk rfl rfl rfl rfl rfl (by refine ⟨?_, ?_, ?_⟩ <;> omega) ?_) | ((with_reducible refine k_bin ?_); refine x_add_in rfl rfl (by omega) ?_)  | refine e_nrm ?_ | refine x_none rfl ?_ | with_reducible (first | refine q_then ?_ | refine awp_seq ?_) | ((with_reducible refine w_region ?_ ?_); kernel_rfl))
      refine x_append_own tbOk rfl rfl rfl rfl rfl (by decide) rfl rfl rfl rfl rfl ho3 (by omega) (by omega) ?_
      repeat (first | ((with_reducible refine k_assign ?_); refine m_assign rfl ?_) | ((with_reducible refine k_store ?_); refine m_store tbOk rfl rfl rfl rfl rfl rfl rfl (Nat.le_of_ble_eq_true rfl) rfl ?_) | ((with_reducible refine k_build ?_); refine m_build tbOk rfl rfl rfl rfl rfl ?_)  | refine e_nrm ?_ | refine x_none rfl ?_ | with_reducible (first | refine q_then ?_ | refine awp_ret ?_) )
      refine ret0_ct (by first | exact .inr rfl | exact .inl rfl) rfl rfl rfl rfl rfl rfl ?_
      have el : (L.take j ++ L.drop (j + 1)).map Per.av = ((L.map Per.av).take (j : Int).toNat).drop (0 : Int).toNat ++ ((L.map Per.av).take ((L.map Per.av).length : Int).toNat).drop ((j : Int) + 1).toNat := by
        rw [Int.toNat_natCast, Int.toNat_natCast, show ((j : Int) + 1).toNat = j + 1 by omega, List.take_length]
        simp [List.map_take, List.map_drop]
      unfold regAV
      rw [el]
      repeat' (first | exact trivial | exact Ren.v _ | exact Ren.own _ _ _ _ ⟨_, rfl⟩ | refine ren_ag ?_ | refine ren_tu ?_ | refine ⟨?_, ?_⟩)
  · have q1 : (pcheckE pvalidE L != 0) = true := by simp [h1]
    rw [if_pos h1]
    refine acalls_of tbOk (enter_of Tryz.func17 (by kernel_rfl) rfl) Tryz.func17 rfl _ Tryz.ntmps17 (Nat.le_of_ble_eq_true rfl) fun X hX => ?_
    subst hX
    repeat (first | ((with_reducible refine k_assign ?_); refine m_assign rfl ?_) | ((with_reducible refine k_load ?_); refine x_load_agg tbOk rfl rfl rfl rfl (Nat.le_of_ble_eq_true rfl) ?_) | ((with_reducible refine k_alloc ?_); refine x_alloc tbOk rfl rfl ?_) | ((with_reducible refine k_box ?_); refine m_box rfl rfl rfl ?_)  | refine e_nrm ?_ | refine x_none rfl ?_ | with_reducible (first | refine q_then ?_ | refine awp_seq ?_) | ((with_reducible refine w_region ?_ ?_); kernel_rfl))
    refine x_call0 (hc) (by repeat' (first | exact trivial | exact Ren.sl _ _ | refine ren_ag ?_ | refine ⟨?_, ?_⟩)) (by repeat' exact RenB.v _) ?_
    repeat (first | ((with_reducible refine k_move ?_); refine m_move rfl ?_) | ((with_reducible refine k_assign ?_); refine m_assign rfl ?_) | ((with_reducible refine k_store ?_); refine m_store tbOk rfl rfl rfl rfl rfl rfl rfl (Nat.le_of_ble_eq_true rfl) rfl ?_) | ((with_reducible refine k_build ?_); refine m_build tbOk rfl rfl rfl rfl rfl ?_) | ((with_reducible refine k_bin ?_); refine m_binI rfl rfl rfl ?_)  | refine e_nrm ?_ | refine x_none rfl ?_ | with_reducible (first | refine q_then ?_ | refine q_then_ret ?_ | refine awp_seq ?_ | refine awp_ret ?_) | ((with_reducible refine w_region ?_ ?_); kernel_rfl) | refine w_cond_t rfl (by first | rfl | assumption) ?_)
    refine ret0 (by first | exact .inr rfl | exact .inl rfl) (xs := [.ag [.v (.slice none 0 0)], .v (.int .i64 (pcheckE pvalidE L))]) ?_ ?_
    · exact ⟨.agg _ _ _ _ _ _ rfl rfl rfl rfl, .tmp _, trivial⟩
    · repeat' (first | exact trivial | exact Ren.v _ | exact Ren.nil _ | refine ren_ag ?_ | refine ren_tu ?_ | refine ⟨?_, ?_⟩)
set_option maxHeartbeats 16000000 in
theorem rrprint_A (L : List Per) (hG : GCls G) (hP : GPow G) (hs : ∀ p ∈ L, p.n.size ≤ maxLen) (hi : ∀ p ∈ L, I64 p.s) (hm : L.length ≤ maxLen) :
    ACalls Tryz.prog G 13 [regAV L] [] (.tu [.v (.string (printR L).1), .v (.int .i64 (printR L).2)]) [] := by
  have hk := rcheck_A (G := G) L hG hs hm
  rw [← pcheck_eq L hi] at hk
  by_cases hc : pcheckE pvalidE L ≠ 0
  · have e : printR L = (⟨#[]⟩, pcheckE pvalidE L) := by unfold printR; rw [if_pos hc]
    rw [e]
    refine acalls_of tbOk (enter_of Tryz.func13 (by kernel_rfl) rfl) Tryz.func13 rfl _ Tryz.ntmps13 (Nat.le_of_ble_eq_true rfl) fun X hX => ?_
    subst hX
    repeat (first | ((with_reducible refine k_assign ?_); refine m_assign rfl ?_) | ((with_reducible refine k_load ?_); refine x_load_agg tbOk rfl rfl rfl rfl (Nat.le_of_ble_eq_true rfl) ?_) | ((with_reducible refine k_box ?_); refine m_box rfl rfl rfl ?_)  | refine e_nrm ?_ | refine x_none rfl ?_ | with_reducible (first | refine q_then ?_ | refine awp_seq ?_) | ((with_reducible refine w_region ?_ ?_); kernel_rfl))
    refine x_call0 (hk) (by repeat' (first | exact trivial | exact Ren.sl _ _ | refine ren_ag ?_ | refine ⟨?_, ?_⟩)) (by repeat' exact RenB.v _) ?_
    repeat (first | ((with_reducible refine k_move ?_); refine m_move rfl ?_) | ((with_reducible refine k_assign ?_); refine m_assign rfl ?_) | ((with_reducible refine k_bin ?_); refine m_binI rfl rfl rfl ?_)  | refine e_nrm ?_ | refine x_none rfl ?_ | with_reducible (first | refine q_then ?_ | refine awp_seq ?_) | ((with_reducible refine w_region ?_ ?_); kernel_rfl))
    refine w_cond rfl (fun h => ?_) (fun h => ?_)
    · repeat (first | ((with_reducible refine k_move ?_); refine m_move rfl ?_) | ((with_reducible refine k_assign ?_); refine m_assign rfl ?_)  | refine e_nrm ?_ | refine x_none rfl ?_ | with_reducible (first | refine q_then ?_ | refine q_then_ret ?_ | refine awp_seq ?_ | refine awp_ret ?_) | ((with_reducible refine w_region ?_ ?_); kernel_rfl))
      refine ret0_2 (by first | exact .inr rfl | exact .inl rfl) rfl rfl rfl ?_
      repeat' (first | exact trivial | exact Ren.v _ | refine ren_tu ?_ | refine ⟨?_, ?_⟩)
    · exact absurd (by simpa using h) hc
  have e : printR L = (strL (regT L), 0) := by unfold printR; rw [if_neg hc]
  have hvl := (check_iff L).1 (by simpa using hc)
  have hpv : ∀ p ∈ L, PvOk p := fun p hp => pv_ok (hvl.2.1 p hp) (hi p hp)
  have h64 := hvl.1
  rw [e]
  refine acalls_of tbOk (enter_of Tryz.func13 (by kernel_rfl) rfl) Tryz.func13 rfl _ Tryz.ntmps13 (Nat.le_of_ble_eq_true rfl) fun X hX => ?_
  subst hX
  repeat (first | ((with_reducible refine k_assign ?_); refine m_assign rfl ?_) | ((with_reducible refine k_load ?_); refine x_load_agg tbOk rfl rfl rfl rfl (Nat.le_of_ble_eq_true rfl) ?_) | ((with_reducible refine k_box ?_); refine m_box rfl rfl rfl ?_)  | refine e_nrm ?_ | refine x_none rfl ?_ | with_reducible (first | refine q_then ?_ | refine awp_seq ?_) | ((with_reducible refine w_region ?_ ?_); kernel_rfl))
  refine x_call0 (hk) (by repeat' (first | exact trivial | exact Ren.sl _ _ | refine ren_ag ?_ | refine ⟨?_, ?_⟩)) (by repeat' exact RenB.v _) ?_
  repeat (first | ((with_reducible refine k_move ?_); refine m_move rfl ?_) | ((with_reducible refine k_assign ?_); refine m_assign rfl ?_) | ((with_reducible refine k_bin ?_); refine m_binI rfl rfl rfl ?_)  | refine e_nrm ?_ | refine x_none rfl ?_ | with_reducible (first | refine q_then ?_ | refine awp_seq ?_) | ((with_reducible refine w_region ?_ ?_); kernel_rfl))
  refine w_cond rfl (fun h => ?_) (fun h => ?_)
  · exact absurd (by simpa using h) hc
  clear h
  repeat (first | ((with_reducible refine k_assign ?_); refine m_assign rfl ?_)  | refine e_nrm ?_ | refine x_none rfl ?_ | with_reducible (first | refine q_then ?_ | refine awp_seq ?_ | refine awp_block ?_ | refine awp_skip ?_) | ((with_reducible refine w_region ?_ ?_); kernel_rfl))
  refine awp_loop (ι := Nat) (fun k => k ≤ L.length) (fun k => L.length - k) (fun v k => [(1, .ptr 1 (v 1) 0), (5, .v (.string (strL (regT (L.take k))))), (6, .v (.int .i64 (k : Nat)))]) (fun v k => [(1, .box [.sl 5 (L.map Per.av)])]) ?_ ?_
  · exact ⟨0, Nat.zero_le _, trivial, ⟨rfl, rfl, rfl, trivial⟩, ⟨rfl, trivial⟩⟩
  rintro v k hk
  repeat (first | ((with_reducible refine k_move ?_); refine m_move rfl ?_) | ((with_reducible refine k_fieldAddr ?_); refine x_fieldAddr_ptr tbOk rfl rfl rfl rfl ?_) | ((with_reducible refine k_load ?_); refine x_load_one tbOk rfl rfl rfl rfl rfl ?_) | ((with_reducible refine k_call ?_); refine x_len tbOk rfl rfl ?_) | ((with_reducible refine k_bin ?_); refine m_binI rfl rfl rfl ?_)  | refine e_nrm ?_ | refine x_none rfl ?_ | with_reducible (first | refine q_then ?_ | refine awp_seq ?_) | ((with_reducible refine w_region ?_ ?_); kernel_rfl))
  refine w_cond rfl (fun h => ?_) (fun h => ?_)
  · have hlt : k < L.length := by simpa using h
    obtain ⟨p, hp⟩ := some_at hlt
    have hy := per_at hp
    have hpk := hpv p (List.mem_of_getElem? hp)
    have ht := hpk.t
    have hcc := hpk.c
    have hss := hpk.s
    have hpf := rprint_A (G := X.G) p.f hP
    have hpu := rprint_A (G := X.G) p.u hP
    have htl : (regT (L.take k)).length ≤ 64 * 1011 := by
      have := regT_len (M := L.take k) (fun q hq => hpv q (List.mem_of_mem_take hq))
      rw [List.length_take] at this
      have : min k L.length ≤ 64 := by omega
      omega
    have hnx : regT (L.take (k + 1)) = regT (L.take k) ++ joinW (lineP p) ++ [10] := by
      rw [take_at hp, regT_app]
      simp [regT, txtOf]
    have hwd := line_wd hpk
    have w1 : p.n.data.toList.length ≤ 100 := (hwd _ (show p.n.data.toList ∈ lineP p by simp [lineP])).2.2
    have w3 : (Lib.itoa p.c).length ≤ 100 := (hwd _ (show Lib.itoa p.c ∈ lineP p by simp [lineP])).2.2
    have w5 : (skL p.s).length ≤ 100 := (hwd _ (show skL p.s ∈ lineP p by simp [lineP])).2.2
    have w7 : (tmL p.f).length ≤ 100 := (hwd _ (show tmL p.f ∈ lineP p by simp [lineP])).2.2
    have w9 : (tmL p.u).length ≤ 100 := (hwd _ (show tmL p.u ∈ lineP p by simp [lineP])).2.2
    have hline : joinW (lineP p) = [112, 101, 114, 115, 111, 110, 32] ++ p.n.data.toList ++ [32, 99, 111, 109, 112, 97, 110, 121, 32] ++ Lib.itoa p.c ++ [32, 115, 107, 105, 108, 108, 115, 32] ++ skL p.s ++ [32, 102, 114, 111, 109, 32] ++ tmL p.f ++ [32, 117, 110, 116, 105, 108, 32] ++ tmL p.u := by
      unfold lineP
      rw [joinW_cons, joinW_cons, joinW_cons, joinW_cons, joinW_cons, joinW_cons, joinW_cons, joinW_cons, joinW_cons, joinW_one]
      simp [personL, companyL, skillsL, fromL, untilL]
    repeat (first | ((with_reducible refine k_move ?_); refine m_move rfl ?_) | ((with_reducible refine k_fieldAddr ?_); refine x_fieldAddr_ptr tbOk rfl rfl rfl rfl ?_) | ((with_reducible refine k_load ?_); (first | refine x_load_one tbOk rfl rfl rfl rfl rfl ?_ | refine x_load_ep_agg tbOk rfl rfl (Nat.le_of_ble_eq_true rfl) ?_)) | ((with_reducible refine k_store ?_); refine m_store tbOk rfl rfl rfl rfl rfl rfl rfl (Nat.le_of_ble_eq_true rfl) rfl ?_) | ((with_reducible refine k_alloc ?_); refine x_alloc tbOk rfl rfl ?_) | ((with_reducible refine k_indexAddr ?_); refine x_indexAddr_n tbOk rfl rfl rfl rfl (by assumption) ?_)  | refine e_nrm ?_ | refine x_none rfl ?_ | with_reducible (first | refine q_then ?_ | refine awp_seq ?_ | refine awp_block ?_ | refine awp_skip ?_) | ((with_reducible refine w_region ?_ ?_); kernel_rfl))
    refine x_call0 (hpf) (by repeat' (first | exact trivial | exact Ren.v _ | refine ⟨?_, ?_⟩)) (by repeat' (first | exact trivial | exact RenB.v _ | refine renb_tu ?_ | refine ⟨?_, ?_⟩)) ?_
    repeat (first | ((with_reducible refine k_move ?_); refine m_move rfl ?_) | ((with_reducible refine k_assign ?_); refine m_assign rfl ?_) | ((with_reducible refine k_fieldAddr ?_); refine x_fieldAddr_ptr tbOk rfl rfl rfl rfl ?_) | ((with_reducible refine k_load ?_); refine x_load_one tbOk rfl rfl rfl rfl rfl ?_) | ((with_reducible refine k_extract ?_); refine x_extract rfl rfl ?_)  | refine e_nrm ?_ | refine x_none rfl ?_ | with_reducible (first | refine q_then ?_ | refine awp_seq ?_) | ((with_reducible refine w_region ?_ ?_); kernel_rfl))
    refine x_call0 (hpu) (by repeat' (first | exact trivial | exact Ren.v _ | refine ⟨?_, ?_⟩)) (by repeat' (first | exact trivial | exact RenB.v _ | refine renb_tu ?_ | refine ⟨?_, ?_⟩)) ?_
    repeat (first | ((with_reducible refine k_move ?_); refine m_move rfl ?_) | ((with_reducible refine k_assign ?_); refine m_assign rfl ?_) | ((with_reducible refine k_fieldAddr ?_); refine x_fieldAddr_ptr tbOk rfl rfl rfl rfl ?_) | ((with_reducible refine k_load ?_); refine x_load_one tbOk rfl rfl rfl rfl rfl ?_) | ((with_reducible refine k_extract ?_); refine x_extract rfl rfl ?_)  | refine e_nrm ?_ | refine x_none rfl ?_ | with_reducible refine q_then ?_ | ((with_reducible refine w_draw mixd ?_ ?_); kernel_rfl))
    with_reducible refine k_bin ?_
    refine x_add_s (a := strL ([112, 101, 114, 115, 111, 110, 32])) (b := strL (p.n.data.toList)) rfl rfl (by rw [strL_size, strL_size]; simp only [List.length_append, List.length_cons, List.length_nil]; omega) ?_
    rw [str_app2]
    repeat (first   | refine x_none rfl ?_  )
    with_reducible refine k_bin ?_
    refine x_add_s (a := strL ([112, 101, 114, 115, 111, 110, 32] ++ p.n.data.toList)) (b := strL ([32, 99, 111, 109, 112, 97, 110, 121, 32])) rfl rfl (by rw [strL_size, strL_size]; simp only [List.length_append, List.length_cons, List.length_nil]; omega) ?_
    rw [str_app2]
    repeat (first | ((with_reducible refine k_fieldAddr ?_); refine x_fieldAddr_ptr tbOk rfl rfl rfl rfl ?_) | ((with_reducible refine k_load ?_); refine x_load_one tbOk rfl rfl rfl rfl rfl ?_)  | refine x_none rfl ?_  )
    refine x_call0 (rtext_A p.c (by omega) (by omega)) (by repeat' (first | exact trivial | exact Ren.v _ | refine ⟨?_, ?_⟩)) (by repeat' exact RenB.v _) ?_
    repeat (first   | refine x_none rfl ?_  )
    with_reducible refine k_bin ?_
    refine x_add_s (a := strL ([112, 101, 114, 115, 111, 110, 32] ++ p.n.data.toList ++ [32, 99, 111, 109, 112, 97, 110, 121, 32])) (b := strL (Lib.itoa p.c)) rfl rfl (by rw [strL_size, strL_size]; simp only [List.length_append, List.length_cons, List.length_nil]; omega) ?_
    rw [str_app2]
    repeat (first   | refine x_none rfl ?_  )
    with_reducible refine k_bin ?_
    refine x_add_s (a := strL ([112, 101, 114, 115, 111, 110, 32] ++ p.n.data.toList ++ [32, 99, 111, 109, 112, 97, 110, 121, 32] ++ Lib.itoa p.c)) (b := strL ([32, 115, 107, 105, 108, 108, 115, 32])) rfl rfl (by rw [strL_size, strL_size]; simp only [List.length_append, List.length_cons, List.length_nil]; omega) ?_
    rw [str_app2]
    repeat (first | ((with_reducible refine k_fieldAddr ?_); refine x_fieldAddr_ptr tbOk rfl rfl rfl rfl ?_) | ((with_reducible refine k_load ?_); refine x_load_one tbOk rfl rfl rfl rfl rfl ?_)  | refine x_none rfl ?_  )
    refine x_call0 (rletters_A p.s) (by repeat' (first | exact trivial | exact Ren.v _ | refine ⟨?_, ?_⟩)) (by repeat' exact RenB.v _) ?_
    repeat (first   | refine x_none rfl ?_  )
    with_reducible refine k_bin ?_
    refine x_add_s (a := strL ([112, 101, 114, 115, 111, 110, 32] ++ p.n.data.toList ++ [32, 99, 111, 109, 112, 97, 110, 121, 32] ++ Lib.itoa p.c ++ [32, 115, 107, 105, 108, 108, 115, 32])) (b := strL (skL p.s)) rfl rfl (by rw [strL_size, strL_size]; simp only [List.length_append, List.length_cons, List.length_nil]; omega) ?_
    rw [str_app2]
    repeat (first   | refine x_none rfl ?_  )
    with_reducible refine k_bin ?_
    refine x_add_s (a := strL ([112, 101, 114, 115, 111, 110, 32] ++ p.n.data.toList ++ [32, 99, 111, 109, 112, 97, 110, 121, 32] ++ Lib.itoa p.c ++ [32, 115, 107, 105, 108, 108, 115, 32] ++ skL p.s)) (b := strL ([32, 102, 114, 111, 109, 32])) rfl rfl (by rw [strL_size, strL_size]; simp only [List.length_append, List.length_cons, List.length_nil]; omega) ?_
    rw [str_app2]
    repeat (first | ((with_reducible refine k_move ?_); refine m_move rfl ?_)  | refine x_none rfl ?_  )
    with_reducible refine k_bin ?_
    refine x_add_s (a := strL ([112, 101, 114, 115, 111, 110, 32] ++ p.n.data.toList ++ [32, 99, 111, 109, 112, 97, 110, 121, 32] ++ Lib.itoa p.c ++ [32, 115, 107, 105, 108, 108, 115, 32] ++ skL p.s ++ [32, 102, 114, 111, 109, 32])) (b := strL (tmL p.f)) rfl rfl (by rw [strL_size, strL_size]; simp only [List.length_append, List.length_cons, List.length_nil]; omega) ?_
    rw [str_app2]
    repeat (first   | refine x_none rfl ?_  )
    with_reducible refine k_bin ?_
    refine x_add_s (a := strL ([112, 101, 114, 115, 111, 110, 32] ++ p.n.data.toList ++ [32, 99, 111, 109, 112, 97, 110, 121, 32] ++ Lib.itoa p.c ++ [32, 115, 107, 105, 108, 108, 115, 32] ++ skL p.s ++ [32, 102, 114, 111, 109, 32] ++ tmL p.f)) (b := strL ([32, 117, 110, 116, 105, 108, 32])) rfl rfl (by rw [strL_size, strL_size]; simp only [List.length_append, List.length_cons, List.length_nil]; omega) ?_
    rw [str_app2]
    repeat (first | ((with_reducible refine k_move ?_); refine m_move rfl ?_)  | refine x_none rfl ?_  )
    with_reducible refine k_bin ?_
    refine x_add_s (a := strL ([112, 101, 114, 115, 111, 110, 32] ++ p.n.data.toList ++ [32, 99, 111, 109, 112, 97, 110, 121, 32] ++ Lib.itoa p.c ++ [32, 115, 107, 105, 108, 108, 115, 32] ++ skL p.s ++ [32, 102, 114, 111, 109, 32] ++ tmL p.f ++ [32, 117, 110, 116, 105, 108, 32])) (b := strL (tmL p.u)) rfl rfl (by rw [strL_size, strL_size]; simp only [List.length_append, List.length_cons, List.length_nil]; omega) ?_
    rw [str_app2]
    repeat (first   | refine x_none rfl ?_  )
    rw [← hline]
    have hjl := (line_ok hpk).2
    with_reducible refine k_bin ?_
    refine x_add_s (a := strL (joinW (lineP p))) (b := strL ([10])) rfl rfl (by rw [strL_size, strL_size]; simp only [List.length_append, List.length_cons, List.length_nil]; omega) ?_
    rw [str_app2]
    repeat (first   | refine x_none rfl ?_  )
    with_reducible refine k_bin ?_
    refine x_add_s (a := strL (regT (L.take k))) (b := strL (joinW (lineP p) ++ [10])) rfl rfl (by rw [strL_size, strL_size]; simp only [List.length_append, List.length_cons, List.length_nil]; omega) ?_
    rw [str_app2]
    repeat (first | ((with_reducible refine k_move ?_); refine m_move rfl ?_) | ((with_reducible refine k_assign ?_); refine m_assign rfl ?_) | ((with_reducible refine k_bin ?_); refine x_add_in rfl rfl (by omega) ?_)  | refine e_nrm ?_ | refine e_drw (by kernel_rfl) ?_ | refine x_none rfl ?_ | with_reducible (first | refine q_then ?_ | refine q_block ?_) | ((with_reducible refine w_region ?_ ?_); kernel_rfl))
    rw [← List.append_assoc, ← hnx]
    exact ⟨k + 1, by omega, by omega, ⟨rfl, rfl, rfl, trivial⟩, ⟨rfl, trivial⟩⟩
  · have hge : L.length ≤ k := by simp at h; omega
    rw [List.take_of_length_le hge]
    repeat (first | ((with_reducible refine k_move ?_); refine m_move rfl ?_) | ((with_reducible refine k_assign ?_); refine m_assign rfl ?_)  | refine e_nrm ?_ | refine x_none rfl ?_ | with_reducible (first | refine q_then ?_ | refine q_then_exit ?_ | refine awp_seq ?_ | refine awp_exit ?_ | refine awp_ret ?_) | ((with_reducible refine q_block_exit ?_ ?_); rfl) | ((with_reducible refine w_region ?_ ?_); kernel_rfl))
    refine ret0_2 (by first | exact .inr rfl | exact .inl rfl) rfl rfl rfl ?_
    repeat' (first | exact trivial | exact Ren.v _ | refine ren_tu ?_ | refine ⟨?_, ?_⟩)
end Go.Proofs.YtggagmafkdhjcaaGreatDoor
