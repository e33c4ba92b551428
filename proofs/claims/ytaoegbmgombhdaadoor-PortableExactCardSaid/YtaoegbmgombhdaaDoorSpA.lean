/- portable.Spare and permitofficeref03.Has, by the abstract machine; conditions: the table of classes stands. -/
import Derived.Test.YtaoegbmgombhdaaDoorLsB
import Derived.Test.YtaoegbmgombhdaaDoorPtB
import Derived.Test.YtaoegbmgombhdaaDoorSpP
import Derived.Test.YtaoegbmgombhdaaDoorIntA
set_option linter.unusedVariables false
set_option linter.unusedSimpArgs false
namespace Go.Proofs.YtaoegbmgombhdaaDoor
open Go Go.RowKit
set_option maxRecDepth 10000
variable {G : Nat → Option (List Value)}
theorem has_A (L : List Int) (x : Int) (hm : L.length ≤ maxLen) : ACalls Tryd.prog G 26 [.sl 1 (L.map iv), .v (.int .i64 x)] [] (.v (.bool (L.any fun y => decide (y = x)))) [] := by
  have hm9 : L.length ≤ 9223372036854775807 := by unfold maxLen at hm; omega
  refine acalls_of tbOk (enter_of Tryd.func26 (by kernel_rfl) rfl) Tryd.func26 rfl _ Tryd.ntmps26 (Nat.le_of_ble_eq_true rfl) fun X hX => ?_
  subst hX
  repeat (first | ((with_reducible refine k_assign ?_); refine m_assign rfl ?_)  | refine e_nrm ?_ | refine x_none rfl ?_ | with_reducible refine q_then ?_ | with_reducible refine awp_seq ?_ | with_reducible refine awp_block ?_ | ((with_reducible refine w_region ?_ ?_); kernel_rfl))
  refine awp_loop (ι := Nat) (fun i => i ≤ L.length ∧ ((L.drop i).any fun y => decide (y = x)) = L.any fun y => decide (y = x)) (fun i => L.length - i) (fun v i => [(0, .sl 1 (L.map iv)), (1, .v (.int .i64 x)), (5, .v (.int .i64 i))]) (fun v i => []) ?_ ?_
  · exact ⟨0, ⟨Nat.zero_le _, rfl⟩, trivial, ⟨rfl, rfl, rfl, trivial⟩, trivial⟩
  rintro v i ⟨hi, hf⟩
  repeat (first | ((with_reducible refine k_move ?_); refine m_move rfl ?_) | ((with_reducible refine k_call ?_); refine x_len tbOk rfl rfl ?_) | ((with_reducible refine k_bin ?_); refine m_binI rfl rfl rfl ?_)  | refine e_nrm ?_ | refine x_none rfl ?_ | with_reducible refine q_then ?_ | with_reducible refine awp_seq ?_ | ((with_reducible refine w_region ?_ ?_); kernel_rfl))
  refine w_cond rfl (fun h => ?_) (fun h => ?_)
  · have hlt : i < L.length := by simpa using h
    obtain ⟨y, hx⟩ := some_at hlt
    have hy : (L.map iv)[i]? = some (iv y) := by rw [List.getElem?_map, hx]; rfl
    rw [drop_at hx, List.any_cons] at hf
    repeat (first | ((with_reducible refine k_move ?_); refine m_move rfl ?_) | ((with_reducible refine k_load ?_); refine x_load_ep_one tbOk rfl rfl rfl ?_) | ((with_reducible refine k_indexAddr ?_); refine x_indexAddr_n tbOk rfl rfl rfl rfl (by assumption) ?_) | ((with_reducible refine k_bin ?_); refine m_binI rfl rfl rfl ?_)  | refine e_nrm ?_ | refine x_none rfl ?_ | with_reducible refine q_then ?_ | with_reducible refine awp_seq ?_ | with_reducible refine awp_block ?_ | with_reducible refine awp_skip ?_ | ((with_reducible refine w_region ?_ ?_); kernel_rfl))
    refine w_cond rfl (fun h => ?_) (fun h => ?_)
    · have e : y = x := by simpa using h
      rw [← hf]
      repeat (first | ((with_reducible refine k_assign ?_); refine m_assign rfl ?_)  | refine e_nrm ?_ | refine x_none rfl ?_ | with_reducible refine q_then ?_ | with_reducible refine q_then_ret ?_ | with_reducible refine q_block_ret ?_ | with_reducible refine awp_seq ?_ | with_reducible refine awp_ret ?_ | ((with_reducible refine w_region ?_ ?_); kernel_rfl))
      refine ret_v (by first | exact .inr rfl | exact .inl rfl) rfl rfl ?_
      simp [e]
    · have e : ¬ y = x := by simpa using h
      rw [decide_eq_false e, Bool.false_or] at hf
      repeat (first | ((with_reducible refine k_move ?_); refine m_move rfl ?_) | ((with_reducible refine k_assign ?_); refine m_assign rfl ?_) | ((with_reducible refine k_bin ?_); refine x_add_in rfl rfl (by omega) ?_)  | refine e_nrm ?_ | refine x_none rfl ?_ | with_reducible refine q_then ?_ | with_reducible refine q_block ?_ | with_reducible refine awp_skip ?_ | ((with_reducible refine w_region ?_ ?_); kernel_rfl))
      exact ⟨i + 1, ⟨by omega, hf⟩, by omega, ⟨rfl, rfl, rfl, trivial⟩, trivial⟩
  · have hlt : ¬ i < L.length := by simpa using h
    rw [List.drop_of_length_le (by omega)] at hf
    repeat (first | ((with_reducible refine k_assign ?_); refine m_assign rfl ?_)  | refine e_nrm ?_ | refine x_none rfl ?_ | with_reducible refine q_then ?_ | with_reducible refine q_then_exit ?_ | with_reducible refine awp_seq ?_ | with_reducible refine awp_exit ?_ | with_reducible refine awp_ret ?_ | ((with_reducible refine q_block_exit ?_ ?_); rfl) | ((with_reducible refine w_region ?_ ?_); kernel_rfl))
    refine ret_v (by first | exact .inr rfl | exact .inl rfl) rfl rfl ?_
    rw [← hf]; rfl
theorem spGo_at {T : List Bool} {V : List Dv} {i : Nat} {x : Dv} (h : V[i]? = some x) : spGo T i (V.drop i) = if x.k = 4 ∧ T[i]? = some false then (i : Int) :: spGo T (i + 1) (V.drop (i + 1)) else spGo T (i + 1) (V.drop (i + 1)) := by
  rw [drop_at h]; rfl
theorem lksE_rng {N : List Nd} {V : List Dv} {K : List Lk} (h : lksE N V K = 0) : netE N V = 0 ∧ K.length ≤ 128 ∧ lkGo V [] K = 0 := by
  unfold lksE at h
  split at h
  · rename_i c; exact absurd h c
  split at h
  · cases h
  · exact ⟨by omega, by omega, h⟩
theorem lkGo_rng {V : List Dv} : ∀ (K P : List Lk), lkGo V P K = 0 → ∀ x ∈ K, faultE V x = 0
  | [], _, _ => by simp
  | k :: K, P, h => by
    unfold lkGo at h
    split at h
    · rename_i c; exact absurd h c
    rename_i c
    intro x hx
    rcases List.mem_cons.1 hx with rfl | hx
    · apply Decidable.byContradiction
      intro hn
      rw [lkE_f hn] at c
      exact c hn
    · exact lkGo_rng K _ h x hx
theorem fault_rng {V : List Dv} {k : Lk} (h : faultE V k = 0) : 0 ≤ k.d ∧ k.d < V.length := by
  unfold faultE at h
  split at h
  · cases h
  · omega
set_option maxHeartbeats 4000000 in
theorem spare_A (N : List Nd) (V : List Dv) (L : List Rw) (K : List Lk) (hG : GCls G) (hN : ∀ x ∈ N, x.n.size ≤ maxLen) (hV : ∀ x ∈ V, x.n.size ≤ maxLen) (h1 : N.length ≤ maxLen) (h2 : V.length ≤ maxLen) (hs : ∀ r ∈ L, r.h.n.size ≤ maxLen) (hm : L.length ≤ maxLen) :
    ACalls Tryd.prog G 23 [netAV N V, .sl 4 (L.map Rw.av), .sl 3 (K.map Lk.av)] [] (.tu [.sl 1 ((spareP N V L K).1.map iv), .v (.int .i64 (spareP N V L K).2)]) [] := by
  refine acalls_of tbOk (enter_of Tryd.func23 (by kernel_rfl) rfl) Tryd.func23 rfl _ Tryd.ntmps23 (Nat.le_of_ble_eq_true rfl) fun X hX => ?_
  subst hX
  unfold spareP
  repeat (first | ((with_reducible refine k_move ?_); refine m_move rfl ?_) | ((with_reducible refine k_assign ?_); refine m_assign rfl ?_) | ((with_reducible refine k_box ?_); refine m_box rfl rfl rfl ?_)  | refine e_nrm ?_ | refine x_none rfl ?_ | with_reducible refine q_then ?_ | with_reducible refine awp_seq ?_ | ((with_reducible refine w_region ?_ ?_); kernel_rfl))
  refine x_call0 (kcheck_A L hG hs hm) (by repeat' (first | exact trivial | exact Ren.v _ | exact Ren.sl _ _ | exact Ren.ep _ | exact Ren.ptr _ _ _ _ rfl | exact Ren.nil _ | exact Ren.own _ _ _ _ ⟨_, rfl⟩ | refine ren_ag ?_ | refine ren_tu ?_ | refine ren_fn ?_ | refine ⟨?_, ?_⟩)) (by repeat' (first | exact trivial | exact RenB.v _ | exact RenB.sl _ _ | exact RenB.ep _ | exact RenB.ptr _ _ _ _ rfl | refine renb_ag ?_ | refine renb_tu ?_ | refine ⟨?_, ?_⟩)) ?_
  repeat (first | ((with_reducible refine k_move ?_); refine m_move rfl ?_) | ((with_reducible refine k_assign ?_); refine m_assign rfl ?_) | ((with_reducible refine k_bin ?_); refine m_binI rfl rfl rfl ?_)  | refine e_nrm ?_ | refine x_none rfl ?_ | with_reducible refine q_then ?_ | with_reducible refine awp_seq ?_ | ((with_reducible refine w_region ?_ ?_); kernel_rfl))
  refine w_cond rfl (fun h => ?_) (fun h => ?_)
  · rw [if_pos (by simpa using h)]
    repeat (first | ((with_reducible refine k_move ?_); refine m_move rfl ?_) | ((with_reducible refine k_assign ?_); refine m_assign rfl ?_)  | refine e_nrm ?_ | refine x_none rfl ?_ | with_reducible refine q_then ?_ | with_reducible refine q_then_ret ?_ | with_reducible refine awp_seq ?_ | with_reducible refine awp_ret ?_ | ((with_reducible refine w_region ?_ ?_); kernel_rfl))
    refine ret0_2 (by first | exact .inr rfl | exact .inl rfl) rfl rfl rfl ?_
    repeat' (first | exact trivial | exact Ren.v _ | exact Ren.sl _ _ | exact Ren.ep _ | exact Ren.ptr _ _ _ _ rfl | exact Ren.nil _ | exact Ren.own _ _ _ _ ⟨_, rfl⟩ | refine ren_ag ?_ | refine ren_tu ?_ | refine ren_fn ?_ | refine ⟨?_, ?_⟩)
  have hc : chk L = 0 := by simpa using h
  rw [if_neg (by simpa using h)]
  repeat (first | ((with_reducible refine k_move ?_); refine m_move rfl ?_) | ((with_reducible refine k_load ?_); refine x_load_agg tbOk rfl rfl rfl rfl (Nat.le_of_ble_eq_true rfl) ?_)  | refine x_none rfl ?_ | with_reducible refine q_then ?_ | with_reducible refine awp_seq ?_ | with_reducible refine awp_skip ?_ | ((with_reducible refine w_region ?_ ?_); kernel_rfl))
  refine x_call0 (lcheck_A N V K hG hN hV h1 h2) (by repeat' (first | exact trivial | exact Ren.v _ | exact Ren.sl _ _ | exact Ren.ep _ | exact Ren.ptr _ _ _ _ rfl | exact Ren.nil _ | exact Ren.own _ _ _ _ ⟨_, rfl⟩ | refine ren_ag ?_ | refine ren_tu ?_ | refine ren_fn ?_ | refine ⟨?_, ?_⟩)) (by repeat' (first | exact trivial | exact RenB.v _ | exact RenB.sl _ _ | exact RenB.ep _ | exact RenB.ptr _ _ _ _ rfl | refine renb_ag ?_ | refine renb_tu ?_ | refine ⟨?_, ?_⟩)) ?_
  repeat (first | ((with_reducible refine k_move ?_); refine m_move rfl ?_) | ((with_reducible refine k_assign ?_); refine m_assign rfl ?_) | ((with_reducible refine k_bin ?_); refine m_binI rfl rfl rfl ?_)  | refine e_nrm ?_ | refine x_none rfl ?_ | with_reducible refine q_then ?_ | with_reducible refine awp_seq ?_ | ((with_reducible refine w_region ?_ ?_); kernel_rfl))
  refine w_cond rfl (fun h => ?_) (fun h => ?_)
  · rw [if_pos (by simpa using h)]
    repeat (first | ((with_reducible refine k_move ?_); refine m_move rfl ?_) | ((with_reducible refine k_assign ?_); refine m_assign rfl ?_)  | refine e_nrm ?_ | refine x_none rfl ?_ | with_reducible refine q_then ?_ | with_reducible refine q_then_ret ?_ | with_reducible refine awp_seq ?_ | with_reducible refine awp_ret ?_ | ((with_reducible refine w_region ?_ ?_); kernel_rfl))
    refine ret0_2 (by first | exact .inr rfl | exact .inl rfl) rfl rfl rfl ?_
    repeat' (first | exact trivial | exact Ren.v _ | exact Ren.sl _ _ | exact Ren.ep _ | exact Ren.ptr _ _ _ _ rfl | exact Ren.nil _ | exact Ren.own _ _ _ _ ⟨_, rfl⟩ | refine ren_ag ?_ | refine ren_tu ?_ | refine ren_fn ?_ | refine ⟨?_, ?_⟩)
  have hK : lksE N V K = 0 := by simpa using h
  rw [if_neg (by simpa using h)]
  obtain ⟨hn, hkl, hgo⟩ := lksE_rng hK
  have hv64 := (netE_len hn).2
  have hkr : ∀ k ∈ K, 0 ≤ k.d ∧ k.d < 64 := fun k hk => by have := fault_rng (lkGo_rng K [] hgo k hk); omega
  repeat (first | ((with_reducible refine k_move ?_); refine m_move rfl ?_)  | refine x_none rfl ?_ | with_reducible refine q_then ?_ | with_reducible refine awp_seq ?_ | with_reducible refine awp_skip ?_ | ((with_reducible refine w_region ?_ ?_); kernel_rfl))
  refine x_call0 (marked_A L hc) (by repeat' (first | exact trivial | exact Ren.v _ | exact Ren.sl _ _ | exact Ren.ep _ | exact Ren.ptr _ _ _ _ rfl | exact Ren.nil _ | exact Ren.own _ _ _ _ ⟨_, rfl⟩ | refine ren_ag ?_ | refine ren_tu ?_ | refine ren_fn ?_ | refine ⟨?_, ?_⟩)) (renb_ag (renbl_self (bsv_pure _))) ?_
  repeat (first | ((with_reducible refine k_alloc ?_); refine x_alloc tbOk rfl rfl ?_)  | refine x_none rfl ?_  )
  with_reducible refine k_store ?_
  refine x_store_all tbOk rfl rfl rfl rfl rfl (by rw [bsv_length, markL_len]) rfl (bsv_one _) ?_
  repeat (first | ((with_reducible refine k_move ?_); refine m_move rfl ?_) | ((with_reducible refine k_call ?_); refine x_len tbOk rfl rfl ?_)  | refine e_nrm ?_ | refine x_none rfl ?_ | with_reducible refine q_then ?_ | with_reducible refine awp_seq ?_ | with_reducible refine awp_block ?_ | ((with_reducible refine w_region ?_ ?_); kernel_rfl))
  refine awp_loop (ι := Nat × List Bool) (fun i => i.1 ≤ K.length ∧ i.2.length = 64 ∧ takenP i.2 (K.drop i.1) = takenP (markL L) K) (fun i => K.length - i.1) (fun v i => [(3, .ptr 3 (v 3) 0), (10, .ptr 10 (v 10) 0), (29, .sl 3 (K.map Lk.av)), (30, .v (.int .i64 (K.map Lk.av).length)), (31, .v (.int .i64 (i.1 : Nat)))]) (fun v i => [(3, .box [.sl 3 (N.map Nd.av), .sl 5 (V.map Dv.av)]), (10, .box (bsv i.2))]) ?_ ?_
  · exact ⟨(0, markL L), ⟨Nat.zero_le _, markL_len L, rfl⟩, trivial, ⟨rfl, rfl, rfl, rfl, rfl, trivial⟩, ⟨rfl, rfl, trivial⟩⟩
  rintro v ⟨k, M⟩ ⟨hk, hM, hf⟩
  simp only at hk hM hf
  dsimp only
  repeat (first | ((with_reducible refine k_bin ?_); refine m_binI rfl rfl rfl ?_)  | refine e_nrm ?_ | refine x_none rfl ?_ | with_reducible refine q_then ?_ | with_reducible refine awp_seq ?_ | ((with_reducible refine w_region ?_ ?_); kernel_rfl))
  refine w_cond rfl (fun h => ?_) (fun h => ?_)
  · have hlt : k < K.length := by simpa using h
    obtain ⟨x, hx⟩ := some_at hlt
    have hy := lk_at hx
    obtain ⟨g0, g1⟩ := hkr x (List.mem_of_getElem? hx)
    rw [drop_at hx] at hf
    repeat (first | ((with_reducible refine k_fieldAddr ?_); refine x_fieldAddr_ptr tbOk rfl rfl rfl rfl ?_) | ((with_reducible refine k_load ?_); refine x_load_one tbOk rfl rfl rfl rfl rfl ?_) | ((with_reducible refine k_load ?_); refine x_load_ep_agg tbOk rfl rfl (Nat.le_of_ble_eq_true rfl) ?_) | ((with_reducible refine k_store ?_); refine m_store tbOk rfl rfl rfl rfl rfl rfl rfl (Nat.le_of_ble_eq_true rfl) rfl ?_) | ((with_reducible refine k_alloc ?_); refine x_alloc tbOk rfl rfl ?_) | ((with_reducible refine k_indexAddr ?_); refine x_indexAddr_n tbOk rfl rfl rfl rfl (by assumption) ?_)  | refine e_nrm ?_ | refine x_none rfl ?_ | with_reducible refine q_then ?_ | with_reducible refine awp_seq ?_ | with_reducible refine awp_block ?_ | with_reducible refine awp_skip ?_ | ((with_reducible refine w_region ?_ ?_); kernel_rfl))
    with_reducible refine k_indexAddr ?_
    refine x_indexAddr_arr tbOk arr64 rfl rfl rfl ⟨g0, by omega⟩ ?_
    repeat (first   | refine x_none rfl ?_  )
    with_reducible refine k_store ?_
    refine m_store tbOk rfl rfl rfl rfl rfl rfl rfl (by rw [bsv_length, hM]; omega) rfl ?_
    repeat (first | ((with_reducible refine k_move ?_); refine m_move rfl ?_) | ((with_reducible refine k_bin ?_); refine x_add_in rfl rfl (by omega) ?_)  | refine e_nrm ?_ | refine x_none rfl ?_ | with_reducible refine q_then ?_ | with_reducible refine q_block ?_ | ((with_reducible refine w_region ?_ ?_); kernel_rfl))
    refine ⟨(k + 1, M.set x.d.toNat true), ⟨by show k + 1 ≤ K.length; omega, by show (M.set x.d.toNat true).length = 64; rw [List.length_set]; exact hM, hf⟩, by show K.length - (k + 1) < K.length - k; omega, ⟨rfl, rfl, rfl, rfl, rfl, trivial⟩, ⟨rfl, ?_, trivial⟩⟩
    exact hc_box (show putL (bsv M) (0 + x.d.toNat * 1) [.v (.bool true)] = bsv (M.set x.d.toNat true) by rw [Nat.zero_add, Nat.mul_one, bsv_set])
  have hlt : ¬ k < K.length := by simpa using h
  rw [List.drop_of_length_le (by omega)] at hf
  have hf' : takenP (markL L) K = M := hf.symm
  rw [hf']
  repeat (first | ((with_reducible refine k_move ?_); refine m_move rfl ?_) | ((with_reducible refine k_assign ?_); refine m_assign rfl ?_) | ((with_reducible refine k_fieldAddr ?_); refine x_fieldAddr_ptr tbOk rfl rfl rfl rfl ?_) | ((with_reducible refine k_load ?_); refine x_load_one tbOk rfl rfl rfl rfl rfl ?_) | ((with_reducible refine k_call ?_); refine x_len tbOk rfl rfl ?_)  | refine e_nrm ?_ | refine x_none rfl ?_ | with_reducible refine q_then ?_ | with_reducible refine q_then_exit ?_ | with_reducible refine awp_seq ?_ | with_reducible refine awp_block ?_ | with_reducible refine awp_exit ?_ | ((with_reducible refine q_block_exit ?_ ?_); rfl) | ((with_reducible refine w_region ?_ ?_); kernel_rfl))
  refine awp_own (t := 13) (s := 59) 3 1 rfl rfl ?_
  refine awp_loop (ι := Nat × List Int) (fun i => i.1 ≤ V.length ∧ i.2.length ≤ i.1 ∧ i.2 ++ spGo M i.1 (V.drop i.1) = spGo M 0 V) (fun i => V.length - i.1) (fun v i => [(10, .ptr 10 (v 10) 0), (13, .own 59 (v 59)), (40, .sl 5 (V.map Dv.av)), (41, .v (.int .i64 (V.map Dv.av).length)), (42, .v (.int .i64 (i.1 : Nat)))]) (fun v i => [(10, .box (bsv M)), (59, .buf 3 1 (i.2.map iv))]) ?_ ?_
  · exact ⟨(0, []), ⟨Nat.zero_le _, Nat.le_refl _, rfl⟩, trivial, ⟨rfl, rfl, rfl, rfl, rfl, trivial⟩, ⟨rfl, rfl, trivial⟩⟩
  rintro v ⟨i, E⟩ ⟨hi, hE, hf⟩
  simp only at hi hE hf
  dsimp only
  repeat (first | ((with_reducible refine k_bin ?_); refine m_binI rfl rfl rfl ?_)  | refine e_nrm ?_ | refine x_none rfl ?_ | with_reducible refine q_then ?_ | with_reducible refine awp_seq ?_ | ((with_reducible refine w_region ?_ ?_); kernel_rfl))
  refine w_cond rfl (fun h => ?_) (fun h => ?_)
  · have hlt : i < V.length := by simpa using h
    obtain ⟨x, hx⟩ := some_at hlt
    have hy := dv_at hx
    obtain ⟨b, hb⟩ := some_at (L := M) (k := i) (by omega)
    rw [spGo_at hx] at hf
    repeat (first | ((with_reducible refine k_move ?_); refine m_move rfl ?_) | ((with_reducible refine k_assign ?_); refine m_assign rfl ?_) | ((with_reducible refine k_fieldAddr ?_); refine x_fieldAddr_ptr tbOk rfl rfl rfl rfl ?_) | ((with_reducible refine k_load ?_); refine x_load_one tbOk rfl rfl rfl rfl rfl ?_) | ((with_reducible refine k_load ?_); refine x_load_ep_agg tbOk rfl rfl (Nat.le_of_ble_eq_true rfl) ?_) | ((with_reducible refine k_store ?_); refine m_store tbOk rfl rfl rfl rfl rfl rfl rfl (Nat.le_of_ble_eq_true rfl) rfl ?_) | ((with_reducible refine k_alloc ?_); refine x_alloc tbOk rfl rfl ?_) | ((with_reducible refine k_indexAddr ?_); refine x_indexAddr_n tbOk rfl rfl rfl rfl (by assumption) ?_) | ((with_reducible refine k_bin ?_); refine m_binI rfl rfl rfl ?_)  | refine e_nrm ?_ | refine x_none rfl ?_ | with_reducible refine q_then ?_ | with_reducible refine awp_seq ?_ | with_reducible refine awp_block ?_ | with_reducible refine awp_skip ?_ | ((with_reducible refine w_region ?_ ?_); kernel_rfl))
    refine x_split rfl rfl (fun c1 => ?_) (fun c1 => ?_)
    repeat (first | ((with_reducible refine k_move ?_); refine m_move rfl ?_)  | refine x_run_t rfl rfl (by first | rfl | assumption) ?_  )
    with_reducible refine k_indexAddr ?_
    refine x_indexAddr_arr tbOk arr64 rfl rfl rfl ⟨by omega, by omega⟩ ?_
    repeat (first   | refine x_run_t rfl rfl (by first | rfl | assumption) ?_  )
    with_reducible refine k_load ?_
    refine x_load_one (y := .v (.bool b)) tbOk rfl rfl rfl rfl (by rw [Nat.zero_add, Nat.mul_one, Int.toNat_natCast]; exact bsv_at hb) ?_
    repeat (first | ((with_reducible refine k_un ?_); refine x_not rfl ?_) | ((with_reducible refine k_pick ?_); refine m_pickt rfl (by first | rfl | assumption) rfl ?_)  | refine e_nrm ?_ | refine x_none rfl ?_ | refine x_run_t rfl rfl (by first | rfl | assumption) ?_ | with_reducible refine q_then ?_ )
    refine w_cond rfl (fun c3 => ?_) (fun c3 => ?_)
    · have hh : x.k = 4 ∧ M[i]? = some false := ⟨by simpa using c1, by rw [hb]; cases b <;> simp_all⟩
      rw [if_pos hh] at hf
      repeat (first | ((with_reducible refine k_move ?_); refine m_move rfl ?_) | ((with_reducible refine k_buildSlice ?_); refine m_buildSlice tbOk rfl rfl rfl rfl rfl (by omega) rfl rfl rfl ?_) | refine x_none rfl ?_  | ((with_reducible refine w_region ?_ ?_); kernel_rfl))
      refine x_append_own tbOk rfl rfl rfl rfl rfl (by decide) rfl rfl rfl rfl rfl (fun x hx => by simp at hx; subst hx; rfl) (by simp only [List.length_map, List.length_cons, List.length_nil]; omega) (by simp only [List.length_map, List.length_cons, List.length_nil]; omega) ?_
      repeat (first | ((with_reducible refine k_move ?_); refine m_move rfl ?_) | ((with_reducible refine k_assign ?_); refine m_assign rfl ?_) | ((with_reducible refine k_bin ?_); refine x_add_in rfl rfl (by omega) ?_)  | refine e_nrm ?_ | refine x_none rfl ?_ | with_reducible refine q_then ?_ | with_reducible refine q_block ?_ | ((with_reducible refine w_region ?_ ?_); kernel_rfl))
      refine ⟨(i + 1, E ++ [(i : Int)]), ⟨by show i + 1 ≤ V.length; omega, by show (E ++ [(i : Int)]).length ≤ i + 1; rw [List.length_append]; simp; omega, by rw [← hf]; simp⟩, by show V.length - (i + 1) < V.length - i; omega, ⟨rfl, rfl, rfl, rfl, rfl, trivial⟩, ⟨rfl, ?_, trivial⟩⟩
      rw [List.map_append]
      rfl
    · have hh : ¬(x.k = 4 ∧ M[i]? = some false) := fun e => by rw [hb] at e; cases b <;> simp_all
      rw [if_neg hh] at hf
      repeat (first | ((with_reducible refine k_move ?_); refine m_move rfl ?_) | ((with_reducible refine k_bin ?_); refine x_add_in rfl rfl (by omega) ?_)  | refine e_nrm ?_ | refine x_none rfl ?_ | with_reducible refine q_then ?_ | with_reducible refine q_block ?_ | with_reducible refine awp_skip ?_ | ((with_reducible refine w_region ?_ ?_); kernel_rfl))
      exact ⟨(i + 1, E), ⟨by show i + 1 ≤ V.length; omega, by show E.length ≤ i + 1; omega, hf⟩, by show V.length - (i + 1) < V.length - i; omega, ⟨rfl, rfl, rfl, rfl, rfl, trivial⟩, ⟨rfl, rfl, trivial⟩⟩
    · have hh : ¬(x.k = 4 ∧ M[i]? = some false) := fun e => by simp [e.1] at c1
      rw [if_neg hh] at hf
      repeat (first | ((with_reducible refine k_move ?_); refine m_move rfl ?_) | ((with_reducible refine k_pick ?_); refine m_pickf rfl (by first | rfl | assumption) rfl ?_) | ((with_reducible refine k_bin ?_); refine x_add_in rfl rfl (by omega) ?_)  | refine e_nrm ?_ | refine x_none rfl ?_ | refine x_skip_t rfl rfl (by first | rfl | assumption) ?_ | with_reducible refine q_then ?_ | with_reducible refine q_block ?_ | with_reducible refine awp_skip ?_ | ((with_reducible refine w_region ?_ ?_); kernel_rfl) | refine w_cond_f rfl (by first | rfl | assumption) ?_)
      exact ⟨(i + 1, E), ⟨by show i + 1 ≤ V.length; omega, by show E.length ≤ i + 1; omega, hf⟩, by show V.length - (i + 1) < V.length - i; omega, ⟨rfl, rfl, rfl, rfl, rfl, trivial⟩, ⟨rfl, rfl, trivial⟩⟩
  · have hlt : ¬ i < V.length := by simpa using h
    rw [List.drop_of_length_le (by omega)] at hf
    have hf' : spGo M 0 V = E := by rw [← hf]; simp [spGo]
    rw [hf']
    repeat (first | ((with_reducible refine k_move ?_); refine m_move rfl ?_) | ((with_reducible refine k_assign ?_); refine m_assign rfl ?_)  | refine e_nrm ?_ | refine x_none rfl ?_ | with_reducible refine q_then ?_ | with_reducible refine q_then_exit ?_ | with_reducible refine awp_seq ?_ | with_reducible refine awp_exit ?_ | with_reducible refine awp_ret ?_ | ((with_reducible refine q_block_exit ?_ ?_); rfl) | ((with_reducible refine w_region ?_ ?_); kernel_rfl))
    refine ret0_2 (by first | exact .inr rfl | exact .inl rfl) rfl rfl rfl ?_
    repeat' (first | exact trivial | exact Ren.v _ | exact Ren.sl _ _ | exact Ren.ep _ | exact Ren.ptr _ _ _ _ rfl | exact Ren.nil _ | exact Ren.own _ _ _ _ ⟨_, rfl⟩ | refine ren_ag ?_ | refine ren_tu ?_ | refine ren_fn ?_ | refine ⟨?_, ?_⟩)
end Go.Proofs.YtaoegbmgombhdaaDoor
