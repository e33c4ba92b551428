/- permitofficefield.Tie, by the abstract machine; conditions: none. -/
import Derived.Test.YtamihjgfncjdoaaDoorAbsX
import Derived.Test.YtamihjgfncjdoaaDoorDkB
import Derived.Test.YtamihjgfncjdoaaDoorNetA
import Derived.Test.YtamihjgfncjdoaaDoorTiQ
set_option linter.unusedVariables false
set_option linter.unusedSimpArgs false
namespace Go.Proofs.YtamihjgfncjdoaaDoor
open Go Go.RowKit
set_option maxRecDepth 10000
variable {G : Nat → Option (List Value)}
theorem kindX2_at {z : Int} (h0 : 0 ≤ z) (h1 : z < 2) : ([.v (.int .i64 1), .v (.int .i64 3)] : List AV)[z.toNat]? = some (.v (.int .i64 (kindX2 z))) := by
  obtain rfl | rfl : z = 0 ∨ z = 1 := by omega
  · rfl
  · rfl
set_option maxHeartbeats 4000000 in
theorem tie_A (D : Dk) (hD : DkOk D) : ACalls Tryd.prog G 7 [.ptr (refB + 0) 0 0] [D.cells] (.tu [.ag [.sl 3 ((tieNs D).map Nd.av), .sl 5 ((tieVs D).map Dv.av)], .sl 1 ((tieSs D).map iv)]) [(tieD D).cells] := by
  refine acalls_of tbOk (enter_of Tryd.func7 (by kernel_rfl) rfl) Tryd.func7 rfl _ Tryd.ntmps7 (Nat.le_of_ble_eq_true rfl) fun X hX => ?_
  subst hX
  repeat (first | ((with_reducible refine k_assign ?_); refine m_assign rfl ?_) | ((with_reducible refine k_alloc ?_); refine x_alloc tbOk rfl rfl ?_)  | refine e_nrm ?_ | refine x_none rfl ?_ | with_reducible (first | refine q_then ?_ | refine awp_seq ?_ | refine awp_block ?_) | ((with_reducible refine w_region ?_ ?_); kernel_rfl))
  refine awp_own_at (s := 32) 50 3 [] [(4, [.own 32 1, .v (.slice none 0 0)])] rfl trivial ⟨⟨_, _, rfl, .hit (.same .nil)⟩, trivial⟩ ?_
  refine awp_loopv (ι := Nat × Nat × Dk × List Nd) (fun v i => v (refB + 0) = 0 ∧ DkOk i.2.2.1 ∧ i.1 + i.2.1 = 6 ∧ i.2.2.2.length = i.2.1 ∧ tieN i.1 i.2.1 i.2.2.1 i.2.2.2 = tieN 6 0 D []) (fun i => i.1) (fun v i => [(0, .ptr (refB + 0) (v (refB + 0)) 0), (2, .ptr 2 (v 2) 0), (3, .v (.slice none 0 0)), (4, .ptr 4 (v 4) 0), (5, .v (.int .i64 (i.2.1 : Nat)))]) (fun v i => [(refB + 0, .box i.2.2.1.cells), (2, .box [.v (.slice none 0 0), .v (.slice none 0 0)]), (4, .box [.own 32 (v 32), .v (.slice none 0 0)]), (32, .buf 50 3 (i.2.2.2.map Nd.av))]) ?_ ?_
  · exact ⟨(6, 0, D, []), ⟨rfl, hD, rfl, rfl, rfl⟩, trivial, ⟨rfl, rfl, rfl, rfl, rfl, trivial⟩, ⟨rfl, rfl, rfl, rfl, trivial⟩⟩
  · rintro v ⟨m, i, E, L⟩ ⟨hv0, hE, hmi, hl, hf⟩
    simp only at hv0 hE hmi hl hf
    dsimp only
    repeat (first | ((with_reducible refine k_move ?_); refine m_move rfl ?_) | ((with_reducible refine k_bin ?_); refine m_binI rfl rfl rfl ?_)  | refine e_nrm ?_ | refine x_none rfl ?_ | with_reducible (first | refine q_then ?_ | refine awp_seq ?_) | ((with_reducible refine w_region ?_ ?_); kernel_rfl))
    refine w_cond rfl (fun h => ?_) (fun h => ?_)
    · obtain ⟨m, rfl⟩ : ∃ k, m = k + 1 := ⟨m - 1, by simp at h; omega⟩
      have e3 : IntKind.i64.wrap ((i : Int).tdiv 3) = ((i / 3 : Nat) : Int) := by
        rw [Int.tdiv_eq_ediv_of_nonneg (by omega), wrap_i64_in (by omega)]
        omega
      have hi6 : 0 ≤ IntKind.i64.wrap ((i : Int).tdiv 3) ∧ IntKind.i64.wrap ((i : Int).tdiv 3) ≤ 6 := by rw [e3]; omega
      repeat (first | ((with_reducible refine k_move ?_); refine m_move rfl ?_) | ((with_reducible refine k_convert ?_); refine x_conv_in tbOk rfl rfl rfl (by first | assumption | exact wrap_u64_in (by omega) | exact wrap_i64_in (by omega) | exact wrap_u8_in (by omega)) ?_) | ((with_reducible refine k_bin ?_); refine x_add_in rfl rfl (by omega) ?_) | ((with_reducible refine k_buildSlice ?_); refine m_buildSlice tbOk rfl rfl rfl rfl rfl (by omega) rfl rfl rfl ?_) | refine x_none rfl ?_ | with_reducible (first | refine q_then ?_ | refine awp_seq ?_ | refine awp_block ?_ | refine awp_skip ?_) | ((with_reducible refine w_region ?_ ?_); kernel_rfl))
      with_reducible refine k_convert ?_
      refine x_conv_bytes Tryd.underlying60 Tryd.underlying5 Tryd.underlying9 rfl rfl (by simp) ?_
      repeat (first   | refine x_none rfl ?_  )
      with_reducible refine k_bin ?_
      refine x_add_s rfl rfl (by rw [strOfNums_size]; exact (by decide : (1:Nat) + 1 ≤ 9223372036854775807)) ?_
      repeat (first | ((with_reducible refine k_move ?_); refine m_move rfl ?_) | ((with_reducible refine k_store ?_); refine m_store tbOk rfl rfl rfl rfl rfl rfl rfl (Nat.le_of_ble_eq_true rfl) rfl ?_) | ((with_reducible refine k_alloc ?_); refine x_alloc tbOk rfl rfl ?_) | ((with_reducible refine k_build ?_); refine m_build tbOk rfl rfl rfl rfl rfl ?_) | ((with_reducible refine k_bin ?_); (first | refine x_add_in rfl rfl (by omega) ?_ | refine x_quo rfl rfl (by first | decide | assumption | omega) ?_))  | refine e_nrm ?_ | refine x_none rfl ?_ | with_reducible (first | refine q_then ?_ | refine awp_seq ?_) | ((with_reducible refine w_region ?_ ?_); kernel_rfl))
      refine zD (ss := [(refB + 0, v (refB + 0))]) (one_A E 2 hE (by omega) (by omega)) (by simp) (in1 rfl rfl) rfl (back1 rfl) ?_
      repeat (first   | refine e_nrm ?_ | with_reducible refine q_then ?_ )
      refine w_cond rfl (fun h => ?_) (fun h => ?_)
      · have h' : E.val 2 = 0 := by simpa using h
        have r30 := E.next.val_range (n := 30) (by omega)
        have a30 := r30.2.1 (by omega)
        have eX : tieX E i = ⟨nmN i, 1 + E.next.val 30, 1 + ((i / 3 : Nat) : Int)⟩ := by unfold tieX; rw [if_pos h']
        have eD : tieXD E = E.next.next := by unfold tieXD; rw [if_pos h']
        repeat (first | ((with_reducible refine k_move ?_); refine m_move rfl ?_)  | refine x_none rfl ?_  | ((with_reducible refine w_region ?_ ?_); kernel_rfl))
        refine zD (ss := [(refB + 0, v (refB + 0))]) (next_A E.next 30 hE.next (by omega) (by omega)) (by simp) (in1 rfl rfl) rfl (back1 rfl) ?_
        repeat (first | ((with_reducible refine k_fieldAddr ?_); refine x_fieldAddr_ptr tbOk rfl rfl rfl rfl ?_) | ((with_reducible refine k_load ?_); (first | refine x_load_one tbOk rfl rfl rfl rfl rfl ?_ | refine x_load_agg tbOk rfl rfl rfl rfl (Nat.le_of_ble_eq_true rfl) ?_)) | ((with_reducible refine k_store ?_); refine m_store tbOk rfl rfl rfl rfl rfl rfl rfl (Nat.le_of_ble_eq_true rfl) rfl ?_) | ((with_reducible refine k_bin ?_); refine x_add_in rfl rfl (by omega) ?_) | ((with_reducible refine k_buildSlice ?_); refine m_buildSlice tbOk rfl rfl rfl rfl rfl (by omega) rfl rfl rfl ?_) | refine e_nrm ?_ | refine x_none rfl ?_ | with_reducible refine q_then ?_ | ((with_reducible refine w_region ?_ ?_); kernel_rfl))
        refine x_append_own tbOk rfl rfl rfl rfl rfl (by decide) rfl rfl rfl rfl rfl (fun x hx => by simp at hx; subst hx; rfl) (by simp only [List.length_map, List.length_cons, List.length_nil]; omega) (by simp only [List.length_map, List.length_cons, List.length_nil]; omega) ?_
        repeat (first | ((with_reducible refine k_move ?_); refine m_move rfl ?_) | ((with_reducible refine k_assign ?_); refine m_assign rfl ?_) | ((with_reducible refine k_fieldAddr ?_); refine x_fieldAddr_ptr tbOk rfl rfl rfl rfl ?_) | ((with_reducible refine k_store ?_); refine m_store tbOk rfl rfl rfl rfl rfl rfl rfl (Nat.le_of_ble_eq_true rfl) rfl ?_) | ((with_reducible refine k_bin ?_); refine x_add_in rfl rfl (by omega) ?_)  | refine e_nrm ?_ | refine x_none rfl ?_ | with_reducible (first | refine q_then ?_ | refine q_block ?_) | ((with_reducible refine w_region ?_ ?_); kernel_rfl))
        rw [tieN, eD, eX] at hf
        refine ⟨(m, i + 1, E.next.next, L ++ [(⟨nmN i, 1 + E.next.val 30, 1 + ((i / 3 : Nat) : Int)⟩ : Nd)]), ⟨hv0, hE.next.next, by show m + (i + 1) = 6; omega, by simp [hl], hf⟩, by show m < m + 1; omega, ⟨rfl, rfl, rfl, rfl, congrArg (fun z => AV.v (.int .i64 z)) (by show (i : Int) + 1 = ((i + 1 : Nat) : Int); omega), trivial⟩, ⟨rfl, rfl, rfl, ?_, trivial⟩⟩
        rw [List.map_append, ← e3]; rfl
      · have h' : ¬ E.val 2 = 0 := by simpa using h
        have eX : tieX E i = ⟨nmN i, 0, 1 + ((i / 3 : Nat) : Int)⟩ := by unfold tieX; rw [if_neg h']
        have eD : tieXD E = E.next := by unfold tieXD; rw [if_neg h']
        repeat (first | ((with_reducible refine k_fieldAddr ?_); refine x_fieldAddr_ptr tbOk rfl rfl rfl rfl ?_) | ((with_reducible refine k_load ?_); (first | refine x_load_one tbOk rfl rfl rfl rfl rfl ?_ | refine x_load_agg tbOk rfl rfl rfl rfl (Nat.le_of_ble_eq_true rfl) ?_)) | ((with_reducible refine k_buildSlice ?_); refine m_buildSlice tbOk rfl rfl rfl rfl rfl (by omega) rfl rfl rfl ?_) | refine x_none rfl ?_ | with_reducible (first | refine q_then ?_ | refine awp_skip ?_) | ((with_reducible refine w_region ?_ ?_); kernel_rfl))
        refine x_append_own tbOk rfl rfl rfl rfl rfl (by decide) rfl rfl rfl rfl rfl (fun x hx => by simp at hx; subst hx; rfl) (by simp only [List.length_map, List.length_cons, List.length_nil]; omega) (by simp only [List.length_map, List.length_cons, List.length_nil]; omega) ?_
        repeat (first | ((with_reducible refine k_move ?_); refine m_move rfl ?_) | ((with_reducible refine k_assign ?_); refine m_assign rfl ?_) | ((with_reducible refine k_fieldAddr ?_); refine x_fieldAddr_ptr tbOk rfl rfl rfl rfl ?_) | ((with_reducible refine k_store ?_); refine m_store tbOk rfl rfl rfl rfl rfl rfl rfl (Nat.le_of_ble_eq_true rfl) rfl ?_) | ((with_reducible refine k_bin ?_); refine x_add_in rfl rfl (by omega) ?_)  | refine e_nrm ?_ | refine x_none rfl ?_ | with_reducible (first | refine q_then ?_ | refine q_block ?_) | ((with_reducible refine w_region ?_ ?_); kernel_rfl))
        rw [tieN, eD, eX] at hf
        refine ⟨(m, i + 1, E.next, L ++ [(⟨nmN i, 0, 1 + ((i / 3 : Nat) : Int)⟩ : Nd)]), ⟨hv0, hE.next, by show m + (i + 1) = 6; omega, by simp [hl], hf⟩, by show m < m + 1; omega, ⟨rfl, rfl, rfl, rfl, congrArg (fun z => AV.v (.int .i64 z)) (by show (i : Int) + 1 = ((i + 1 : Nat) : Int); omega), trivial⟩, ⟨rfl, rfl, rfl, ?_, trivial⟩⟩
        rw [List.map_append, ← e3]; rfl
    · obtain rfl : m = 0 := by simp at h; omega
      have e1 : tieE D = E := by unfold tieE; rw [← hf]; rfl
      have e2 : tieNs D = L := by unfold tieNs; rw [← hf]; rfl
      have r2 := E.val_range (n := 2) (by omega)
      have a2 := r2.2.1 (by omega)
      have r2' := E.next.val_range (n := 2) (by omega)
      have a2' := r2'.2.1 (by omega)
      have hk := kindX2_at r2.1 a2
      have hE2 := hE.next.next
      have eF : tieF D = E.next.next := by unfold tieF; rw [e1]
      have eV : tieV0 D = tieV (kindX2 (E.val 2)) (1 + E.next.val 2) := by unfold tieV0; rw [e1]
      rw [e2]
      unfold tieVs tieSs tieD
      rw [eF, eV]
      repeat (first | ((with_reducible refine k_move ?_); refine m_move rfl ?_) | ((with_reducible refine k_build ?_); refine m_build tbOk rfl rfl rfl rfl rfl ?_) | ((with_reducible refine k_buildSlice ?_); refine m_buildSlice tbOk rfl rfl rfl rfl rfl (by omega) rfl rfl rfl ?_) | refine x_none rfl ?_ | with_reducible (first | refine q_then ?_ | refine q_then_exit ?_ | refine awp_seq ?_ | refine awp_exit ?_) | ((with_reducible refine q_block_exit ?_ ?_); rfl) | ((with_reducible refine w_draw mixd ?_ ?_); kernel_rfl))
      refine zD (ss := [(refB + 0, v (refB + 0))]) (next_A E 2 hE (by omega) (by omega)) (by simp) (in1 rfl rfl) rfl (back1 rfl) ?_
      repeat (first | ((with_reducible refine k_move ?_); refine m_move rfl ?_) | ((with_reducible refine k_load ?_); refine x_load_ep_one tbOk rfl rfl rfl ?_) | ((with_reducible refine k_indexAddr ?_); refine x_indexAddr tbOk rfl rfl rfl rfl (by omega) (by assumption) ?_)  | refine x_none rfl ?_  )
      refine zD (ss := [(refB + 0, v (refB + 0))]) (next_A E.next 2 hE.next (by omega) (by omega)) (by simp) (in1 rfl rfl) rfl (back1 rfl) ?_
      repeat (first | ((with_reducible refine k_build ?_); refine m_build tbOk rfl rfl rfl rfl rfl ?_) | ((with_reducible refine k_bin ?_); refine x_add_in rfl rfl (by omega) ?_) | refine x_none rfl ?_  )
      with_reducible refine k_buildSlice ?_
      refine x_buildSlice_own tbOk rfl rfl rfl rfl rfl (by omega) rfl rfl rfl rfl ?_
      repeat (first | ((with_reducible refine k_fieldAddr ?_); refine x_fieldAddr_ptr tbOk rfl rfl rfl rfl ?_) | ((with_reducible refine k_store ?_); refine m_store tbOk rfl rfl rfl rfl rfl rfl rfl (Nat.le_of_ble_eq_true rfl) rfl ?_) | refine e_drw (by kernel_rfl) ?_ | refine x_none rfl ?_ | with_reducible (first | refine q_then ?_ | refine awp_seq ?_) | ((with_reducible refine w_region ?_ ?_); kernel_rfl))
      with_reducible refine k_buildSlice ?_
      refine x_buildSlice_own tbOk rfl rfl rfl rfl rfl (by omega) rfl rfl rfl rfl ?_
      repeat (first | ((with_reducible refine k_move ?_); refine m_move rfl ?_) | ((with_reducible refine k_assign ?_); refine m_assign rfl ?_) | refine e_nrm ?_ | refine x_none rfl ?_ | with_reducible (first | refine q_then ?_ | refine awp_seq ?_) | ((with_reducible refine w_region ?_ ?_); kernel_rfl))
      refine zD (ss := [(refB + 0, v (refB + 0))]) (next_A E.next.next 4 hE2 (by omega) (by omega)) (by simp) (in1 rfl rfl) rfl (back1 rfl) ?_
      repeat (first | ((with_reducible refine k_assign ?_); refine m_assign rfl ?_) | ((with_reducible refine k_bin ?_); refine m_binI rfl rfl rfl ?_)  | refine e_nrm ?_ | refine x_none rfl ?_ | with_reducible (first | refine q_then ?_ | refine awp_seq ?_ | refine awp_block ?_) | ((with_reducible refine w_region ?_ ?_); kernel_rfl))
      have r3 := E.next.next.next.val_range (n := 2) (by omega)
      have a3 := r3.2.1 (by omega)
      refine w_cond rfl (fun h => ?_) (fun h => ?_)
      · have h' : E.next.next.val 4 = 0 := by simpa using h
        rw [if_pos h', if_pos h', if_pos (.inl h')]
        repeat (first | ((with_reducible refine k_fieldAddr ?_); refine x_fieldAddr_ptr tbOk rfl rfl rfl rfl ?_) | ((with_reducible refine k_load ?_); refine x_load_one tbOk rfl rfl rfl rfl rfl ?_) | ((with_reducible refine k_build ?_); refine m_build tbOk rfl rfl rfl rfl rfl ?_) | ((with_reducible refine k_buildSlice ?_); refine m_buildSlice tbOk rfl rfl rfl rfl rfl (by omega) rfl rfl rfl ?_) | refine x_none rfl ?_ | with_reducible refine awp_seq ?_ | ((with_reducible refine w_region ?_ ?_); kernel_rfl))
        refine x_append_own tbOk rfl rfl rfl rfl rfl (by decide) rfl rfl rfl rfl rfl (fun x hx => by simp at hx; subst hx; rfl) (Nat.le_of_ble_eq_true rfl) (Nat.le_of_ble_eq_true rfl) ?_
        repeat (first | ((with_reducible refine k_move ?_); refine m_move rfl ?_) | ((with_reducible refine k_fieldAddr ?_); refine x_fieldAddr_ptr tbOk rfl rfl rfl rfl ?_) | ((with_reducible refine k_store ?_); refine m_store tbOk rfl rfl rfl rfl rfl rfl rfl (Nat.le_of_ble_eq_true rfl) rfl ?_)  | refine e_nrm ?_ | refine x_none rfl ?_ | with_reducible refine q_then ?_ | ((with_reducible refine w_region ?_ ?_); kernel_rfl))
        refine zD (ss := [(refB + 0, v (refB + 0))]) (next_A E.next.next.next 2 hE2.next (by omega) (by omega)) (by simp) (in1 rfl rfl) rfl (back1 rfl) ?_
        repeat (first | ((with_reducible refine k_bin ?_); refine x_add_in rfl rfl (by omega) ?_) | ((with_reducible refine k_buildSlice ?_); refine m_buildSlice tbOk rfl rfl rfl rfl rfl (by omega) rfl rfl rfl ?_) | refine x_none rfl ?_  )
        refine x_append_own tbOk rfl rfl rfl rfl rfl (by decide) rfl rfl rfl rfl rfl (fun x hx => by simp at hx; subst hx; rfl) (Nat.le_of_ble_eq_true rfl) (Nat.le_of_ble_eq_true rfl) ?_
        repeat (first | ((with_reducible refine k_move ?_); refine m_move rfl ?_) | ((with_reducible refine k_assign ?_); refine m_assign rfl ?_) | ((with_reducible refine k_load ?_); refine x_load_agg tbOk rfl rfl rfl rfl (Nat.le_of_ble_eq_true rfl) ?_) | ((with_reducible refine k_store ?_); refine m_store tbOk rfl rfl rfl rfl rfl rfl rfl (Nat.le_of_ble_eq_true rfl) rfl ?_)  | refine e_nrm ?_ | refine x_none rfl ?_ | with_reducible (first | refine q_then ?_ | refine q_block ?_ | refine awp_seq ?_ | refine awp_ret ?_) | ((with_reducible refine w_region ?_ ?_); kernel_rfl))
        refine ret1_ct (by first | exact .inr rfl | exact .inl rfl) rfl rfl rfl rfl rfl rfl rfl hv0 ?_ (by repeat' (first | exact trivial | exact Ren.v _ | exact Ren.sl _ _ | exact Ren.ep _ | exact Ren.ptr _ _ _ _ rfl | exact Ren.bs _ _ _ _ _ rfl | exact Ren.nil _ | exact Ren.own _ _ _ _ ⟨_, rfl⟩ | refine ren_ag ?_ | refine ren_tu ?_ | refine ren_fn ?_ | refine ⟨?_, ?_⟩))
        repeat' (first | exact trivial | exact Ren.v _ | exact Ren.sl _ _ | exact Ren.ep _ | exact Ren.ptr _ _ _ _ rfl | exact Ren.bs _ _ _ _ _ rfl | exact Ren.nil _ | exact Ren.own _ _ _ _ ⟨_, rfl⟩ | refine ren_ag ?_ | refine ren_tu ?_ | refine ren_fn ?_ | refine ⟨?_, ?_⟩)
      · have h' : ¬ E.next.next.val 4 = 0 := by simpa using h
        rw [if_neg h', if_neg h']
        repeat (first | ((with_reducible refine k_assign ?_); refine m_assign rfl ?_) | ((with_reducible refine k_bin ?_); refine m_binI rfl rfl rfl ?_)  | refine e_nrm ?_ | refine x_none rfl ?_ | with_reducible (first | refine q_then ?_ | refine awp_seq ?_) | ((with_reducible refine w_region ?_ ?_); kernel_rfl))
        refine w_cond rfl (fun h => ?_) (fun h => ?_)
        · have h1 : E.next.next.val 4 = 1 := by simpa using h
          rw [if_pos h1, if_pos h1, if_pos (.inr (.inl h1))]
          repeat (first | ((with_reducible refine k_move ?_); refine m_move rfl ?_) | ((with_reducible refine k_fieldAddr ?_); refine x_fieldAddr_ptr tbOk rfl rfl rfl rfl ?_) | ((with_reducible refine k_load ?_); refine x_load_one tbOk rfl rfl rfl rfl rfl ?_)  | refine x_none rfl ?_ | with_reducible refine awp_seq ?_ | ((with_reducible refine w_draw mixd ?_ ?_); kernel_rfl))
          refine zD (ss := [(refB + 0, v (refB + 0))]) (next_A E.next.next.next 2 hE2.next (by omega) (by omega)) (by simp) (in1 rfl rfl) rfl (back1 rfl) ?_
          repeat (first | ((with_reducible refine k_build ?_); refine m_build tbOk rfl rfl rfl rfl rfl ?_) | ((with_reducible refine k_bin ?_); refine x_add_in rfl rfl (by omega) ?_) | ((with_reducible refine k_buildSlice ?_); refine m_buildSlice tbOk rfl rfl rfl rfl rfl (by omega) rfl rfl rfl ?_) | refine x_none rfl ?_  )
          refine x_append_own tbOk rfl rfl rfl rfl rfl (by decide) rfl rfl rfl rfl rfl (fun x hx => by simp at hx; subst hx; rfl) (Nat.le_of_ble_eq_true rfl) (Nat.le_of_ble_eq_true rfl) ?_
          repeat (first | ((with_reducible refine k_move ?_); refine m_move rfl ?_) | ((with_reducible refine k_fieldAddr ?_); refine x_fieldAddr_ptr tbOk rfl rfl rfl rfl ?_) | ((with_reducible refine k_store ?_); refine m_store tbOk rfl rfl rfl rfl rfl rfl rfl (Nat.le_of_ble_eq_true rfl) rfl ?_) | ((with_reducible refine k_buildSlice ?_); refine m_buildSlice tbOk rfl rfl rfl rfl rfl (by omega) rfl rfl rfl ?_) | refine e_drw (by kernel_rfl) ?_ | refine x_none rfl ?_ | with_reducible refine q_then ?_ | ((with_reducible refine w_region ?_ ?_); kernel_rfl))
          refine x_append_own tbOk rfl rfl rfl rfl rfl (by decide) rfl rfl rfl rfl rfl (fun x hx => by simp at hx; subst hx; rfl) (Nat.le_of_ble_eq_true rfl) (Nat.le_of_ble_eq_true rfl) ?_
          repeat (first | ((with_reducible refine k_move ?_); refine m_move rfl ?_) | ((with_reducible refine k_assign ?_); refine m_assign rfl ?_) | ((with_reducible refine k_load ?_); refine x_load_agg tbOk rfl rfl rfl rfl (Nat.le_of_ble_eq_true rfl) ?_) | ((with_reducible refine k_store ?_); refine m_store tbOk rfl rfl rfl rfl rfl rfl rfl (Nat.le_of_ble_eq_true rfl) rfl ?_)  | refine e_nrm ?_ | refine x_none rfl ?_ | with_reducible (first | refine q_then ?_ | refine q_block ?_ | refine awp_seq ?_ | refine awp_ret ?_) | ((with_reducible refine w_region ?_ ?_); kernel_rfl))
          refine ret1_ct (by first | exact .inr rfl | exact .inl rfl) rfl rfl rfl rfl rfl rfl rfl hv0 ?_ (by repeat' (first | exact trivial | exact Ren.v _ | exact Ren.sl _ _ | exact Ren.ep _ | exact Ren.ptr _ _ _ _ rfl | exact Ren.bs _ _ _ _ _ rfl | exact Ren.nil _ | exact Ren.own _ _ _ _ ⟨_, rfl⟩ | refine ren_ag ?_ | refine ren_tu ?_ | refine ren_fn ?_ | refine ⟨?_, ?_⟩))
          repeat' (first | exact trivial | exact Ren.v _ | exact Ren.sl _ _ | exact Ren.ep _ | exact Ren.ptr _ _ _ _ rfl | exact Ren.bs _ _ _ _ _ rfl | exact Ren.nil _ | exact Ren.own _ _ _ _ ⟨_, rfl⟩ | refine ren_ag ?_ | refine ren_tu ?_ | refine ren_fn ?_ | refine ⟨?_, ?_⟩)
        · have h1 : ¬ E.next.next.val 4 = 1 := by simpa using h
          rw [if_neg h1, if_neg h1]
          repeat (first | ((with_reducible refine k_assign ?_); refine m_assign rfl ?_) | ((with_reducible refine k_bin ?_); refine m_binI rfl rfl rfl ?_)  | refine e_nrm ?_ | refine x_none rfl ?_ | with_reducible (first | refine q_then ?_ | refine awp_seq ?_) | ((with_reducible refine w_region ?_ ?_); kernel_rfl))
          refine w_cond rfl (fun h => ?_) (fun h => ?_)
          · have h2 : E.next.next.val 4 = 2 := by simpa using h
            rw [if_pos h2, if_pos (.inr (.inr h2))]
            have hz : E.next.next.next.val 2 = 0 ∨ E.next.next.next.val 2 = 1 := by omega
            have hn := next_A (G := X.G) E.next.next.next 2 hE2.next (by omega) (by omega)
            rcases hz with hz | hz
            · rw [hz] at hn ⊢
              repeat (first | ((with_reducible refine k_move ?_); refine m_move rfl ?_)  | refine x_none rfl ?_  | ((with_reducible refine w_region ?_ ?_); kernel_rfl))
              refine zD (ss := [(refB + 0, v (refB + 0))]) (hn) (by simp) (in1 rfl rfl) rfl (back1 rfl) ?_
              repeat (first | ((with_reducible refine k_bin ?_); refine x_add_in rfl rfl (by omega) ?_)  | refine x_none rfl ?_  )
              with_reducible refine k_indexAddr ?_
              refine x_indexAddr_own tbOk rfl rfl rfl rfl rfl rfl (by constructor <;> decide) ?_
              repeat (first   | refine x_none rfl ?_  )
              with_reducible refine k_store ?_
              refine x_store_po (L' := (tieS0.set 1 1).map iv) tbOk rfl rfl rfl rfl rfl rfl rfl rfl rfl (Nat.le_of_ble_eq_true rfl) rfl (fun x hx => by obtain ⟨z, _, rfl⟩ := List.mem_map.1 hx; rfl) rfl ?_
              repeat (first | ((with_reducible refine k_move ?_); refine m_move rfl ?_) | ((with_reducible refine k_assign ?_); refine m_assign rfl ?_) | ((with_reducible refine k_load ?_); refine x_load_agg tbOk rfl rfl rfl rfl (Nat.le_of_ble_eq_true rfl) ?_) | ((with_reducible refine k_store ?_); refine m_store tbOk rfl rfl rfl rfl rfl rfl rfl (Nat.le_of_ble_eq_true rfl) rfl ?_)  | refine e_nrm ?_ | refine x_none rfl ?_ | with_reducible (first | refine q_then ?_ | refine q_block ?_ | refine awp_seq ?_ | refine awp_ret ?_) | ((with_reducible refine w_region ?_ ?_); kernel_rfl))
              refine ret1_ct (by first | exact .inr rfl | exact .inl rfl) rfl rfl rfl rfl rfl rfl rfl hv0 ?_ (by repeat' (first | exact trivial | exact Ren.v _ | exact Ren.sl _ _ | exact Ren.ep _ | exact Ren.ptr _ _ _ _ rfl | exact Ren.bs _ _ _ _ _ rfl | exact Ren.nil _ | exact Ren.own _ _ _ _ ⟨_, rfl⟩ | refine ren_ag ?_ | refine ren_tu ?_ | refine ren_fn ?_ | refine ⟨?_, ?_⟩))
              repeat' (first | exact trivial | exact Ren.v _ | exact Ren.sl _ _ | exact Ren.ep _ | exact Ren.ptr _ _ _ _ rfl | exact Ren.bs _ _ _ _ _ rfl | exact Ren.nil _ | exact Ren.own _ _ _ _ ⟨_, rfl⟩ | refine ren_ag ?_ | refine ren_tu ?_ | refine ren_fn ?_ | refine ⟨?_, ?_⟩)
            · rw [hz] at hn ⊢
              repeat (first | ((with_reducible refine k_move ?_); refine m_move rfl ?_)  | refine x_none rfl ?_  | ((with_reducible refine w_region ?_ ?_); kernel_rfl))
              refine zD (ss := [(refB + 0, v (refB + 0))]) (hn) (by simp) (in1 rfl rfl) rfl (back1 rfl) ?_
              repeat (first | ((with_reducible refine k_bin ?_); refine x_add_in rfl rfl (by omega) ?_)  | refine x_none rfl ?_  )
              with_reducible refine k_indexAddr ?_
              refine x_indexAddr_own tbOk rfl rfl rfl rfl rfl rfl (by constructor <;> decide) ?_
              repeat (first   | refine x_none rfl ?_  )
              with_reducible refine k_store ?_
              refine x_store_po (L' := (tieS0.set 2 1).map iv) tbOk rfl rfl rfl rfl rfl rfl rfl rfl rfl (Nat.le_of_ble_eq_true rfl) rfl (fun x hx => by obtain ⟨z, _, rfl⟩ := List.mem_map.1 hx; rfl) rfl ?_
              repeat (first | ((with_reducible refine k_move ?_); refine m_move rfl ?_) | ((with_reducible refine k_assign ?_); refine m_assign rfl ?_) | ((with_reducible refine k_load ?_); refine x_load_agg tbOk rfl rfl rfl rfl (Nat.le_of_ble_eq_true rfl) ?_) | ((with_reducible refine k_store ?_); refine m_store tbOk rfl rfl rfl rfl rfl rfl rfl (Nat.le_of_ble_eq_true rfl) rfl ?_)  | refine e_nrm ?_ | refine x_none rfl ?_ | with_reducible (first | refine q_then ?_ | refine q_block ?_ | refine awp_seq ?_ | refine awp_ret ?_) | ((with_reducible refine w_region ?_ ?_); kernel_rfl))
              refine ret1_ct (by first | exact .inr rfl | exact .inl rfl) rfl rfl rfl rfl rfl rfl rfl hv0 ?_ (by repeat' (first | exact trivial | exact Ren.v _ | exact Ren.sl _ _ | exact Ren.ep _ | exact Ren.ptr _ _ _ _ rfl | exact Ren.bs _ _ _ _ _ rfl | exact Ren.nil _ | exact Ren.own _ _ _ _ ⟨_, rfl⟩ | refine ren_ag ?_ | refine ren_tu ?_ | refine ren_fn ?_ | refine ⟨?_, ?_⟩))
              repeat' (first | exact trivial | exact Ren.v _ | exact Ren.sl _ _ | exact Ren.ep _ | exact Ren.ptr _ _ _ _ rfl | exact Ren.bs _ _ _ _ _ rfl | exact Ren.nil _ | exact Ren.own _ _ _ _ ⟨_, rfl⟩ | refine ren_ag ?_ | refine ren_tu ?_ | refine ren_fn ?_ | refine ⟨?_, ?_⟩)
          · have h2 : ¬ E.next.next.val 4 = 2 := by simpa using h
            rw [if_neg h2, if_neg (by omega)]
            repeat (first | ((with_reducible refine k_move ?_); refine m_move rfl ?_) | ((with_reducible refine k_assign ?_); refine m_assign rfl ?_) | ((with_reducible refine k_load ?_); refine x_load_agg tbOk rfl rfl rfl rfl (Nat.le_of_ble_eq_true rfl) ?_) | ((with_reducible refine k_store ?_); refine m_store tbOk rfl rfl rfl rfl rfl rfl rfl (Nat.le_of_ble_eq_true rfl) rfl ?_)  | refine e_nrm ?_ | refine x_none rfl ?_ | with_reducible (first | refine q_then ?_ | refine q_block ?_ | refine awp_seq ?_ | refine awp_skip ?_ | refine awp_ret ?_) | ((with_reducible refine w_region ?_ ?_); kernel_rfl))
            refine ret1_ct (by first | exact .inr rfl | exact .inl rfl) rfl rfl rfl rfl rfl rfl rfl hv0 ?_ (by repeat' (first | exact trivial | exact Ren.v _ | exact Ren.sl _ _ | exact Ren.ep _ | exact Ren.ptr _ _ _ _ rfl | exact Ren.bs _ _ _ _ _ rfl | exact Ren.nil _ | exact Ren.own _ _ _ _ ⟨_, rfl⟩ | refine ren_ag ?_ | refine ren_tu ?_ | refine ren_fn ?_ | refine ⟨?_, ?_⟩))
            repeat' (first | exact trivial | exact Ren.v _ | exact Ren.sl _ _ | exact Ren.ep _ | exact Ren.ptr _ _ _ _ rfl | exact Ren.bs _ _ _ _ _ rfl | exact Ren.nil _ | exact Ren.own _ _ _ _ ⟨_, rfl⟩ | refine ren_ag ?_ | refine ren_tu ?_ | refine ren_fn ?_ | refine ⟨?_, ?_⟩)
end Go.Proofs.YtamihjgfncjdoaaDoor
