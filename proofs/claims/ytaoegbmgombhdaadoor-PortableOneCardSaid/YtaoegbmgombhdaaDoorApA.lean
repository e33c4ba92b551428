/- portable.Applied, by the abstract machine; conditions: the table of classes stands. -/
import Derived.Test.YtaoegbmgombhdaaDoorPtB
import Derived.Test.YtaoegbmgombhdaaDoorDkA
set_option linter.unusedVariables false
set_option linter.unusedSimpArgs false
namespace Go.Proofs.YtaoegbmgombhdaaDoor
open Go Go.RowKit
set_option maxRecDepth 10000
variable {G : Nat → Option (List Value)}
def appGo : Nat → List Bool → List Int
  | _, [] => []
  | i, b :: l => if b = true then (i : Int) :: appGo (i + 1) l else appGo (i + 1) l
def appliedP (L : List Rw) : List Int := if chk L ≠ 0 then [] else appGo 0 (markL L)
set_option maxHeartbeats 1000000 in
theorem applied_A (L : List Rw) (hG : GCls G) (hs : ∀ r ∈ L, r.h.n.size ≤ maxLen) (hm : L.length ≤ maxLen) : ACalls Tryd.prog G 21 [.sl 4 (L.map Rw.av)] [] (.sl 1 ((appliedP L).map iv)) [] := by
  refine acalls_of tbOk (enter_of Tryd.func21 (by kernel_rfl) rfl) Tryd.func21 rfl _ Tryd.ntmps21 (Nat.le_of_ble_eq_true rfl) fun X hX => ?_
  subst hX
  unfold appliedP
  repeat (first | ((with_reducible refine k_move ?_); refine m_move rfl ?_) | ((with_reducible refine k_assign ?_); refine m_assign rfl ?_)  | refine e_nrm ?_ | refine x_none rfl ?_ | with_reducible refine q_then ?_ | with_reducible refine awp_seq ?_ | ((with_reducible refine w_region ?_ ?_); kernel_rfl))
  refine x_call0 (kcheck_A L hG hs hm) (by repeat' (first | exact trivial | exact Ren.v _ | exact Ren.sl _ _ | exact Ren.ep _ | exact Ren.ptr _ _ _ _ rfl | exact Ren.nil _ | exact Ren.own _ _ _ _ ⟨_, rfl⟩ | refine ren_ag ?_ | refine ren_tu ?_ | refine ren_fn ?_ | refine ⟨?_, ?_⟩)) (by repeat' (first | exact trivial | exact RenB.v _ | exact RenB.sl _ _ | exact RenB.ep _ | exact RenB.ptr _ _ _ _ rfl | refine renb_ag ?_ | refine renb_tu ?_ | refine ⟨?_, ?_⟩)) ?_
  repeat (first | ((with_reducible refine k_bin ?_); refine m_binI rfl rfl rfl ?_)  | refine e_nrm ?_ | refine x_none rfl ?_ | with_reducible refine q_then ?_ )
  refine w_cond rfl (fun h => ?_) (fun h => ?_)
  · rw [if_pos (by simpa using h)]
    repeat (first | ((with_reducible refine k_assign ?_); refine m_assign rfl ?_)  | refine e_nrm ?_ | refine x_none rfl ?_ | with_reducible refine q_then ?_ | with_reducible refine q_then_ret ?_ | with_reducible refine awp_seq ?_ | with_reducible refine awp_ret ?_ | ((with_reducible refine w_region ?_ ?_); kernel_rfl))
    refine ret0_1 (by first | exact .inr rfl | exact .inl rfl) rfl rfl ?_
    repeat' (first | exact trivial | exact Ren.v _ | exact Ren.sl _ _ | exact Ren.ep _ | exact Ren.ptr _ _ _ _ rfl | exact Ren.nil _ | exact Ren.own _ _ _ _ ⟨_, rfl⟩ | refine ren_ag ?_ | refine ren_tu ?_ | refine ren_fn ?_ | refine ⟨?_, ?_⟩)
  · have hc : chk L = 0 := by simpa using h
    rw [if_neg (by simp [hc])]
    have hM := markL_len L
    repeat (first | ((with_reducible refine k_move ?_); refine m_move rfl ?_) | ((with_reducible refine k_assign ?_); refine m_assign rfl ?_)  | refine e_nrm ?_ | refine x_none rfl ?_ | with_reducible refine q_then ?_ | with_reducible refine awp_seq ?_ | with_reducible refine awp_skip ?_ | ((with_reducible refine w_region ?_ ?_); kernel_rfl))
    refine x_call0 (marked_A L hc) (by repeat' (first | exact trivial | exact Ren.v _ | exact Ren.sl _ _ | exact Ren.ep _ | exact Ren.ptr _ _ _ _ rfl | exact Ren.nil _ | exact Ren.own _ _ _ _ ⟨_, rfl⟩ | refine ren_ag ?_ | refine ren_tu ?_ | refine ren_fn ?_ | refine ⟨?_, ?_⟩)) (renb_ag (renbl_self (bsv_pure _))) ?_
    generalize markL L = M at hM
    repeat (first | ((with_reducible refine k_move ?_); refine m_move rfl ?_)  | refine e_nrm ?_ | refine x_none rfl ?_ | with_reducible refine q_then ?_ | with_reducible refine awp_block ?_ )
    refine awp_own (t := 3) (s := 19) 3 1 rfl rfl ?_
    refine awp_loop (ι := Nat × List Int) (fun i => i.1 ≤ 64 ∧ i.2.length ≤ i.1 ∧ i.2 ++ appGo i.1 (M.drop i.1) = appGo 0 M) (fun i => 64 - i.1) (fun v i => [(3, .own 19 (v 19)), (10, .ag (bsv M)), (11, .v (.int .i64 (i.1 : Nat)))]) (fun v i => [(19, .buf 3 1 (i.2.map iv))]) ?_ ?_
    · exact ⟨(0, []), ⟨Nat.zero_le _, Nat.le_refl _, rfl⟩, trivial, ⟨rfl, rfl, rfl, trivial⟩, ⟨rfl, trivial⟩⟩
    · rintro v ⟨i, E⟩ ⟨hi, hE, hf⟩
      simp only at hi hE hf
      dsimp only
      repeat (first | ((with_reducible refine k_bin ?_); refine m_binI rfl rfl rfl ?_)  | refine e_nrm ?_ | refine x_none rfl ?_ | with_reducible refine q_then ?_ | with_reducible refine awp_seq ?_ | ((with_reducible refine w_region ?_ ?_); kernel_rfl))
      refine w_cond rfl (fun h => ?_) (fun h => ?_)
      · have hlt : i < 64 := by simp at h; omega
        obtain ⟨b, hb⟩ := some_at (L := M) (k := i) (by omega)
        rw [drop_at hb, appGo] at hf
        repeat (first | ((with_reducible refine k_move ?_); refine m_move rfl ?_)  | refine x_none rfl ?_ | with_reducible refine q_then ?_ | with_reducible refine awp_seq ?_ | with_reducible refine awp_block ?_ | with_reducible refine awp_skip ?_ | ((with_reducible refine w_region ?_ ?_); kernel_rfl))
        with_reducible refine k_index ?_
        refine x_index_arr tbOk arr64 rfl rfl rfl (by constructor <;> omega) (by rw [bsv_length, hM]) (by rw [Int.toNat_natCast]; exact bsv_at hb) ?_
        repeat (first | ((with_reducible refine k_move ?_); refine m_move rfl ?_) | ((with_reducible refine k_assign ?_); refine m_assign rfl ?_)  | refine e_nrm ?_ | refine x_none rfl ?_ | with_reducible refine q_then ?_ | with_reducible refine awp_seq ?_ | ((with_reducible refine w_region ?_ ?_); kernel_rfl))
        refine w_cond rfl (fun c => ?_) (fun c => ?_)
        · subst c
          rw [if_pos rfl] at hf
          repeat (first | ((with_reducible refine k_move ?_); refine m_move rfl ?_) | ((with_reducible refine k_buildSlice ?_); refine m_buildSlice tbOk rfl rfl rfl rfl rfl (by omega) rfl rfl rfl ?_) | refine x_none rfl ?_  | ((with_reducible refine w_region ?_ ?_); kernel_rfl))
          refine x_append_own tbOk rfl rfl rfl rfl rfl (by decide) rfl rfl rfl rfl rfl (fun x hx => by simp at hx; subst hx; rfl) (by simp only [List.length_map, List.length_cons, List.length_nil]; omega) (by simp only [List.length_map, List.length_cons, List.length_nil]; omega) ?_
          repeat (first | ((with_reducible refine k_move ?_); refine m_move rfl ?_) | ((with_reducible refine k_assign ?_); refine m_assign rfl ?_) | ((with_reducible refine k_bin ?_); refine x_add_in rfl rfl (by omega) ?_)  | refine e_nrm ?_ | refine x_none rfl ?_ | with_reducible refine q_then ?_ | with_reducible refine q_block ?_ | ((with_reducible refine w_region ?_ ?_); kernel_rfl))
          refine ⟨(i + 1, E ++ [(i : Int)]), ⟨by show i + 1 ≤ 64; omega, by show (E ++ [(i : Int)]).length ≤ i + 1; rw [List.length_append]; simp; omega, by rw [← hf]; simp⟩, by show 64 - (i + 1) < 64 - i; omega, ⟨rfl, rfl, rfl, trivial⟩, ⟨?_, trivial⟩⟩
          exact hc_buf (by rw [List.map_append]; rfl)
        · subst c
          rw [if_neg (by decide)] at hf
          repeat (first | ((with_reducible refine k_move ?_); refine m_move rfl ?_) | ((with_reducible refine k_bin ?_); refine x_add_in rfl rfl (by omega) ?_)  | refine e_nrm ?_ | refine x_none rfl ?_ | with_reducible refine q_then ?_ | with_reducible refine q_block ?_ | with_reducible refine awp_skip ?_ | ((with_reducible refine w_region ?_ ?_); kernel_rfl))
          exact ⟨(i + 1, E), ⟨by show i + 1 ≤ 64; omega, by show E.length ≤ i + 1; omega, hf⟩, by show 64 - (i + 1) < 64 - i; omega, ⟨rfl, rfl, rfl, trivial⟩, ⟨rfl, trivial⟩⟩
      · have hlt : ¬ i < 64 := by simp at h; omega
        rw [List.drop_of_length_le (by omega)] at hf
        have hf' : appGo 0 M = E := by rw [← hf]; simp [appGo]
        rw [hf']
        repeat (first | ((with_reducible refine k_move ?_); refine m_move rfl ?_) | ((with_reducible refine k_assign ?_); refine m_assign rfl ?_)  | refine e_nrm ?_ | refine x_none rfl ?_ | with_reducible refine q_then ?_ | with_reducible refine q_then_exit ?_ | with_reducible refine awp_seq ?_ | with_reducible refine awp_exit ?_ | with_reducible refine awp_ret ?_ | ((with_reducible refine q_block_exit ?_ ?_); rfl) | ((with_reducible refine w_region ?_ ?_); kernel_rfl))
        refine ret0_1 (by first | exact .inr rfl | exact .inl rfl) rfl rfl ?_
        repeat' (first | exact trivial | exact Ren.v _ | exact Ren.sl _ _ | exact Ren.ep _ | exact Ren.ptr _ _ _ _ rfl | exact Ren.nil _ | exact Ren.own _ _ _ _ ⟨_, rfl⟩ | refine ren_ag ?_ | refine ren_tu ?_ | refine ren_fn ?_ | refine ⟨?_, ?_⟩)
end Go.Proofs.YtaoegbmgombhdaaDoor
