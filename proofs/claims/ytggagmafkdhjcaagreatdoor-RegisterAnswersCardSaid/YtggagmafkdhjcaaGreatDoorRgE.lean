/- permitofficeref05.Add, by the abstract machine; conditions: the table of classes stands. -/
import Derived.Test.YtggagmafkdhjcaaGreatDoorRgD
set_option linter.unusedVariables false
set_option linter.unusedSimpArgs false
namespace Go.Proofs.YtggagmafkdhjcaaGreatDoor
open Go Go.RowKit
set_option maxRecDepth 10000
variable {G : Nat → Option (List Value)}
def addAt (p : Per) : List Per → Nat
  | [] => 0
  | q :: r => if less q p = true then addAt p r + 1 else 0
theorem addAt_le (p : Per) : ∀ L : List Per, addAt p L ≤ L.length
  | [] => Nat.le_refl _
  | q :: r => by
    unfold addAt
    have := addAt_le p r
    split <;> simp <;> omega
def addR (L : List Per) (p : Per) : List Per × Int :=
  if pcheckE pfaultE L ≠ 0 then ([], pcheckE pfaultE L) else if pfaultE p ≠ 0 then ([], pfaultE p)
  else if (match L[addAt p L]? with | some q => nameIs p.n q | none => false) = true then ([], 4) else if 64 ≤ L.length then ([], 1)
  else (L.take (addAt p L) ++ [p] ++ L.drop (addAt p L), 0)
def regAV (L : List Per) : AV := .ag [.sl 5 (L.map Per.av)]
theorem less_lt (q p : Per) : strLt q.n p.n = less q p := by unfold strLt less; rw [ByteArray.toList_eq, ByteArray.toList_eq]
set_option maxHeartbeats 4000000 in
theorem add_A (L : List Per) (p : Per) (hG : GCls G) (hs : ∀ q ∈ L, q.n.size ≤ maxLen) (hp : p.n.size ≤ maxLen) (hm : L.length ≤ maxLen) :
    ACalls Tryz.prog G 24 [regAV L, p.av] [] (.tu [regAV (addR L p).1, .v (.int .i64 (addR L p).2)]) [] := by
  have hm2 : L.length ≤ 9223372036854775807 := by unfold maxLen at hm; omega
  refine acalls_of tbOk (enter_of Tryz.func24 (by kernel_rfl) rfl) Tryz.func24 rfl _ Tryz.ntmps24 (Nat.le_of_ble_eq_true rfl) fun X hX => ?_
  subst hX
  repeat (first | ((with_reducible refine k_assign ?_); refine m_assign rfl ?_) | ((with_reducible refine k_load ?_); refine x_load_agg tbOk rfl rfl rfl rfl (Nat.le_of_ble_eq_true rfl) ?_) | ((with_reducible refine k_alloc ?_); refine x_alloc tbOk rfl rfl ?_) | ((with_reducible refine k_box ?_); refine m_box rfl rfl rfl ?_)  | refine e_nrm ?_ | refine x_none rfl ?_ | with_reducible (first | refine q_then ?_ | refine awp_seq ?_) | ((with_reducible refine w_region ?_ ?_); kernel_rfl))
  with_reducible refine k_call ?_
  refine zC (rcheck_A L hG hs hm) ?_
  repeat (first | ((with_reducible refine k_move ?_); refine m_move rfl ?_) | ((with_reducible refine k_assign ?_); refine m_assign rfl ?_) | ((with_reducible refine k_bin ?_); refine m_binI rfl rfl rfl ?_)  | refine e_nrm ?_ | refine x_none rfl ?_ | with_reducible (first | refine q_then ?_ | refine awp_seq ?_) | ((with_reducible refine w_region ?_ ?_); kernel_rfl))
  unfold addR
  refine w_cond rfl (fun h => ?_) (fun h => ?_)
  · rw [if_pos (by simpa using h)]
    repeat (first | ((with_reducible refine k_move ?_); refine m_move rfl ?_) | ((with_reducible refine k_assign ?_); refine m_assign rfl ?_) | ((with_reducible refine k_store ?_); refine m_store tbOk rfl rfl rfl rfl rfl rfl rfl (Nat.le_of_ble_eq_true rfl) rfl ?_) | ((with_reducible refine k_build ?_); refine m_build tbOk rfl rfl rfl rfl rfl ?_)  | refine e_nrm ?_ | refine x_none rfl ?_ | with_reducible (first | refine q_then ?_ | refine q_then_ret ?_ | refine awp_seq ?_ | refine awp_ret ?_) | ((with_reducible refine w_region ?_ ?_); kernel_rfl))
    refine ret0 (by first | exact .inr rfl | exact .inl rfl) (xs := [.ag [.v (.slice none 0 0)], .v (.int .i64 (pcheckE pfaultE L))]) ?_ ?_
    · exact ⟨.agg _ _ _ _ _ _ rfl rfl rfl rfl, .tmp _, trivial⟩
    · repeat' (first | exact trivial | exact Ren.v _ | exact Ren.sl _ _ | exact Ren.ep _ | exact Ren.ptr _ _ _ _ rfl | exact Ren.bs _ _ _ _ _ rfl | exact Ren.nil _ | exact Ren.own _ _ _ _ ⟨_, rfl⟩ | refine ren_ag ?_ | refine ren_tu ?_ | refine ren_fn ?_ | refine ⟨?_, ?_⟩)
  · rw [if_neg (by simpa using h)]
    have h64 := check_len' (E := pfaultE) (L := L) (by simpa using h)
    repeat (first | ((with_reducible refine k_load ?_); refine x_load_agg tbOk rfl rfl rfl rfl (Nat.le_of_ble_eq_true rfl) ?_)  | refine x_none rfl ?_ | with_reducible (first | refine q_then ?_ | refine awp_seq ?_ | refine awp_skip ?_) | ((with_reducible refine w_region ?_ ?_); kernel_rfl))
    with_reducible refine k_call ?_
    refine zC (fault_A p hp) ?_
    repeat (first | ((with_reducible refine k_move ?_); refine m_move rfl ?_) | ((with_reducible refine k_assign ?_); refine m_assign rfl ?_) | ((with_reducible refine k_bin ?_); refine m_binI rfl rfl rfl ?_)  | refine e_nrm ?_ | refine x_none rfl ?_ | with_reducible (first | refine q_then ?_ | refine awp_seq ?_) | ((with_reducible refine w_region ?_ ?_); kernel_rfl))
    refine w_cond rfl (fun h1 => ?_) (fun h1 => ?_)
    · rw [if_pos (by simpa using h1)]
      repeat (first | ((with_reducible refine k_move ?_); refine m_move rfl ?_) | ((with_reducible refine k_assign ?_); refine m_assign rfl ?_) | ((with_reducible refine k_store ?_); refine m_store tbOk rfl rfl rfl rfl rfl rfl rfl (Nat.le_of_ble_eq_true rfl) rfl ?_) | ((with_reducible refine k_build ?_); refine m_build tbOk rfl rfl rfl rfl rfl ?_)  | refine e_nrm ?_ | refine x_none rfl ?_ | with_reducible (first | refine q_then ?_ | refine q_then_ret ?_ | refine awp_seq ?_ | refine awp_ret ?_) | ((with_reducible refine w_region ?_ ?_); kernel_rfl))
      refine ret0 (by first | exact .inr rfl | exact .inl rfl) (xs := [.ag [.v (.slice none 0 0)], .v (.int .i64 (pfaultE p))]) ?_ ?_
      · exact ⟨.agg _ _ _ _ _ _ rfl rfl rfl rfl, .tmp _, trivial⟩
      · repeat' (first | exact trivial | exact Ren.v _ | exact Ren.sl _ _ | exact Ren.ep _ | exact Ren.ptr _ _ _ _ rfl | exact Ren.bs _ _ _ _ _ rfl | exact Ren.nil _ | exact Ren.own _ _ _ _ ⟨_, rfl⟩ | refine ren_ag ?_ | refine ren_tu ?_ | refine ren_fn ?_ | refine ⟨?_, ?_⟩)
    · rw [if_neg (by simpa using h1)]
      repeat (first | ((with_reducible refine k_assign ?_); refine m_assign rfl ?_)  | refine e_nrm ?_ | refine x_none rfl ?_ | with_reducible (first | refine q_then ?_ | refine awp_seq ?_ | refine awp_block ?_ | refine awp_skip ?_) | ((with_reducible refine w_region ?_ ?_); kernel_rfl))
      refine awp_loop (ι := Nat) (fun k => k ≤ L.length ∧ addAt p L = k + addAt p (L.drop k)) (fun k => L.length - k) (fun v k => [(2, .ptr 2 (v 2) 0), (3, .ptr 3 (v 3) 0), (4, .ptr 4 (v 4) 0), (8, .v (.int .i64 k))]) (fun v k => [(2, .box [.sl 5 (L.map Per.av)]), (3, .box p.av.cells), (4, .box [.v (.slice none 0 0)])]) ?_ ?_
      · exact ⟨0, ⟨Nat.zero_le _, by simp⟩, trivial, ⟨rfl, rfl, rfl, rfl, trivial⟩, ⟨rfl, rfl, rfl, trivial⟩⟩
      · rintro v k ⟨hk, hf⟩
        repeat (first | ((with_reducible refine k_move ?_); refine m_move rfl ?_) | ((with_reducible refine k_fieldAddr ?_); refine x_fieldAddr_ptr tbOk rfl rfl rfl rfl ?_) | ((with_reducible refine k_load ?_); refine x_load_one tbOk rfl rfl rfl rfl rfl ?_) | ((with_reducible refine k_call ?_); refine x_len tbOk rfl rfl ?_) | ((with_reducible refine k_bin ?_); refine m_binI rfl rfl rfl ?_)  | refine x_none rfl ?_ | with_reducible refine awp_seq ?_ | ((with_reducible refine w_draw mixd ?_ ?_); kernel_rfl))
        refine x_split rfl rfl (fun h => ?_) (fun h => ?_)
        · have hlt : k < L.length := by simpa using h
          obtain ⟨q, hx⟩ := some_at hlt
          have hy : (L.map Per.av)[k]? = some q.av := by rw [List.getElem?_map, hx]; rfl
          have hd := drop_at hx
          repeat (first | ((with_reducible refine k_move ?_); refine m_move rfl ?_) | ((with_reducible refine k_fieldAddr ?_); (first | refine x_fieldAddr_ptr tbOk rfl rfl rfl rfl ?_ | refine x_fieldAddr_ep tbOk rfl rfl rfl rfl ?_)) | ((with_reducible refine k_load ?_); (first | refine x_load_one tbOk rfl rfl rfl rfl rfl ?_ | refine x_load_ep_one tbOk rfl rfl rfl ?_)) | ((with_reducible refine k_pick ?_); refine m_pickt rfl (by first | rfl | assumption) rfl ?_) | ((with_reducible refine k_indexAddr ?_); refine x_indexAddr_n tbOk rfl rfl rfl rfl (by assumption) ?_) | ((with_reducible refine k_bin ?_); refine m_binS rfl rfl rfl ?_)  | refine e_drw (by kernel_rfl) ?_ | refine x_none rfl ?_ | refine x_run_t rfl rfl (by first | rfl | assumption) ?_ | with_reducible refine q_then ?_ )
          refine w_cond rfl (fun hc => ?_) (fun hc => ?_)
          · have hl : less q p = true := by rw [← less_lt]; exact hc
            rw [hd, addAt, if_pos hl] at hf
            repeat (first | ((with_reducible refine k_move ?_); refine m_move rfl ?_) | ((with_reducible refine k_assign ?_); refine m_assign rfl ?_) | ((with_reducible refine k_bin ?_); refine x_add_in rfl rfl (by omega) ?_)  | refine e_nrm ?_ | refine x_none rfl ?_ | with_reducible (first | refine q_then ?_ | refine q_block ?_ | refine awp_block ?_ | refine awp_skip ?_) | ((with_reducible refine w_region ?_ ?_); kernel_rfl))
            exact ⟨k + 1, ⟨by omega, by rw [hf]; omega⟩, by omega, ⟨rfl, rfl, rfl, rfl, trivial⟩, ⟨rfl, rfl, rfl, trivial⟩⟩
          · have hl : less q p = false := by rw [← less_lt]; exact hc
            rw [hd, addAt, if_neg (by simp [hl]), Nat.add_zero] at hf
            rw [hf, hx]
            repeat (first | ((with_reducible refine k_move ?_); refine m_move rfl ?_) | ((with_reducible refine k_fieldAddr ?_); (first | refine x_fieldAddr_ptr tbOk rfl rfl rfl rfl ?_ | refine x_fieldAddr_ep tbOk rfl rfl rfl rfl ?_)) | ((with_reducible refine k_load ?_); (first | refine x_load_one tbOk rfl rfl rfl rfl rfl ?_ | refine x_load_ep_one tbOk rfl rfl rfl ?_)) | ((with_reducible refine k_pick ?_); refine m_pickt rfl (by first | rfl | assumption) rfl ?_) | ((with_reducible refine k_indexAddr ?_); refine x_indexAddr_n tbOk rfl rfl rfl rfl (by assumption) ?_) | ((with_reducible refine k_call ?_); refine x_len tbOk rfl rfl ?_) | ((with_reducible refine k_bin ?_); (first | refine m_binI rfl rfl rfl ?_ | refine m_binS rfl rfl rfl ?_))  | refine e_drw (by kernel_rfl) ?_ | refine x_none rfl ?_ | refine x_run_t rfl rfl (by first | rfl | assumption) ?_ | with_reducible (first | refine q_then ?_ | refine q_then_exit ?_ | refine awp_seq ?_ | refine awp_exit ?_) | ((with_reducible refine q_block_exit ?_ ?_); rfl) | ((with_reducible refine w_draw mixd ?_ ?_); kernel_rfl))
            refine w_cond rfl (fun hc2 => ?_) (fun hc2 => ?_)
            · have hn : nameIs p.n q = true := hc2
              rw [if_pos (by simpa using hn)]
              repeat (first | ((with_reducible refine k_assign ?_); refine m_assign rfl ?_) | ((with_reducible refine k_store ?_); refine m_store tbOk rfl rfl rfl rfl rfl rfl rfl (Nat.le_of_ble_eq_true rfl) rfl ?_) | ((with_reducible refine k_build ?_); refine m_build tbOk rfl rfl rfl rfl rfl ?_)  | refine e_nrm ?_ | refine x_none rfl ?_ | with_reducible (first | refine q_then ?_ | refine q_then_ret ?_ | refine awp_seq ?_ | refine awp_ret ?_) | ((with_reducible refine w_region ?_ ?_); kernel_rfl))
              refine ret0 (by first | exact .inr rfl | exact .inl rfl) (xs := [.ag [.v (.slice none 0 0)], .v (.int .i64 (4))]) ?_ ?_
              · exact ⟨.agg _ _ _ _ _ _ rfl rfl rfl rfl, .tmp _, trivial⟩
              · repeat' (first | exact trivial | exact Ren.v _ | exact Ren.sl _ _ | exact Ren.ep _ | exact Ren.ptr _ _ _ _ rfl | exact Ren.bs _ _ _ _ _ rfl | exact Ren.nil _ | exact Ren.own _ _ _ _ ⟨_, rfl⟩ | refine ren_ag ?_ | refine ren_tu ?_ | refine ren_fn ?_ | refine ⟨?_, ?_⟩)
            · have hn : nameIs p.n q = false := hc2
              rw [if_neg (by simpa using hn)]
              repeat (first | ((with_reducible refine k_fieldAddr ?_); refine x_fieldAddr_ptr tbOk rfl rfl rfl rfl ?_) | ((with_reducible refine k_load ?_); refine x_load_one tbOk rfl rfl rfl rfl rfl ?_) | ((with_reducible refine k_call ?_); refine x_len tbOk rfl rfl ?_) | ((with_reducible refine k_bin ?_); refine m_binI rfl rfl rfl ?_)  | refine e_nrm ?_ | refine x_none rfl ?_ | with_reducible (first | refine q_then ?_ | refine awp_seq ?_ | refine awp_skip ?_) | ((with_reducible refine w_region ?_ ?_); kernel_rfl))
              refine w_cond rfl (fun h6 => ?_) (fun h6 => ?_)
              · have h6' : 64 ≤ L.length := by simp at h6; omega
                rw [if_pos h6']
                repeat (first | ((with_reducible refine k_assign ?_); refine m_assign rfl ?_) | ((with_reducible refine k_store ?_); refine m_store tbOk rfl rfl rfl rfl rfl rfl rfl (Nat.le_of_ble_eq_true rfl) rfl ?_) | ((with_reducible refine k_build ?_); refine m_build tbOk rfl rfl rfl rfl rfl ?_)  | refine e_nrm ?_ | refine x_none rfl ?_ | with_reducible (first | refine q_then ?_ | refine q_then_ret ?_ | refine awp_seq ?_ | refine awp_ret ?_) | ((with_reducible refine w_region ?_ ?_); kernel_rfl))
                refine ret0 (by first | exact .inr rfl | exact .inl rfl) (xs := [.ag [.v (.slice none 0 0)], .v (.int .i64 (1))]) ?_ ?_
                · exact ⟨.agg _ _ _ _ _ _ rfl rfl rfl rfl, .tmp _, trivial⟩
                · repeat' (first | exact trivial | exact Ren.v _ | exact Ren.sl _ _ | exact Ren.ep _ | exact Ren.ptr _ _ _ _ rfl | exact Ren.bs _ _ _ _ _ rfl | exact Ren.nil _ | exact Ren.own _ _ _ _ ⟨_, rfl⟩ | refine ren_ag ?_ | refine ren_tu ?_ | refine ren_fn ?_ | refine ⟨?_, ?_⟩)
              · have hl64 : L.length < 64 := by simp at h6; omega
                rw [if_neg (by omega)]
                have hln : (L.map Per.av).length < 64 := by simpa using hl64
                have hkn : k ≤ (L.map Per.av).length := by simpa using hk
                have ho1 : ∀ x ∈ ((L.map Per.av).take (k : Int).toNat).drop (0 : Int).toNat, allOne x.cells = true := fun x hx => per_oneA L x (List.mem_of_mem_take (List.mem_of_mem_drop hx))
                have ho3 : ∀ x ∈ ((L.map Per.av).take ((L.map Per.av).length : Int).toNat).drop (k : Int).toNat, allOne x.cells = true := fun x hx => per_oneA L x (List.mem_of_mem_take (List.mem_of_mem_drop hx))
                have l1 : (((L.map Per.av).take (k : Int).toNat).drop (0 : Int).toNat).length ≤ 64 := by simp only [List.length_drop, List.length_take]; omega
                have l2 : (((L.map Per.av).take ((L.map Per.av).length : Int).toNat).drop (k : Int).toNat).length ≤ 64 := by simp only [List.length_drop, List.length_take]; omega
                repeat (first | ((with_reducible refine k_move ?_); refine m_move rfl ?_) | ((with_reducible refine k_fieldAddr ?_); refine x_fieldAddr_ptr tbOk rfl rfl rfl rfl ?_) | ((with_reducible refine k_load ?_); refine x_load_one tbOk rfl rfl rfl rfl rfl ?_) | ((with_reducible refine k_slice ?_); refine x_slice tbOk rfl rfl rfl rfl rfl (by refine ⟨?_, ?_, ?_⟩ <;> omega) ?_)  | refine x_none rfl ?_ | with_reducible (first | refine q_then ?_ | refine awp_seq ?_ | refine awp_skip ?_) | ((with_reducible refine w_draw mixd ?_ ?_); kernel_rfl))
                refine x_append_nil tbOk rfl rfl rfl rfl rfl (by decide) rfl rfl rfl ho1 (by omega) ?_
                repeat (first | ((with_reducible refine k_load ?_); refine x_load_agg tbOk rfl rfl rfl rfl (Nat.le_of_ble_eq_true rfl) ?_) | ((with_reducible refine k_buildSlice ?_); refine m_buildSlice tbOk rfl rfl rfl rfl rfl (by omega) rfl rfl rfl ?_) | refine x_none rfl ?_  )
                refine x_append_own tbOk rfl rfl rfl rfl rfl (by decide) rfl rfl rfl rfl rfl (fun x hx => by simp at hx; subst hx; rfl) (by simp only [List.length_cons, List.length_nil, List.length_map]; omega) (by simp only [List.length_cons, List.length_nil, List.length_map]; omega) ?_
                repeat (first | ((with_reducible refine k_move ?_); refine m_move rfl ?_) | ((with_reducible refine k_assign ?_); refine m_assign rfl ?_) | ((with_reducible refine k_fieldAddr ?_); refine x_fieldAddr_ptr tbOk rfl rfl rfl rfl ?_) | ((with_reducible refine k_load ?_); refine x_load_one tbOk rfl rfl rfl rfl rfl ?_) | ((with_reducible refine k_slice ?_); refine x_slice tbOk rfl rfl rfl rfl rfl (by refine ⟨?_, ?_, ?_⟩ <;> omega) ?_)  | refine e_drw (by kernel_rfl) ?_ | refine x_none rfl ?_ | with_reducible (first | refine q_then ?_ | refine awp_seq ?_) | ((with_reducible refine w_region ?_ ?_); kernel_rfl))
                refine x_append_own tbOk rfl rfl rfl rfl rfl (by decide) rfl rfl rfl rfl rfl ho3 (by simp only [List.length_cons, List.length_nil, List.map_cons, List.map_nil, List.length_append]; omega) (by simp only [List.length_cons, List.length_nil, List.map_cons, List.map_nil, List.length_append]; omega) ?_
                repeat (first | ((with_reducible refine k_assign ?_); refine m_assign rfl ?_) | ((with_reducible refine k_store ?_); refine m_store tbOk rfl rfl rfl rfl rfl rfl rfl (Nat.le_of_ble_eq_true rfl) rfl ?_) | ((with_reducible refine k_build ?_); refine m_build tbOk rfl rfl rfl rfl rfl ?_)  | refine e_nrm ?_ | refine x_none rfl ?_ | with_reducible (first | refine q_then ?_ | refine awp_ret ?_) )
                refine ret0_ct (by first | exact .inr rfl | exact .inl rfl) rfl rfl rfl rfl rfl rfl ?_
                · have el : (L.take k ++ [p] ++ L.drop k).map Per.av = (((L.map Per.av).take (k : Int).toNat).drop (0 : Int).toNat ++ [p.av]) ++ ((L.map Per.av).take ((L.map Per.av).length : Int).toNat).drop (k : Int).toNat := by
                    simp [List.map_take, List.map_drop]
                    rw [List.take_of_length_le (by simp)]
                  unfold regAV
                  rw [el]
                  repeat' (first | exact trivial | exact Ren.v _ | exact Ren.sl _ _ | exact Ren.ep _ | exact Ren.ptr _ _ _ _ rfl | exact Ren.bs _ _ _ _ _ rfl | exact Ren.nil _ | exact Ren.own _ _ _ _ ⟨_, rfl⟩ | refine ren_ag ?_ | refine ren_tu ?_ | refine ren_fn ?_ | refine ⟨?_, ?_⟩)
        · have hlt : k = L.length := by simp at h; omega
          have h2 : addAt p (L.drop k) = 0 := by rw [List.drop_of_length_le (by omega)]; rfl
          rw [h2, Nat.add_zero] at hf
          rw [hf, show L[k]? = none from by simp; omega]
          rw [if_neg (by simp)]
          repeat (first | ((with_reducible refine k_move ?_); refine m_move rfl ?_) | ((with_reducible refine k_fieldAddr ?_); refine x_fieldAddr_ptr tbOk rfl rfl rfl rfl ?_) | ((with_reducible refine k_load ?_); refine x_load_one tbOk rfl rfl rfl rfl rfl ?_) | ((with_reducible refine k_pick ?_); refine m_pickf rfl (by first | rfl | assumption) rfl ?_) | ((with_reducible refine k_call ?_); refine x_len tbOk rfl rfl ?_) | ((with_reducible refine k_bin ?_); refine m_binI rfl rfl rfl ?_)  | refine e_nrm ?_ | refine e_drw (by kernel_rfl) ?_ | refine x_none rfl ?_ | refine x_skip_t rfl rfl (by first | rfl | assumption) ?_ | with_reducible (first | refine q_then ?_ | refine q_then_exit ?_ | refine awp_seq ?_ | refine awp_skip ?_ | refine awp_exit ?_) | ((with_reducible refine q_block_exit ?_ ?_); rfl) | ((with_reducible refine w_region ?_ ?_); kernel_rfl) | ((with_reducible refine w_draw mixd ?_ ?_); kernel_rfl) | refine w_cond_f rfl (by first | rfl | assumption) ?_)
          repeat (first | fail    )
          refine w_cond rfl (fun h6 => ?_) (fun h6 => ?_)
          · have h6' : 64 ≤ L.length := by simp at h6; omega
            rw [if_pos h6']
            repeat (first | ((with_reducible refine k_assign ?_); refine m_assign rfl ?_) | ((with_reducible refine k_store ?_); refine m_store tbOk rfl rfl rfl rfl rfl rfl rfl (Nat.le_of_ble_eq_true rfl) rfl ?_) | ((with_reducible refine k_build ?_); refine m_build tbOk rfl rfl rfl rfl rfl ?_)  | refine e_nrm ?_ | refine x_none rfl ?_ | with_reducible (first | refine q_then ?_ | refine q_then_ret ?_ | refine awp_seq ?_ | refine awp_ret ?_) | ((with_reducible refine w_region ?_ ?_); kernel_rfl))
            refine ret0 (by first | exact .inr rfl | exact .inl rfl) (xs := [.ag [.v (.slice none 0 0)], .v (.int .i64 (1))]) ?_ ?_
            · exact ⟨.agg _ _ _ _ _ _ rfl rfl rfl rfl, .tmp _, trivial⟩
            · repeat' (first | exact trivial | exact Ren.v _ | exact Ren.sl _ _ | exact Ren.ep _ | exact Ren.ptr _ _ _ _ rfl | exact Ren.bs _ _ _ _ _ rfl | exact Ren.nil _ | exact Ren.own _ _ _ _ ⟨_, rfl⟩ | refine ren_ag ?_ | refine ren_tu ?_ | refine ren_fn ?_ | refine ⟨?_, ?_⟩)
          · have hl64 : L.length < 64 := by simp at h6; omega
            rw [if_neg (by omega)]
            have hln : (L.map Per.av).length < 64 := by simpa using hl64
            have hkn : k ≤ (L.map Per.av).length := by simpa using hk
            have ho1 : ∀ x ∈ ((L.map Per.av).take (k : Int).toNat).drop (0 : Int).toNat, allOne x.cells = true := fun x hx => per_oneA L x (List.mem_of_mem_take (List.mem_of_mem_drop hx))
            have ho3 : ∀ x ∈ ((L.map Per.av).take ((L.map Per.av).length : Int).toNat).drop (k : Int).toNat, allOne x.cells = true := fun x hx => per_oneA L x (List.mem_of_mem_take (List.mem_of_mem_drop hx))
            have l1 : (((L.map Per.av).take (k : Int).toNat).drop (0 : Int).toNat).length ≤ 64 := by simp only [List.length_drop, List.length_take]; omega
            have l2 : (((L.map Per.av).take ((L.map Per.av).length : Int).toNat).drop (k : Int).toNat).length ≤ 64 := by simp only [List.length_drop, List.length_take]; omega
            repeat (first | ((with_reducible refine k_move ?_); refine m_move rfl ?_) | ((with_reducible refine k_fieldAddr ?_); refine x_fieldAddr_ptr tbOk rfl rfl rfl rfl ?_) | ((with_reducible refine k_load ?_); refine x_load_one tbOk rfl rfl rfl rfl rfl ?_) | ((with_reducible refine k_slice ?_); refine x_slice tbOk rfl rfl rfl rfl rfl (by refine ⟨?_, ?_, ?_⟩ <;> omega) ?_)  | refine x_none rfl ?_ | with_reducible (first | refine q_then ?_ | refine awp_seq ?_ | refine awp_skip ?_) | ((with_reducible refine w_draw mixd ?_ ?_); kernel_rfl))
            refine x_append_nil tbOk rfl rfl rfl rfl rfl (by decide) rfl rfl rfl ho1 (by omega) ?_
            repeat (first | ((with_reducible refine k_load ?_); refine x_load_agg tbOk rfl rfl rfl rfl (Nat.le_of_ble_eq_true rfl) ?_) | ((with_reducible refine k_buildSlice ?_); refine m_buildSlice tbOk rfl rfl rfl rfl rfl (by omega) rfl rfl rfl ?_) | refine x_none rfl ?_  )
            refine x_append_own tbOk rfl rfl rfl rfl rfl (by decide) rfl rfl rfl rfl rfl (fun x hx => by simp at hx; subst hx; rfl) (by simp only [List.length_cons, List.length_nil, List.length_map]; omega) (by simp only [List.length_cons, List.length_nil, List.length_map]; omega) ?_
            repeat (first | ((with_reducible refine k_move ?_); refine m_move rfl ?_) | ((with_reducible refine k_assign ?_); refine m_assign rfl ?_) | ((with_reducible refine k_fieldAddr ?_); refine x_fieldAddr_ptr tbOk rfl rfl rfl rfl ?_) | ((with_reducible refine k_load ?_); refine x_load_one tbOk rfl rfl rfl rfl rfl ?_) | ((with_reducible refine k_slice ?_); refine x_slice tbOk rfl rfl rfl rfl rfl (by refine ⟨?_, ?_, ?_⟩ <;> omega) ?_)  | refine e_drw (by kernel_rfl) ?_ | refine x_none rfl ?_ | with_reducible (first | refine q_then ?_ | refine awp_seq ?_) | ((with_reducible refine w_region ?_ ?_); kernel_rfl))
            refine x_append_own tbOk rfl rfl rfl rfl rfl (by decide) rfl rfl rfl rfl rfl ho3 (by simp only [List.length_cons, List.length_nil, List.map_cons, List.map_nil, List.length_append]; omega) (by simp only [List.length_cons, List.length_nil, List.map_cons, List.map_nil, List.length_append]; omega) ?_
            repeat (first | ((with_reducible refine k_assign ?_); refine m_assign rfl ?_) | ((with_reducible refine k_store ?_); refine m_store tbOk rfl rfl rfl rfl rfl rfl rfl (Nat.le_of_ble_eq_true rfl) rfl ?_) | ((with_reducible refine k_build ?_); refine m_build tbOk rfl rfl rfl rfl rfl ?_)  | refine e_nrm ?_ | refine x_none rfl ?_ | with_reducible (first | refine q_then ?_ | refine awp_ret ?_) )
            refine ret0_ct (by first | exact .inr rfl | exact .inl rfl) rfl rfl rfl rfl rfl rfl ?_
            · have el : (L.take k ++ [p] ++ L.drop k).map Per.av = (((L.map Per.av).take (k : Int).toNat).drop (0 : Int).toNat ++ [p.av]) ++ ((L.map Per.av).take ((L.map Per.av).length : Int).toNat).drop (k : Int).toNat := by
                simp [List.map_take, List.map_drop]
                rw [List.take_of_length_le (by simp)]
              unfold regAV
              rw [el]
              repeat' (first | exact trivial | exact Ren.v _ | exact Ren.sl _ _ | exact Ren.ep _ | exact Ren.ptr _ _ _ _ rfl | exact Ren.bs _ _ _ _ _ rfl | exact Ren.nil _ | exact Ren.own _ _ _ _ ⟨_, rfl⟩ | refine ren_ag ?_ | refine ren_tu ?_ | refine ren_fn ?_ | refine ⟨?_, ?_⟩)
end Go.Proofs.YtggagmafkdhjcaaGreatDoor
