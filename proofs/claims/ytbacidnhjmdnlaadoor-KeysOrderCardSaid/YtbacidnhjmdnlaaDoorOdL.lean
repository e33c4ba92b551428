/- permitofficelaw23.KeysOrder, by the abstract machine: for every list of numbers it answers true; conditions: the table of classes stands. -/
import Derived.Test.YtbacidnhjmdnlaaDoorAbsZ
import Derived.Test.YtbacidnhjmdnlaaDoorOdP
set_option linter.unusedVariables false
set_option linter.unusedSimpArgs false
namespace Go.Proofs.YtbacidnhjmdnlaaDoor
open Go Go.RowKit
set_option maxRecDepth 10000
variable {G : Nat → Option (List Value)}
theorem NamesOk.max {L : List Rw} (h : NamesOk L) : ∀ r ∈ L, r.h.n.size ≤ maxLen := fun r hr => by have := h r hr; unfold maxLen; omega
theorem row_at {L : List Rw} {i : Nat} {q : Rw} (h : L[i]? = some q) : (((L.map Rw.av).flatMap AV.cells).drop (i * 4)).take 4 = q.av.cells := by
  rw [← (flat_take0 (L.map Rw.av) i (rw_cells L)).2, ← List.map_drop, drop_at h]
  rfl
set_option maxHeartbeats 4000000 in
theorem order_law (l : List Int) (hG : GCls G) : ACalls Tryd.prog G 4 [.sl 1 (l.map iv)] [] (.v (.bool true)) [] := by
  refine acalls_of tbOk (enter_of Tryd.func4 (by kernel_rfl) rfl) Tryd.func4 rfl _ Tryd.ntmps4 (Nat.le_of_ble_eq_true rfl) fun X hX => ?_
  subst hX
  repeat (first | ((with_reducible refine k_assign ?_); refine m_assign rfl ?_)  | refine e_nrm ?_ | refine x_none rfl ?_ | with_reducible refine q_then ?_ | with_reducible refine awp_seq ?_ | ((with_reducible refine w_region ?_ ?_); kernel_rfl))
  refine x_call0 (awake_A hG) (by repeat' (first | exact trivial | exact Ren.v _ | exact Ren.sl _ _ | exact Ren.ep _ | exact Ren.ptr _ _ _ _ rfl | exact Ren.nil _ | exact Ren.own _ _ _ _ ⟨_, rfl⟩ | refine ren_ag ?_ | refine ren_tu ?_ | refine ren_fn ?_ | refine ⟨?_, ?_⟩)) (by repeat' (first | exact trivial | exact RenB.v _ | exact RenB.sl _ _ | exact RenB.ep _ | exact RenB.ptr _ _ _ _ rfl | refine renb_ag ?_ | refine renb_tu ?_ | refine ⟨?_, ?_⟩)) ?_
  repeat (first | ((with_reducible refine k_move ?_); refine m_move rfl ?_) | ((with_reducible refine k_un ?_); refine x_not rfl ?_)  | refine x_none rfl ?_ | refine x_run_f rfl rfl (by first | rfl | assumption) ?_  )
  refine x_call0 (few_A (l.map iv)) (by repeat' (first | exact trivial | exact Ren.v _ | exact Ren.sl _ _ | exact Ren.ep _ | exact Ren.ptr _ _ _ _ rfl | exact Ren.nil _ | exact Ren.own _ _ _ _ ⟨_, rfl⟩ | refine ren_ag ?_ | refine ren_tu ?_ | refine ren_fn ?_ | refine ⟨?_, ?_⟩)) (by repeat' (first | exact trivial | exact RenB.v _ | exact RenB.sl _ _ | exact RenB.ep _ | exact RenB.ptr _ _ _ _ rfl | refine renb_ag ?_ | refine renb_tu ?_ | refine ⟨?_, ?_⟩)) ?_
  repeat (first | ((with_reducible refine k_un ?_); refine x_not rfl ?_) | ((with_reducible refine k_pick ?_); refine m_pickf rfl (by first | rfl | assumption) rfl ?_)  | refine e_nrm ?_ | refine x_none rfl ?_ | refine x_run_f rfl rfl (by first | rfl | assumption) ?_ | with_reducible refine q_then ?_ )
  refine w_cond rfl (fun h => ?_) (fun h => ?_)
  · repeat (first   | refine x_none rfl ?_ | with_reducible refine awp_seq ?_ | ((with_reducible refine w_region ?_ ?_); kernel_rfl))
    refine x_call0 (awake_A hG) (by repeat' (first | exact trivial | exact Ren.v _ | exact Ren.sl _ _ | exact Ren.ep _ | exact Ren.ptr _ _ _ _ rfl | exact Ren.nil _ | exact Ren.own _ _ _ _ ⟨_, rfl⟩ | refine ren_ag ?_ | refine ren_tu ?_ | refine ren_fn ?_ | refine ⟨?_, ?_⟩)) (by repeat' (first | exact trivial | exact RenB.v _ | exact RenB.sl _ _ | exact RenB.ep _ | exact RenB.ptr _ _ _ _ rfl | refine renb_ag ?_ | refine renb_tu ?_ | refine ⟨?_, ?_⟩)) ?_
    repeat (first | ((with_reducible refine k_assign ?_); refine m_assign rfl ?_)  | refine e_nrm ?_ | refine x_none rfl ?_ | with_reducible refine q_then ?_ | with_reducible refine q_then_ret ?_ | with_reducible refine awp_ret ?_ )
    refine ret_v (by first | exact .inr rfl | exact .inl rfl) rfl rfl ?_
    rfl
  have hl : l.length ≤ 400 := by simp at h; omega
  have hD := DkOk.new hl
  have hR := rows_A (G := X.G) (dk0 l) hD
  obtain ⟨hE, hN, h8⟩ := rowsP_ok hD
  generalize rowsP (dk0 l) = S at hR hE hN h8
  obtain ⟨E, R⟩ := S
  simp only at hR hE hN h8
  have hRm : R.length ≤ maxLen := by unfold maxLen; omega
  repeat (first | ((with_reducible refine k_move ?_); refine m_move rfl ?_)  | refine x_none rfl ?_ | with_reducible refine q_then ?_ | with_reducible refine awp_seq ?_ | with_reducible refine awp_skip ?_ | ((with_reducible refine w_region ?_ ?_); kernel_rfl))
  refine x_call_new (new_A l) (by repeat' (first | exact trivial | exact Ren.v _ | exact Ren.sl _ _ | exact Ren.ep _ | exact Ren.ptr _ _ _ _ rfl | exact Ren.nil _ | exact Ren.own _ _ _ _ ⟨_, rfl⟩ | refine ren_ag ?_ | refine ren_tu ?_ | refine ren_fn ?_ | refine ⟨?_, ?_⟩)) (by repeat' (first | exact trivial | exact RenB.v _ | exact RenB.sl _ _ | exact RenB.ep _ | exact RenB.ptr _ _ _ _ rfl | refine renb_ag ?_ | refine renb_tu ?_ | refine ⟨?_, ?_⟩)) rfl ?_
  repeat (first | ((with_reducible refine k_move ?_); refine m_move rfl ?_) | ((with_reducible refine k_assign ?_); refine m_assign rfl ?_)  | refine e_nrm ?_ | refine x_none rfl ?_ | with_reducible refine q_then ?_ | with_reducible refine awp_seq ?_ | ((with_reducible refine w_region ?_ ?_); kernel_rfl))
  refine x_call (ss := [(21, 1)]) (hR) (by repeat' (first | exact trivial | exact Ren.v _ | exact Ren.sl _ _ | exact Ren.ep _ | exact Ren.ptr _ _ _ _ rfl | exact Ren.nil _ | exact Ren.own _ _ _ _ ⟨_, rfl⟩ | refine ren_ag ?_ | refine ren_tu ?_ | refine ren_fn ?_ | refine ⟨?_, ?_⟩)) (by simp) (in1 rfl rfl) rfl (back1 rfl) (by repeat' (first | exact trivial | exact RenB.v _ | exact RenB.sl _ _ | exact RenB.ep _ | exact RenB.ptr _ _ _ _ rfl | refine renb_ag ?_ | refine renb_tu ?_ | refine ⟨?_, ?_⟩)) ?_
  repeat (first | ((with_reducible refine k_move ?_); refine m_move rfl ?_) | ((with_reducible refine k_assign ?_); refine m_assign rfl ?_)  | refine e_nrm ?_ | refine x_none rfl ?_ | with_reducible refine q_then ?_ | with_reducible refine awp_seq ?_ | ((with_reducible refine w_region ?_ ?_); kernel_rfl))
  refine x_call0 (kcheck_A R hG hN.max hRm) (by repeat' (first | exact trivial | exact Ren.v _ | exact Ren.sl _ _ | exact Ren.ep _ | exact Ren.ptr _ _ _ _ rfl | exact Ren.nil _ | exact Ren.own _ _ _ _ ⟨_, rfl⟩ | refine ren_ag ?_ | refine ren_tu ?_ | refine ren_fn ?_ | refine ⟨?_, ?_⟩)) (by repeat' (first | exact trivial | exact RenB.v _ | exact RenB.sl _ _ | exact RenB.ep _ | exact RenB.ptr _ _ _ _ rfl | refine renb_ag ?_ | refine renb_tu ?_ | refine ⟨?_, ?_⟩)) ?_
  repeat (first | ((with_reducible refine k_bin ?_); refine m_binI rfl rfl rfl ?_)  | refine e_nrm ?_ | refine x_none rfl ?_ | with_reducible refine q_then ?_ )
  refine w_cond rfl (fun h => ?_) (fun h => ?_)
  · repeat (first | ((with_reducible refine k_assign ?_); refine m_assign rfl ?_)  | refine e_nrm ?_ | refine x_none rfl ?_ | with_reducible refine q_then ?_ | with_reducible refine q_then_ret ?_ | with_reducible refine awp_seq ?_ | with_reducible refine awp_ret ?_ | ((with_reducible refine w_region ?_ ?_); kernel_rfl))
    refine ret_v (by first | exact .inr rfl | exact .inl rfl) rfl rfl ?_
    rfl
  have hc : chk R = 0 := by simpa using h
  have hp := ((chk_iff R).1 hc).2.2
  repeat (first | ((with_reducible refine k_move ?_); refine m_move rfl ?_) | ((with_reducible refine k_assign ?_); refine m_assign rfl ?_)  | refine e_nrm ?_ | refine x_none rfl ?_ | with_reducible refine q_then ?_ | with_reducible refine awp_seq ?_ | with_reducible refine awp_skip ?_ | ((with_reducible refine w_region ?_ ?_); kernel_rfl))
  refine x_append_nil tbOk rfl rfl rfl rfl rfl (by decide) rfl rfl rfl (rw_one R) (by simp only [List.length_map]; omega) ?_
  repeat (first | ((with_reducible refine k_assign ?_); refine m_assign rfl ?_)  | refine e_nrm ?_ | refine x_none rfl ?_ | with_reducible refine q_then ?_ | with_reducible refine awp_seq ?_ | with_reducible refine awp_block ?_ )
  refine awp_reown (t := 5) (s := 29) (d := 72) rfl rfl rfl (by decide) ?_
  refine awp_slot (t := 6) (.sl 4 (([] : List Rw).map Rw.av)) rfl (.inr ⟨rfl, 4, rfl⟩) (by decide) ?_
  refine awp_loop (ι := Dk × List Rw) (fun i => DkOk i.1 ∧ Rest R i.2 ∧ i.2.length ≤ 8) (fun i => i.2.length) (fun v i => [(3, .ptr 21 (v 21) 0), (4, .sl 4 (R.map Rw.av)), (5, .own 72 (v 72)), (6, .sl 4 ((outR R i.2).map Rw.av))]) (fun v i => [(21, .box i.1.cells), (72, .buf 35 4 (i.2.map Rw.av))]) ?_ ?_
  · exact ⟨(E, R), ⟨hE, ⟨fun _ h => h, nodup_of hp⟩, h8⟩, trivial, ⟨rfl, rfl, rfl, by rw [outR_all]; rfl, trivial⟩, ⟨rfl, rfl, trivial⟩⟩
  · rintro v ⟨D, Q⟩ ⟨hD, hQ, hQ8⟩
    simp only at hD hQ hQ8
    dsimp only
    repeat (first | ((with_reducible refine k_move ?_); refine m_move rfl ?_) | ((with_reducible refine k_call ?_); refine x_len_own tbOk rfl rfl rfl rfl ?_) | ((with_reducible refine k_bin ?_); refine m_binI rfl rfl rfl ?_)  | refine e_nrm ?_ | refine x_none rfl ?_ | with_reducible refine q_then ?_ | with_reducible refine awp_seq ?_ | ((with_reducible refine w_region ?_ ?_); kernel_rfl))
    refine w_cond rfl (fun c => ?_) (fun c => ?_)
    · have hpos : 0 < Q.length := by simpa using c
      have hml : (Q.map Rw.av).length = Q.length := by simp
      have hn := next_A (G := X.G) D ((Q.map Rw.av).length : Int) hD (by omega) (by omega)
      have r := D.val_range (n := ((Q.map Rw.av).length : Int)) (by omega)
      have rlt := r.2.1 (by omega)
      obtain ⟨i, hi⟩ := Int.eq_ofNat_of_zero_le r.1
      rw [hi] at hn rlt
      obtain ⟨q, hq⟩ := some_at (L := Q) (k := i) (by omega)
      obtain ⟨a1, a2⟩ := add_rest hc (by omega) hQ hq
      have hQ' := hQ.step hq
      have hsub : ∀ p : Rw → Bool, ∀ r ∈ R.filter p, r.h.n.size ≤ maxLen := fun p r hr => hN.max r (List.mem_filter.1 hr).1
      have hlen : ∀ p : Rw → Bool, (R.filter p).length ≤ maxLen := fun p => Nat.le_trans (List.length_filter_le p R) hRm
      have hqn := hN.max q (hQ.mem q (List.mem_of_getElem? hq))
      have g1 := add_A (G := X.G) (outR R Q) q hG (hsub _) (hlen _) hqn
      rw [a1] at g1
      have g2 := kcheck_A (G := X.G) (outR R (Q.take i ++ Q.drop (i + 1))) hG (hsub _) (hlen _)
      rw [show chk (outR R (Q.take i ++ Q.drop (i + 1))) = 0 from chk_filter hc _] at g2
      have g3 := add_A (G := X.G) (outR R (Q.take i ++ Q.drop (i + 1))) q hG (hsub _) (hlen _) hqn
      rw [a2] at g3
      repeat (first | ((with_reducible refine k_move ?_); refine m_move rfl ?_) | ((with_reducible refine k_call ?_); refine x_len_own tbOk rfl rfl rfl rfl ?_)  | refine x_none rfl ?_ | with_reducible refine q_then ?_ | with_reducible refine awp_seq ?_ | with_reducible refine awp_block ?_ | with_reducible refine awp_skip ?_ | ((with_reducible refine w_region ?_ ?_); kernel_rfl))
      refine x_call (ss := [(21, v 21)]) (hn) (by repeat' (first | exact trivial | exact Ren.v _ | exact Ren.sl _ _ | exact Ren.ep _ | exact Ren.ptr _ _ _ _ rfl | exact Ren.nil _ | exact Ren.own _ _ _ _ ⟨_, rfl⟩ | refine ren_ag ?_ | refine ren_tu ?_ | refine ren_fn ?_ | refine ⟨?_, ?_⟩)) (by simp) (in1 rfl rfl) rfl (back1 rfl) (by repeat' (first | exact trivial | exact RenB.v _ | exact RenB.sl _ _ | exact RenB.ep _ | exact RenB.ptr _ _ _ _ rfl | refine renb_ag ?_ | refine renb_tu ?_ | refine ⟨?_, ?_⟩)) ?_
      repeat (first | ((with_reducible refine k_move ?_); refine m_move rfl ?_) | ((with_reducible refine k_assign ?_); refine m_assign rfl ?_)  | refine e_nrm ?_ | refine x_none rfl ?_ | with_reducible refine q_then ?_ | with_reducible refine awp_seq ?_ | ((with_reducible refine w_region ?_ ?_); kernel_rfl))
      with_reducible refine k_indexAddr ?_
      refine x_indexAddr_own tbOk rfl rfl rfl rfl rfl rfl ⟨by omega, by omega⟩ ?_
      repeat (first   | refine x_none rfl ?_  )
      with_reducible refine k_load ?_
      refine x_load_po_agg (cs := q.av.cells) tbOk rfl rfl rfl rfl (by rw [Int.toNat_natCast]; exact row_at hq) rfl (by omega) ?_
      repeat (first   | refine x_none rfl ?_  )
      refine x_call0 (g1) (by repeat' (first | exact trivial | exact Ren.v _ | exact Ren.sl _ _ | exact Ren.ep _ | exact Ren.ptr _ _ _ _ rfl | exact Ren.nil _ | exact Ren.own _ _ _ _ ⟨_, rfl⟩ | refine ren_ag ?_ | refine ren_tu ?_ | refine ren_fn ?_ | refine ⟨?_, ?_⟩)) (by repeat' (first | exact trivial | exact RenB.v _ | exact RenB.sl _ _ | exact RenB.ep _ | exact RenB.ptr _ _ _ _ rfl | refine renb_ag ?_ | refine renb_tu ?_ | refine ⟨?_, ?_⟩)) ?_
      repeat (first | ((with_reducible refine k_move ?_); refine m_move rfl ?_) | ((with_reducible refine k_assign ?_); refine m_assign rfl ?_) | ((with_reducible refine k_extract ?_); refine x_extract rfl rfl ?_) | ((with_reducible refine k_bin ?_); refine m_binI rfl rfl rfl ?_)  | refine e_nrm ?_ | refine x_none rfl ?_ | refine x_run_f rfl rfl (by first | rfl | assumption) ?_ | with_reducible refine q_then ?_ | with_reducible refine awp_seq ?_ | ((with_reducible refine w_region ?_ ?_); kernel_rfl))
      refine x_call0 (g2) (by repeat' (first | exact trivial | exact Ren.v _ | exact Ren.sl _ _ | exact Ren.ep _ | exact Ren.ptr _ _ _ _ rfl | exact Ren.nil _ | exact Ren.own _ _ _ _ ⟨_, rfl⟩ | refine ren_ag ?_ | refine ren_tu ?_ | refine ren_fn ?_ | refine ⟨?_, ?_⟩)) (by repeat' (first | exact trivial | exact RenB.v _ | exact RenB.sl _ _ | exact RenB.ep _ | exact RenB.ptr _ _ _ _ rfl | refine renb_ag ?_ | refine renb_tu ?_ | refine ⟨?_, ?_⟩)) ?_
      repeat (first | ((with_reducible refine k_move ?_); refine m_move rfl ?_) | ((with_reducible refine k_pick ?_); refine m_pickf rfl (by first | rfl | assumption) rfl ?_) | ((with_reducible refine k_bin ?_); refine m_binI rfl rfl rfl ?_)  | refine e_nrm ?_ | refine x_none rfl ?_ | refine x_run_f rfl rfl (by first | rfl | assumption) ?_ | with_reducible refine q_then ?_ | with_reducible refine awp_seq ?_ | with_reducible refine awp_skip ?_ | ((with_reducible refine w_region ?_ ?_); kernel_rfl) | refine w_cond_f rfl (by first | rfl | assumption) ?_)
      with_reducible refine k_indexAddr ?_
      refine x_indexAddr_own tbOk rfl rfl rfl rfl rfl rfl ⟨by omega, by omega⟩ ?_
      repeat (first   | refine x_none rfl ?_  )
      with_reducible refine k_load ?_
      refine x_load_po_agg (cs := q.av.cells) tbOk rfl rfl rfl rfl (by rw [Int.toNat_natCast]; exact row_at hq) rfl (by omega) ?_
      repeat (first   | refine x_none rfl ?_  )
      refine x_call0 (g3) (by repeat' (first | exact trivial | exact Ren.v _ | exact Ren.sl _ _ | exact Ren.ep _ | exact Ren.ptr _ _ _ _ rfl | exact Ren.nil _ | exact Ren.own _ _ _ _ ⟨_, rfl⟩ | refine ren_ag ?_ | refine ren_tu ?_ | refine ren_fn ?_ | refine ⟨?_, ?_⟩)) (by repeat' (first | exact trivial | exact RenB.v _ | exact RenB.sl _ _ | exact RenB.ep _ | exact RenB.ptr _ _ _ _ rfl | refine renb_ag ?_ | refine renb_tu ?_ | refine ⟨?_, ?_⟩)) ?_
      repeat (first | ((with_reducible refine k_move ?_); refine m_move rfl ?_) | ((with_reducible refine k_assign ?_); refine m_assign rfl ?_) | ((with_reducible refine k_extract ?_); refine x_extract rfl rfl ?_) | ((with_reducible refine k_bin ?_); refine m_binI rfl rfl rfl ?_)  | refine e_nrm ?_ | refine x_none rfl ?_ | with_reducible refine q_then ?_ | with_reducible refine awp_seq ?_ | with_reducible refine awp_skip ?_ | ((with_reducible refine w_region ?_ ?_); kernel_rfl) | ((with_reducible refine w_draw mixd ?_ ?_); kernel_rfl) | refine w_cond_f rfl (by first | rfl | assumption) ?_)
      with_reducible refine k_slice ?_
      refine x_slice_os tbOk rfl rfl rfl rfl rfl rfl rfl (by refine ⟨?_, ?_, ?_⟩ <;> omega) (by omega) ?_
      repeat (first | ((with_reducible refine k_move ?_); refine m_move rfl ?_) | ((with_reducible refine k_bin ?_); refine x_add_in rfl rfl (by omega) ?_)  | refine x_none rfl ?_  )
      with_reducible refine k_slice ?_
      refine x_slice_os tbOk rfl rfl rfl rfl rfl rfl rfl (by refine ⟨?_, ?_, ?_⟩ <;> omega) (by omega) ?_
      repeat (first   | refine x_none rfl ?_  )
      refine x_append_os (s := 72) (k := v 72) (L := Q.map Rw.av) (i := i) (j := i + 1) tbOk rfl rfl rfl rfl rfl (by decide) ?_ ?_ rfl rfl rfl (by omega) (by omega) (by omega) (by omega) (by omega) ?_
      · rfl
      · have e1 : ((i : Int) + 1).toNat = i + 1 := by omega
        have e2 : (((Q.map Rw.av).length : Int)).toNat = (Q.map Rw.av).length := by omega
        show AV.os 72 (v 72) 4 ((i : Int) + 1).toNat (((Q.map Rw.av).length : Int)).toNat = _
        rw [e1, e2]
      repeat (first | ((with_reducible refine k_assign ?_); refine m_assign rfl ?_)  | refine e_drw (by kernel_rfl) ?_ | refine x_none rfl ?_ | with_reducible refine q_then ?_ | with_reducible refine q_block ?_ )
      refine ⟨(D.next, Q.take i ++ Q.drop (i + 1)), ⟨hD.next, hQ', ?_⟩, ?_, ⟨rfl, rfl, rfl, rfl, trivial⟩, ⟨?_, ?_, trivial⟩⟩
      · show (Q.take i ++ Q.drop (i + 1)).length ≤ 8
        simp only [List.length_append, List.length_take, List.length_drop]; omega
      · show (Q.take i ++ Q.drop (i + 1)).length < Q.length
        simp only [List.length_append, List.length_take, List.length_drop]; omega
      · rfl
      · exact hc_buf (by rw [List.map_append, List.map_take, List.map_drop])
    · have h0 : Q = [] := by
        cases Q with
        | nil => rfl
        | cons x Q => simp at c
      subst h0
      rw [outR_nil]
      have hS := same_A (G := X.G) R R (by omega)
      rw [show sameR R R = true by simp [sameR]] at hS
      repeat (first | ((with_reducible refine k_move ?_); refine m_move rfl ?_)  | refine x_none rfl ?_ | with_reducible refine q_then ?_ | with_reducible refine q_then_exit ?_ | with_reducible refine awp_seq ?_ | with_reducible refine awp_exit ?_ | ((with_reducible refine q_block_exit ?_ ?_); rfl) | ((with_reducible refine w_region ?_ ?_); kernel_rfl))
      refine x_call0 (hS) (by repeat' (first | exact trivial | exact Ren.v _ | exact Ren.sl _ _ | exact Ren.ep _ | exact Ren.ptr _ _ _ _ rfl | exact Ren.nil _ | exact Ren.own _ _ _ _ ⟨_, rfl⟩ | refine ren_ag ?_ | refine ren_tu ?_ | refine ren_fn ?_ | refine ⟨?_, ?_⟩)) (by repeat' (first | exact trivial | exact RenB.v _ | exact RenB.sl _ _ | exact RenB.ep _ | exact RenB.ptr _ _ _ _ rfl | refine renb_ag ?_ | refine renb_tu ?_ | refine ⟨?_, ?_⟩)) ?_
      repeat (first | ((with_reducible refine k_assign ?_); refine m_assign rfl ?_)  | refine e_nrm ?_ | refine x_none rfl ?_ | with_reducible refine q_then ?_ | with_reducible refine awp_ret ?_ )
      refine ret_v (by first | exact .inr rfl | exact .inl rfl) rfl rfl ?_
      rfl
end Go.Proofs.YtbacidnhjmdnlaaDoor
