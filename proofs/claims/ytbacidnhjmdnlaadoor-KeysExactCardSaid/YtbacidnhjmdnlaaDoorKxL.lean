/- permitofficelaw23.KeysExact, by the abstract machine: for all its arguments it answers true; conditions: the table of classes stands. -/
import Derived.Test.YtbacidnhjmdnlaaDoorKxC
set_option linter.unusedVariables false
set_option linter.unusedSimpArgs false
namespace Go.Proofs.YtbacidnhjmdnlaaDoor
open Go Go.RowKit
set_option maxRecDepth 10000
variable {G : Nat → Option (List Value)}
theorem NamesOk.max {L : List Rw} (h : NamesOk L) : ∀ r ∈ L, r.h.n.size ≤ maxLen := fun r hr => by have := h r hr; unfold maxLen; omega
theorem give_len (L : List Rw) (n : Int) (a b : Hol) : (giveP L n a b).1.length ≤ L.length := by
  unfold giveP
  split
  · simp
  split
  · simp
  split
  · simp
  split
  · split
    · simp
    · simp
  · simp
theorem add_len (L : List Rw) (r : Rw) : (addP L r).1.length ≤ L.length + 1 := by
  unfold addP
  split
  · simp
  split
  · simp
  split
  · simp
  split
  · simp
  split
  · simp
  · simp; omega
theorem find_name (L : List Rw) (n : Int) (hs : ∀ r ∈ L, r.h.n.size ≤ maxLen) : (findP L n).1.n.size ≤ maxLen := by
  unfold findP
  split
  · decide
  split
  · decide
  split
  · rename_i r hr
    exact hs r (List.mem_of_getElem? hr)
  · decide
theorem sameR_self (L : List Rw) : sameR L L = true := by unfold sameR; simp
set_option maxHeartbeats 16000000 in
theorem exact_law (l : List Int) (raw : List Rw) (h to : Hol) (number : Int) (hraw : ∀ r ∈ raw, r.h.n.size ≤ maxLen) (hrl : raw.length ≤ maxLen) (hh : h.n.size ≤ maxLen) (hto : to.n.size ≤ maxLen) (hG : GCls G) :
    ACalls Tryd.prog G 6 [.sl 1 (l.map iv), .sl 4 (raw.map Rw.av), h.av, to.av, .v (.int .i64 number)] [] (.v (.bool true)) [] := by
  refine acalls_of tbOk (enter_of Tryd.func6 (by kernel_rfl) rfl) Tryd.func6 rfl _ Tryd.ntmps6 (Nat.le_of_ble_eq_true rfl) fun X hX => ?_
  subst hX
  repeat (first | ((with_reducible refine k_assign ?_); refine m_assign rfl ?_) | ((with_reducible refine k_box ?_); refine m_box rfl rfl rfl ?_)  | refine e_nrm ?_ | refine x_none rfl ?_ | with_reducible refine q_then ?_ | with_reducible refine awp_seq ?_ | ((with_reducible refine w_region ?_ ?_); kernel_rfl))
  refine x_call0 (awake_A hG) (by repeat' (first | exact trivial | exact Ren.v _ | exact Ren.sl _ _ | exact Ren.ep _ | exact Ren.ptr _ _ _ _ rfl | exact Ren.nil _ | exact Ren.own _ _ _ _ ⟨_, rfl⟩ | refine ren_ag ?_ | refine ren_tu ?_ | refine ren_fn ?_ | refine ⟨?_, ?_⟩)) (by repeat' (first | exact trivial | exact RenB.v _ | exact RenB.sl _ _ | exact RenB.ep _ | exact RenB.ptr _ _ _ _ rfl | refine renb_ag ?_ | refine renb_tu ?_ | refine ⟨?_, ?_⟩)) ?_
  repeat (first | ((with_reducible refine k_move ?_); refine m_move rfl ?_) | ((with_reducible refine k_un ?_); refine x_not rfl ?_)  | refine x_none rfl ?_ | refine x_run_f rfl rfl (by first | rfl | assumption) ?_  )
  refine x_call0 (few_A (l.map iv)) (by repeat' (first | exact trivial | exact Ren.v _ | exact Ren.sl _ _ | exact Ren.ep _ | exact Ren.ptr _ _ _ _ rfl | exact Ren.nil _ | exact Ren.own _ _ _ _ ⟨_, rfl⟩ | refine ren_ag ?_ | refine ren_tu ?_ | refine ren_fn ?_ | refine ⟨?_, ?_⟩)) (by repeat' (first | exact trivial | exact RenB.v _ | exact RenB.sl _ _ | exact RenB.ep _ | exact RenB.ptr _ _ _ _ rfl | refine renb_ag ?_ | refine renb_tu ?_ | refine ⟨?_, ?_⟩)) ?_
  repeat (first | ((with_reducible refine k_move ?_); refine m_move rfl ?_) | ((with_reducible refine k_un ?_); refine x_not rfl ?_) | ((with_reducible refine k_pick ?_); refine m_pickf rfl (by first | rfl | assumption) rfl ?_)  | refine x_none rfl ?_ | refine x_run_f rfl rfl (by first | rfl | assumption) ?_  )
  refine x_split rfl rfl (fun c => ?_) (fun c => ?_)
  · repeat (first | ((with_reducible refine k_pick ?_); refine m_pickt rfl (by first | rfl | assumption) rfl ?_)  | refine e_nrm ?_ | refine x_none rfl ?_ | refine x_skip_f rfl rfl (by first | rfl | assumption) ?_ | with_reducible refine q_then ?_ | with_reducible refine awp_seq ?_ | ((with_reducible refine w_region ?_ ?_); kernel_rfl) | refine w_cond_t rfl (by first | rfl | assumption) ?_)
    refine x_call0 (awake_A hG) (by repeat' (first | exact trivial | exact Ren.v _ | exact Ren.sl _ _ | exact Ren.ep _ | exact Ren.ptr _ _ _ _ rfl | exact Ren.nil _ | exact Ren.own _ _ _ _ ⟨_, rfl⟩ | refine ren_ag ?_ | refine ren_tu ?_ | refine ren_fn ?_ | refine ⟨?_, ?_⟩)) (by repeat' (first | exact trivial | exact RenB.v _ | exact RenB.sl _ _ | exact RenB.ep _ | exact RenB.ptr _ _ _ _ rfl | refine renb_ag ?_ | refine renb_tu ?_ | refine ⟨?_, ?_⟩)) ?_
    repeat (first | ((with_reducible refine k_assign ?_); refine m_assign rfl ?_)  | refine e_nrm ?_ | refine x_none rfl ?_ | with_reducible refine q_then ?_ | with_reducible refine q_then_ret ?_ | with_reducible refine awp_ret ?_ )
    refine ret_v (by first | exact .inr rfl | exact .inl rfl) rfl rfl ?_
    rfl
  have h400 : l.length ≤ 400 := by simp at c; omega
  repeat (first | ((with_reducible refine k_move ?_); refine m_move rfl ?_) | ((with_reducible refine k_pick ?_); refine m_pickf rfl (by first | rfl | assumption) rfl ?_) | ((with_reducible refine k_call ?_); refine x_len tbOk rfl rfl ?_) | ((with_reducible refine k_bin ?_); refine m_binI rfl rfl rfl ?_)  | refine e_nrm ?_ | refine x_none rfl ?_ | refine x_run_f rfl rfl (by first | rfl | assumption) ?_ | with_reducible refine q_then ?_ )
  refine w_cond rfl (fun c => ?_) (fun c => ?_)
  · repeat (first   | refine x_none rfl ?_ | with_reducible refine awp_seq ?_ | ((with_reducible refine w_region ?_ ?_); kernel_rfl))
    refine x_call0 (awake_A hG) (by repeat' (first | exact trivial | exact Ren.v _ | exact Ren.sl _ _ | exact Ren.ep _ | exact Ren.ptr _ _ _ _ rfl | exact Ren.nil _ | exact Ren.own _ _ _ _ ⟨_, rfl⟩ | refine ren_ag ?_ | refine ren_tu ?_ | refine ren_fn ?_ | refine ⟨?_, ?_⟩)) (by repeat' (first | exact trivial | exact RenB.v _ | exact RenB.sl _ _ | exact RenB.ep _ | exact RenB.ptr _ _ _ _ rfl | refine renb_ag ?_ | refine renb_tu ?_ | refine ⟨?_, ?_⟩)) ?_
    repeat (first | ((with_reducible refine k_assign ?_); refine m_assign rfl ?_)  | refine e_nrm ?_ | refine x_none rfl ?_ | with_reducible refine q_then ?_ | with_reducible refine q_then_ret ?_ | with_reducible refine awp_ret ?_ )
    refine ret_v (by first | exact .inr rfl | exact .inl rfl) rfl rfl ?_
    rfl
  have h200 : raw.length ≤ 200 := by simp at c; omega
  have hD := DkOk.new h400
  have hR := rows_A (G := X.G) (dk0 l) hD
  obtain ⟨hE, hN, h8⟩ := rowsP_ok hD
  generalize rowsP (dk0 l) = S at hR hE hN h8
  obtain ⟨E, Y⟩ := S
  simp only at hR hE hN h8
  have hH1 := holder_A (G := X.G) E hE
  have hE2 := holD_ok hE
  have hn1 := holOf_name E
  generalize holOf E = from_ at hH1 hn1
  generalize holD E = E2 at hH1 hE2
  have hH2 := holder_A (G := X.G) E2 hE2
  have hE3 := holD_ok hE2
  have hn2 := holOf_name E2
  generalize holOf E2 = into at hH2 hn2
  generalize holD E2 = E3 at hH2 hE3
  have hf : from_.n.size ≤ maxLen := by unfold maxLen; omega
  have hi : into.n.size ≤ maxLen := by unfold maxLen; omega
  have hNx := next_A (G := X.G) E3 60 hE3 (by omega) (by omega)
  generalize E3.val 60 = nn at hNx
  repeat (first | ((with_reducible refine k_move ?_); refine m_move rfl ?_)  | refine x_none rfl ?_ | with_reducible refine q_then ?_ | with_reducible refine awp_seq ?_ | with_reducible refine awp_skip ?_ | ((with_reducible refine w_region ?_ ?_); kernel_rfl))
  refine x_call_new (new_A l) (by repeat' (first | exact trivial | exact Ren.v _ | exact Ren.sl _ _ | exact Ren.ep _ | exact Ren.ptr _ _ _ _ rfl | exact Ren.nil _ | exact Ren.own _ _ _ _ ⟨_, rfl⟩ | refine ren_ag ?_ | refine ren_tu ?_ | refine ren_fn ?_ | refine ⟨?_, ?_⟩)) (by repeat' (first | exact trivial | exact RenB.v _ | exact RenB.sl _ _ | exact RenB.ep _ | exact RenB.ptr _ _ _ _ rfl | refine renb_ag ?_ | refine renb_tu ?_ | refine ⟨?_, ?_⟩)) rfl ?_
  repeat (first | ((with_reducible refine k_move ?_); refine m_move rfl ?_) | ((with_reducible refine k_assign ?_); refine m_assign rfl ?_)  | refine e_nrm ?_ | refine x_none rfl ?_ | with_reducible refine q_then ?_ | with_reducible refine awp_seq ?_ | ((with_reducible refine w_region ?_ ?_); kernel_rfl))
  refine x_call (ss := [(52, 1)]) (hR) (by repeat' (first | exact trivial | exact Ren.v _ | exact Ren.sl _ _ | exact Ren.ep _ | exact Ren.ptr _ _ _ _ rfl | exact Ren.nil _ | exact Ren.own _ _ _ _ ⟨_, rfl⟩ | refine ren_ag ?_ | refine ren_tu ?_ | refine ren_fn ?_ | refine ⟨?_, ?_⟩)) (by simp) (in1 rfl rfl) rfl (back1 rfl) (by repeat' (first | exact trivial | exact RenB.v _ | exact RenB.sl _ _ | exact RenB.ep _ | exact RenB.ptr _ _ _ _ rfl | refine renb_ag ?_ | refine renb_tu ?_ | refine ⟨?_, ?_⟩)) ?_
  repeat (first | ((with_reducible refine k_move ?_); refine m_move rfl ?_)  | refine x_none rfl ?_  )
  refine x_call (y := from_.av) (ss := [(52, 1)]) (hH1) (by repeat' (first | exact trivial | exact Ren.v _ | exact Ren.sl _ _ | exact Ren.ep _ | exact Ren.ptr _ _ _ _ rfl | exact Ren.nil _ | exact Ren.own _ _ _ _ ⟨_, rfl⟩ | refine ren_ag ?_ | refine ren_tu ?_ | refine ren_fn ?_ | refine ⟨?_, ?_⟩)) (by simp) (in1 rfl rfl) rfl (back1 rfl) (by repeat' (first | exact trivial | exact RenB.v _ | exact RenB.sl _ _ | exact RenB.ep _ | exact RenB.ptr _ _ _ _ rfl | refine renb_ag ?_ | refine renb_tu ?_ | refine ⟨?_, ?_⟩)) ?_
  repeat (first | ((with_reducible refine k_move ?_); refine m_move rfl ?_)  | refine x_none rfl ?_  )
  refine x_call (y := into.av) (ss := [(52, 1)]) (hH2) (by repeat' (first | exact trivial | exact Ren.v _ | exact Ren.sl _ _ | exact Ren.ep _ | exact Ren.ptr _ _ _ _ rfl | exact Ren.nil _ | exact Ren.own _ _ _ _ ⟨_, rfl⟩ | refine ren_ag ?_ | refine ren_tu ?_ | refine ren_fn ?_ | refine ⟨?_, ?_⟩)) (by simp) (in1 rfl rfl) rfl (back1 rfl) (by repeat' (first | exact trivial | exact RenB.v _ | exact RenB.sl _ _ | exact RenB.ep _ | exact RenB.ptr _ _ _ _ rfl | refine renb_ag ?_ | refine renb_tu ?_ | refine ⟨?_, ?_⟩)) ?_
  repeat (first | ((with_reducible refine k_move ?_); refine m_move rfl ?_) | ((with_reducible refine k_assign ?_); refine m_assign rfl ?_) | ((with_reducible refine k_store ?_); refine m_store tbOk rfl rfl rfl rfl rfl rfl rfl (Nat.le_of_ble_eq_true rfl) rfl ?_) | ((with_reducible refine k_alloc ?_); refine x_alloc tbOk rfl rfl ?_)  | refine e_nrm ?_ | refine x_none rfl ?_ | with_reducible refine q_then ?_ | with_reducible refine awp_seq ?_ | ((with_reducible refine w_region ?_ ?_); kernel_rfl))
  refine x_call (ss := [(52, 1)]) (hNx) (by repeat' (first | exact trivial | exact Ren.v _ | exact Ren.sl _ _ | exact Ren.ep _ | exact Ren.ptr _ _ _ _ rfl | exact Ren.nil _ | exact Ren.own _ _ _ _ ⟨_, rfl⟩ | refine ren_ag ?_ | refine ren_tu ?_ | refine ren_fn ?_ | refine ⟨?_, ?_⟩)) (by simp) (in1 rfl rfl) rfl (back1 rfl) (by repeat' (first | exact trivial | exact RenB.v _ | exact RenB.sl _ _ | exact RenB.ep _ | exact RenB.ptr _ _ _ _ rfl | refine renb_ag ?_ | refine renb_tu ?_ | refine ⟨?_, ?_⟩)) ?_
  repeat (first | ((with_reducible refine k_move ?_); refine m_move rfl ?_) | ((with_reducible refine k_assign ?_); refine m_assign rfl ?_) | ((with_reducible refine k_call ?_); refine x_len tbOk rfl rfl ?_) | ((with_reducible refine k_buildSlice ?_); refine m_buildSlice tbOk rfl rfl rfl rfl rfl (by omega) rfl rfl rfl ?_) | refine e_nrm ?_ | refine x_none rfl ?_ | with_reducible refine q_then ?_ | with_reducible refine awp_seq ?_ | with_reducible refine awp_block ?_ | ((with_reducible refine w_region ?_ ?_); kernel_rfl))
  refine awp_loop (ι := Nat) (fun a => a ≤ 2) (fun a => 2 - a) (fun v a => [(4, .v (.int .i64 number)), (7, .ptr 7 (v 7) 0), (8, .ptr 8 (v 8) 0), (13, .ptr 13 (v 13) 0), (14, .ptr 14 (v 14) 0), (15, .v (.int .i64 nn)), (63, .sl 1 [.sl 4 (Y.map Rw.av), .sl 4 (raw.map Rw.av)]), (64, .v (.int .i64 2)), (65, .v (.int .i64 (a : Nat)))]) (fun v a => [(7, .box h.av.cells), (8, .box to.av.cells), (13, .box from_.av.cells), (14, .box into.av.cells)]) ?_ ?_
  · exact ⟨0, Nat.zero_le _, trivial, ⟨rfl, rfl, rfl, rfl, rfl, rfl, rfl, rfl, rfl, trivial⟩, ⟨rfl, rfl, rfl, rfl, trivial⟩⟩
  · rintro v a ha
    repeat (first | ((with_reducible refine k_bin ?_); refine m_binI rfl rfl rfl ?_)  | refine e_nrm ?_ | refine x_none rfl ?_ | with_reducible refine q_then ?_ | with_reducible refine awp_seq ?_ | ((with_reducible refine w_region ?_ ?_); kernel_rfl))
    refine w_cond rfl (fun c => ?_) (fun c => ?_)
    · have hlt : a < 2 := by simp at c; omega
      obtain ⟨R, hRy, hRs, hRl⟩ : ∃ R : List Rw, ([.sl 4 (Y.map Rw.av), .sl 4 (raw.map Rw.av)] : List AV)[a]? = some (.sl 4 (R.map Rw.av)) ∧ (∀ r ∈ R, r.h.n.size ≤ maxLen) ∧ R.length ≤ 200 := by
        obtain rfl | rfl : a = 0 ∨ a = 1 := by omega
        · exact ⟨Y, rfl, hN.max, by omega⟩
        · exact ⟨raw, rfl, hraw, h200⟩
      have hRm : R.length ≤ maxLen := by unfold maxLen; omega
      have p1 : (chk R != chk R) = false := by simp
      have p2 : (rightB h != rightB h) = false := by simp
      repeat (first | ((with_reducible refine k_move ?_); refine m_move rfl ?_) | ((with_reducible refine k_assign ?_); refine m_assign rfl ?_) | ((with_reducible refine k_load ?_); refine x_load_ep_one tbOk rfl rfl rfl ?_) | ((with_reducible refine k_indexAddr ?_); refine x_indexAddr_n tbOk rfl rfl rfl rfl (by assumption) ?_)  | refine e_nrm ?_ | refine x_none rfl ?_ | with_reducible refine q_then ?_ | with_reducible refine awp_seq ?_ | with_reducible refine awp_block ?_ | with_reducible refine awp_skip ?_ | ((with_reducible refine w_region ?_ ?_); kernel_rfl) | ((with_reducible refine w_draw mixd ?_ ?_); kernel_rfl))
      refine x_call0 (kcheck_A R hG hRs hRm) (by repeat' (first | exact trivial | exact Ren.v _ | exact Ren.sl _ _ | exact Ren.ep _ | exact Ren.ptr _ _ _ _ rfl | exact Ren.nil _ | exact Ren.own _ _ _ _ ⟨_, rfl⟩ | refine ren_ag ?_ | refine ren_tu ?_ | refine ren_fn ?_ | refine ⟨?_, ?_⟩)) (by repeat' (first | exact trivial | exact RenB.v _ | exact RenB.sl _ _ | exact RenB.ep _ | exact RenB.ptr _ _ _ _ rfl | refine renb_ag ?_ | refine renb_tu ?_ | refine ⟨?_, ?_⟩)) ?_
      repeat (first | ((with_reducible refine k_move ?_); refine m_move rfl ?_)  | refine x_none rfl ?_  )
      refine x_call0 (rcheck_A R hRs hRm) (by repeat' (first | exact trivial | exact Ren.v _ | exact Ren.sl _ _ | exact Ren.ep _ | exact Ren.ptr _ _ _ _ rfl | exact Ren.nil _ | exact Ren.own _ _ _ _ ⟨_, rfl⟩ | refine ren_ag ?_ | refine ren_tu ?_ | refine ren_fn ?_ | refine ⟨?_, ?_⟩)) (by repeat' (first | exact trivial | exact RenB.v _ | exact RenB.sl _ _ | exact RenB.ep _ | exact RenB.ptr _ _ _ _ rfl | refine renb_ag ?_ | refine renb_tu ?_ | refine ⟨?_, ?_⟩)) ?_
      repeat (first | ((with_reducible refine k_move ?_); refine m_move rfl ?_) | ((with_reducible refine k_load ?_); refine x_load_agg tbOk rfl rfl rfl rfl (Nat.le_of_ble_eq_true rfl) ?_) | ((with_reducible refine k_bin ?_); refine m_binI rfl rfl rfl ?_)  | refine x_none rfl ?_ | refine x_run_f rfl rfl (by first | rfl | assumption) ?_  )
      refine x_call0 (right_A h hG hh) (by repeat' (first | exact trivial | exact Ren.v _ | exact Ren.sl _ _ | exact Ren.ep _ | exact Ren.ptr _ _ _ _ rfl | exact Ren.nil _ | exact Ren.own _ _ _ _ ⟨_, rfl⟩ | refine ren_ag ?_ | refine ren_tu ?_ | refine ren_fn ?_ | refine ⟨?_, ?_⟩)) (by repeat' (first | exact trivial | exact RenB.v _ | exact RenB.sl _ _ | exact RenB.ep _ | exact RenB.ptr _ _ _ _ rfl | refine renb_ag ?_ | refine renb_tu ?_ | refine ⟨?_, ?_⟩)) ?_
      repeat (first | ((with_reducible refine k_load ?_); refine x_load_agg tbOk rfl rfl rfl rfl (Nat.le_of_ble_eq_true rfl) ?_)  | refine x_run_f rfl rfl (by first | rfl | assumption) ?_  )
      refine x_call0 (rright_A h hh) (by repeat' (first | exact trivial | exact Ren.v _ | exact Ren.sl _ _ | exact Ren.ep _ | exact Ren.ptr _ _ _ _ rfl | exact Ren.nil _ | exact Ren.own _ _ _ _ ⟨_, rfl⟩ | refine ren_ag ?_ | refine ren_tu ?_ | refine ren_fn ?_ | refine ⟨?_, ?_⟩)) (by repeat' (first | exact trivial | exact RenB.v _ | exact RenB.sl _ _ | exact RenB.ep _ | exact RenB.ptr _ _ _ _ rfl | refine renb_ag ?_ | refine renb_tu ?_ | refine ⟨?_, ?_⟩)) ?_
      repeat (first | ((with_reducible refine k_move ?_); refine m_move rfl ?_) | ((with_reducible refine k_pick ?_); refine m_pickf rfl (by first | rfl | assumption) rfl ?_) | ((with_reducible refine k_call ?_); refine x_len tbOk rfl rfl ?_) | ((with_reducible refine k_bin ?_); refine x_neq_b (by exact Tryd.underlying4) rfl rfl ?_) | ((with_reducible refine k_buildSlice ?_); refine m_buildSlice tbOk rfl rfl rfl rfl rfl (by omega) rfl rfl rfl ?_) | refine e_nrm ?_ | refine e_drw (by kernel_rfl) ?_ | refine x_none rfl ?_ | refine x_run_f rfl rfl (by first | rfl | assumption) ?_ | with_reducible refine q_then ?_ | with_reducible refine awp_seq ?_ | with_reducible refine awp_block ?_ | with_reducible refine awp_skip ?_ | ((with_reducible refine w_region ?_ ?_); kernel_rfl) | refine w_cond_f rfl (by first | rfl | assumption) ?_)
      refine awp_loop (ι := Nat) (fun b => b ≤ 3) (fun b => 3 - b) (fun v b => [(4, .v (.int .i64 number)), (7, .ptr 7 (v 7) 0), (8, .ptr 8 (v 8) 0), (13, .ptr 13 (v 13) 0), (14, .ptr 14 (v 14) 0), (15, .v (.int .i64 nn)), (17, .sl 4 (R.map Rw.av)), (63, .sl 1 [.sl 4 (Y.map Rw.av), .sl 4 (raw.map Rw.av)]), (64, .v (.int .i64 2)), (65, .v (.int .i64 (a : Nat))), (83, .sl 1 [iv nn, iv number, iv 0]), (84, .v (.int .i64 3)), (85, .v (.int .i64 (b : Nat)))]) (fun v b => [(7, .box h.av.cells), (8, .box to.av.cells), (13, .box from_.av.cells), (14, .box into.av.cells)]) ?_ ?_
      · exact ⟨0, Nat.zero_le _, trivial, ⟨rfl, rfl, rfl, rfl, rfl, rfl, rfl, rfl, rfl, rfl, rfl, rfl, rfl, trivial⟩, ⟨rfl, rfl, rfl, rfl, trivial⟩⟩
      · clear v
        rintro v b hb
        repeat (first | ((with_reducible refine k_bin ?_); refine m_binI rfl rfl rfl ?_)  | refine e_nrm ?_ | refine x_none rfl ?_ | with_reducible refine q_then ?_ | with_reducible refine awp_seq ?_ | ((with_reducible refine w_region ?_ ?_); kernel_rfl))
        refine w_cond rfl (fun c => ?_) (fun c => ?_)
        · have hlt3 : b < 3 := by simp at c; omega
          obtain ⟨k, hky⟩ : ∃ k : Int, ([iv nn, iv number, iv 0] : List AV)[b]? = some (iv k) := by
            obtain rfl | rfl | rfl : b = 0 ∨ b = 1 ∨ b = 2 := by omega
            · exact ⟨_, rfl⟩
            · exact ⟨_, rfl⟩
            · exact ⟨_, rfl⟩
          have hF1 := find_A (G := X.G) R k hG hRs hRm
          have hF2 := rfind_A (G := X.G) R k hRs hRm
          have hBn := find_name R k hRs
          generalize findP R k = F at hF1 hF2 hBn
          obtain ⟨B, tt⟩ := F
          simp only at hF1 hF2 hBn
          have p3 : (!decide (B = B)) = false := by simp
          have p4 : (tt != tt) = false := by simp
          repeat (first | ((with_reducible refine k_move ?_); refine m_move rfl ?_) | ((with_reducible refine k_assign ?_); refine m_assign rfl ?_) | ((with_reducible refine k_load ?_); refine x_load_ep_one tbOk rfl rfl rfl ?_) | ((with_reducible refine k_indexAddr ?_); refine x_indexAddr_n tbOk rfl rfl rfl rfl (by assumption) ?_)  | refine e_nrm ?_ | refine x_none rfl ?_ | with_reducible refine q_then ?_ | with_reducible refine awp_seq ?_ | with_reducible refine awp_block ?_ | with_reducible refine awp_skip ?_ | ((with_reducible refine w_region ?_ ?_); kernel_rfl))
          refine x_call0 (hF1) (by repeat' (first | exact trivial | exact Ren.v _ | exact Ren.sl _ _ | exact Ren.ep _ | exact Ren.ptr _ _ _ _ rfl | exact Ren.nil _ | exact Ren.own _ _ _ _ ⟨_, rfl⟩ | refine ren_ag ?_ | refine ren_tu ?_ | refine ren_fn ?_ | refine ⟨?_, ?_⟩)) (by repeat' (first | exact trivial | exact RenB.v _ | exact RenB.sl _ _ | exact RenB.ep _ | exact RenB.ptr _ _ _ _ rfl | refine renb_ag ?_ | refine renb_tu ?_ | refine ⟨?_, ?_⟩)) ?_
          repeat (first | ((with_reducible refine k_move ?_); refine m_move rfl ?_) | ((with_reducible refine k_assign ?_); refine m_assign rfl ?_) | ((with_reducible refine k_store ?_); refine m_store tbOk rfl rfl rfl rfl rfl rfl rfl (Nat.le_of_ble_eq_true rfl) rfl ?_) | ((with_reducible refine k_alloc ?_); refine x_alloc tbOk rfl rfl ?_) | ((with_reducible refine k_extract ?_); refine x_extract rfl rfl ?_)  | refine e_nrm ?_ | refine x_none rfl ?_ | with_reducible refine q_then ?_ | with_reducible refine awp_seq ?_ | ((with_reducible refine w_region ?_ ?_); kernel_rfl))
          refine x_call0 (hF2) (by repeat' (first | exact trivial | exact Ren.v _ | exact Ren.sl _ _ | exact Ren.ep _ | exact Ren.ptr _ _ _ _ rfl | exact Ren.nil _ | exact Ren.own _ _ _ _ ⟨_, rfl⟩ | refine ren_ag ?_ | refine ren_tu ?_ | refine ren_fn ?_ | refine ⟨?_, ?_⟩)) (by repeat' (first | exact trivial | exact RenB.v _ | exact RenB.sl _ _ | exact RenB.ep _ | exact RenB.ptr _ _ _ _ rfl | refine renb_ag ?_ | refine renb_tu ?_ | refine ⟨?_, ?_⟩)) ?_
          repeat (first | ((with_reducible refine k_move ?_); refine m_move rfl ?_) | ((with_reducible refine k_assign ?_); refine m_assign rfl ?_) | ((with_reducible refine k_load ?_); refine x_load_agg tbOk rfl rfl rfl rfl (Nat.le_of_ble_eq_true rfl) ?_) | ((with_reducible refine k_store ?_); refine m_store tbOk rfl rfl rfl rfl rfl rfl rfl (Nat.le_of_ble_eq_true rfl) rfl ?_) | ((with_reducible refine k_alloc ?_); refine x_alloc tbOk rfl rfl ?_) | ((with_reducible refine k_extract ?_); refine x_extract rfl rfl ?_)  | refine e_nrm ?_ | refine x_none rfl ?_ | with_reducible refine q_then ?_ | with_reducible refine awp_seq ?_ | ((with_reducible refine w_region ?_ ?_); kernel_rfl))
          refine x_bin_ag rfl rfl (rfl : concL _ = some B.vals) (rfl : concL _ = some B.vals) (fun w => holNe _ _ B B w) ?_
          repeat (first | ((with_reducible refine k_move ?_); refine m_move rfl ?_) | ((with_reducible refine k_load ?_); refine x_load_agg tbOk rfl rfl rfl rfl (Nat.le_of_ble_eq_true rfl) ?_) | ((with_reducible refine k_pick ?_); refine m_pickf rfl (by first | rfl | assumption) rfl ?_) | ((with_reducible refine k_call ?_); refine x_len tbOk rfl rfl ?_) | ((with_reducible refine k_bin ?_); refine x_neq_b (by exact Tryd.underlying4) rfl rfl ?_) | ((with_reducible refine k_buildSlice ?_); refine m_buildSlice tbOk rfl rfl rfl rfl rfl (by omega) rfl rfl rfl ?_) | refine e_nrm ?_ | refine x_none rfl ?_ | refine x_run_f rfl rfl (by first | rfl | assumption) ?_ | with_reducible refine q_then ?_ | with_reducible refine awp_seq ?_ | with_reducible refine awp_block ?_ | with_reducible refine awp_skip ?_ | ((with_reducible refine w_region ?_ ?_); kernel_rfl) | refine w_cond_f rfl (by first | rfl | assumption) ?_)
          refine awp_loop (ι := Nat) (fun m => m ≤ 4) (fun m => 4 - m) (fun v m => [(4, .v (.int .i64 number)), (7, .ptr 7 (v 7) 0), (8, .ptr 8 (v 8) 0), (13, .ptr 13 (v 13) 0), (14, .ptr 14 (v 14) 0), (15, .v (.int .i64 nn)), (17, .sl 4 (R.map Rw.av)), (19, iv k), (22, .ptr 22 (v 22) 0), (63, .sl 1 [.sl 4 (Y.map Rw.av), .sl 4 (raw.map Rw.av)]), (64, .v (.int .i64 2)), (65, .v (.int .i64 (a : Nat))), (83, .sl 1 [iv nn, iv number, iv 0]), (84, .v (.int .i64 3)), (85, .v (.int .i64 (b : Nat))), (113, .sl 3 [h.av, from_.av, into.av, B.av]), (114, .v (.int .i64 4)), (115, .v (.int .i64 (m : Nat)))]) (fun v m => [(7, .box h.av.cells), (8, .box to.av.cells), (13, .box from_.av.cells), (14, .box into.av.cells), (22, .box B.av.cells)]) ?_ ?_
          · exact ⟨0, Nat.zero_le _, trivial, ⟨rfl, rfl, rfl, rfl, rfl, rfl, rfl, rfl, rfl, rfl, rfl, rfl, rfl, rfl, rfl, rfl, rfl, rfl, trivial⟩, ⟨rfl, rfl, rfl, rfl, rfl, trivial⟩⟩
          · clear v
            rintro v m hm
            repeat (first | ((with_reducible refine k_bin ?_); refine m_binI rfl rfl rfl ?_)  | refine e_nrm ?_ | refine x_none rfl ?_ | with_reducible refine q_then ?_ | with_reducible refine awp_seq ?_ | ((with_reducible refine w_region ?_ ?_); kernel_rfl))
            refine w_cond rfl (fun c => ?_) (fun c => ?_)
            · have hlt4 : m < 4 := by simp at c; omega
              obtain ⟨y, hyy, hyn⟩ : ∃ y : Hol, ([h.av, from_.av, into.av, B.av] : List AV)[m]? = some y.av ∧ y.n.size ≤ maxLen := by
                obtain rfl | rfl | rfl | rfl : m = 0 ∨ m = 1 ∨ m = 2 ∨ m = 3 := by omega
                · exact ⟨h, rfl, hh⟩
                · exact ⟨from_, rfl, hf⟩
                · exact ⟨into, rfl, hi⟩
                · exact ⟨B, rfl, hBn⟩
              have g1 := give_A (G := X.G) R k y into hG hRs hRm hi
              have g2 := rgive_A (G := X.G) R k y into hRs hRm hi
              have l1 := give_len R k y into
              generalize giveP R k y into = Z at g1 g2 l1
              obtain ⟨P1, e1⟩ := Z
              simp only at g1 g2 l1
              have g3 := give_A (G := X.G) R k B y hG hRs hRm hyn
              have g4 := rgive_A (G := X.G) R k B y hRs hRm hyn
              have l2 := give_len R k B y
              generalize giveP R k B y = Z at g3 g4 l2
              obtain ⟨P2, e2⟩ := Z
              simp only at g3 g4 l2
              have g5 := add_A (G := X.G) R ⟨k, y⟩ hG hRs hRm hyn
              have g6 := radd_A (G := X.G) R ⟨k, y⟩ hRs hRm hyn
              have l3 := add_len R ⟨k, y⟩
              generalize addP R ⟨k, y⟩ = Z at g5 g6 l3
              obtain ⟨P3, e3⟩ := Z
              simp only at g5 g6 l3
              have s1 := same_A (G := X.G) P1 P1 (by omega)
              have s2 := same_A (G := X.G) P2 P2 (by omega)
              have s3 := same_A (G := X.G) P3 P3 (by omega)
              rw [sameR_self] at s1 s2 s3
              have d1 := heldG_A (G := X.G) R y hG hRs hRm
              have d2 := rheld_A (G := X.G) R y hRs (by omega)
              have l4 := heldG_len R y
              generalize heldG R y = D at d1 d2 l4
              have i1 := ints_A (G := X.G) D D (by omega)
              rw [show decide (D = D) = true by simp] at i1
              have q1 : (e1 != e1) = false := by simp
              have q2 : (e2 != e2) = false := by simp
              have q3 : (e3 != e3) = false := by simp
              repeat (first | ((with_reducible refine k_move ?_); refine m_move rfl ?_) | ((with_reducible refine k_load ?_); refine x_load_agg tbOk rfl rfl rfl rfl (Nat.le_of_ble_eq_true rfl) ?_) | ((with_reducible refine k_load ?_); refine x_load_ep_agg tbOk rfl rfl (Nat.le_of_ble_eq_true rfl) ?_) | ((with_reducible refine k_store ?_); refine m_store tbOk rfl rfl rfl rfl rfl rfl rfl (Nat.le_of_ble_eq_true rfl) rfl ?_) | ((with_reducible refine k_alloc ?_); refine x_alloc tbOk rfl rfl ?_) | ((with_reducible refine k_indexAddr ?_); refine x_indexAddr_n tbOk rfl rfl rfl rfl (by assumption) ?_)  | refine e_nrm ?_ | refine x_none rfl ?_ | with_reducible refine q_then ?_ | with_reducible refine awp_seq ?_ | with_reducible refine awp_block ?_ | with_reducible refine awp_skip ?_ | ((with_reducible refine w_region ?_ ?_); kernel_rfl))
              refine x_call0 (g1) (by repeat' (first | exact trivial | exact Ren.v _ | exact Ren.sl _ _ | exact Ren.ep _ | exact Ren.ptr _ _ _ _ rfl | exact Ren.nil _ | exact Ren.own _ _ _ _ ⟨_, rfl⟩ | refine ren_ag ?_ | refine ren_tu ?_ | refine ren_fn ?_ | refine ⟨?_, ?_⟩)) (by repeat' (first | exact trivial | exact RenB.v _ | exact RenB.sl _ _ | exact RenB.ep _ | exact RenB.ptr _ _ _ _ rfl | refine renb_ag ?_ | refine renb_tu ?_ | refine ⟨?_, ?_⟩)) ?_
              repeat (first | ((with_reducible refine k_move ?_); refine m_move rfl ?_) | ((with_reducible refine k_assign ?_); refine m_assign rfl ?_) | ((with_reducible refine k_load ?_); refine x_load_agg tbOk rfl rfl rfl rfl (Nat.le_of_ble_eq_true rfl) ?_) | ((with_reducible refine k_extract ?_); refine x_extract rfl rfl ?_)  | refine e_nrm ?_ | refine x_none rfl ?_ | with_reducible refine q_then ?_ | with_reducible refine awp_seq ?_ | ((with_reducible refine w_region ?_ ?_); kernel_rfl))
              refine x_call0 (g2) (by repeat' (first | exact trivial | exact Ren.v _ | exact Ren.sl _ _ | exact Ren.ep _ | exact Ren.ptr _ _ _ _ rfl | exact Ren.nil _ | exact Ren.own _ _ _ _ ⟨_, rfl⟩ | refine ren_ag ?_ | refine ren_tu ?_ | refine ren_fn ?_ | refine ⟨?_, ?_⟩)) (by repeat' (first | exact trivial | exact RenB.v _ | exact RenB.sl _ _ | exact RenB.ep _ | exact RenB.ptr _ _ _ _ rfl | refine renb_ag ?_ | refine renb_tu ?_ | refine ⟨?_, ?_⟩)) ?_
              repeat (first | ((with_reducible refine k_move ?_); refine m_move rfl ?_) | ((with_reducible refine k_assign ?_); refine m_assign rfl ?_) | ((with_reducible refine k_load ?_); refine x_load_agg tbOk rfl rfl rfl rfl (Nat.le_of_ble_eq_true rfl) ?_) | ((with_reducible refine k_extract ?_); refine x_extract rfl rfl ?_)  | refine e_nrm ?_ | refine x_none rfl ?_ | with_reducible refine q_then ?_ | with_reducible refine awp_seq ?_ | ((with_reducible refine w_region ?_ ?_); kernel_rfl))
              refine x_call0 (g3) (by repeat' (first | exact trivial | exact Ren.v _ | exact Ren.sl _ _ | exact Ren.ep _ | exact Ren.ptr _ _ _ _ rfl | exact Ren.nil _ | exact Ren.own _ _ _ _ ⟨_, rfl⟩ | refine ren_ag ?_ | refine ren_tu ?_ | refine ren_fn ?_ | refine ⟨?_, ?_⟩)) (by repeat' (first | exact trivial | exact RenB.v _ | exact RenB.sl _ _ | exact RenB.ep _ | exact RenB.ptr _ _ _ _ rfl | refine renb_ag ?_ | refine renb_tu ?_ | refine ⟨?_, ?_⟩)) ?_
              repeat (first | ((with_reducible refine k_move ?_); refine m_move rfl ?_) | ((with_reducible refine k_assign ?_); refine m_assign rfl ?_) | ((with_reducible refine k_load ?_); refine x_load_agg tbOk rfl rfl rfl rfl (Nat.le_of_ble_eq_true rfl) ?_) | ((with_reducible refine k_extract ?_); refine x_extract rfl rfl ?_)  | refine e_nrm ?_ | refine x_none rfl ?_ | with_reducible refine q_then ?_ | with_reducible refine awp_seq ?_ | ((with_reducible refine w_region ?_ ?_); kernel_rfl))
              refine x_call0 (g4) (by repeat' (first | exact trivial | exact Ren.v _ | exact Ren.sl _ _ | exact Ren.ep _ | exact Ren.ptr _ _ _ _ rfl | exact Ren.nil _ | exact Ren.own _ _ _ _ ⟨_, rfl⟩ | refine ren_ag ?_ | refine ren_tu ?_ | refine ren_fn ?_ | refine ⟨?_, ?_⟩)) (by repeat' (first | exact trivial | exact RenB.v _ | exact RenB.sl _ _ | exact RenB.ep _ | exact RenB.ptr _ _ _ _ rfl | refine renb_ag ?_ | refine renb_tu ?_ | refine ⟨?_, ?_⟩)) ?_
              repeat (first | ((with_reducible refine k_move ?_); refine m_move rfl ?_) | ((with_reducible refine k_assign ?_); refine m_assign rfl ?_) | ((with_reducible refine k_load ?_); refine x_load_agg tbOk rfl rfl rfl rfl (Nat.le_of_ble_eq_true rfl) ?_) | ((with_reducible refine k_extract ?_); refine x_extract rfl rfl ?_) | ((with_reducible refine k_build ?_); refine m_build tbOk rfl rfl rfl rfl rfl ?_)  | refine e_nrm ?_ | refine x_none rfl ?_ | with_reducible refine q_then ?_ | with_reducible refine awp_seq ?_ | ((with_reducible refine w_region ?_ ?_); kernel_rfl))
              refine x_call0 (g5) (by repeat' (first | exact trivial | exact Ren.v _ | exact Ren.sl _ _ | exact Ren.ep _ | exact Ren.ptr _ _ _ _ rfl | exact Ren.nil _ | exact Ren.own _ _ _ _ ⟨_, rfl⟩ | refine ren_ag ?_ | refine ren_tu ?_ | refine ren_fn ?_ | refine ⟨?_, ?_⟩)) (by repeat' (first | exact trivial | exact RenB.v _ | exact RenB.sl _ _ | exact RenB.ep _ | exact RenB.ptr _ _ _ _ rfl | refine renb_ag ?_ | refine renb_tu ?_ | refine ⟨?_, ?_⟩)) ?_
              repeat (first | ((with_reducible refine k_move ?_); refine m_move rfl ?_) | ((with_reducible refine k_assign ?_); refine m_assign rfl ?_) | ((with_reducible refine k_load ?_); refine x_load_agg tbOk rfl rfl rfl rfl (Nat.le_of_ble_eq_true rfl) ?_) | ((with_reducible refine k_extract ?_); refine x_extract rfl rfl ?_) | ((with_reducible refine k_build ?_); refine m_build tbOk rfl rfl rfl rfl rfl ?_)  | refine e_nrm ?_ | refine x_none rfl ?_ | with_reducible refine q_then ?_ | with_reducible refine awp_seq ?_ | ((with_reducible refine w_region ?_ ?_); kernel_rfl))
              refine x_call0 (g6) (by repeat' (first | exact trivial | exact Ren.v _ | exact Ren.sl _ _ | exact Ren.ep _ | exact Ren.ptr _ _ _ _ rfl | exact Ren.nil _ | exact Ren.own _ _ _ _ ⟨_, rfl⟩ | refine ren_ag ?_ | refine ren_tu ?_ | refine ren_fn ?_ | refine ⟨?_, ?_⟩)) (by repeat' (first | exact trivial | exact RenB.v _ | exact RenB.sl _ _ | exact RenB.ep _ | exact RenB.ptr _ _ _ _ rfl | refine renb_ag ?_ | refine renb_tu ?_ | refine ⟨?_, ?_⟩)) ?_
              repeat (first | ((with_reducible refine k_move ?_); refine m_move rfl ?_) | ((with_reducible refine k_assign ?_); refine m_assign rfl ?_) | ((with_reducible refine k_extract ?_); refine x_extract rfl rfl ?_) | ((with_reducible refine k_pick ?_); refine m_pickf rfl (by first | rfl | assumption) rfl ?_) | ((with_reducible refine k_bin ?_); refine m_binI rfl rfl rfl ?_)  | refine e_nrm ?_ | refine x_none rfl ?_ | refine x_run_f rfl rfl (by first | rfl | assumption) ?_ | with_reducible refine q_then ?_ | with_reducible refine awp_seq ?_ | ((with_reducible refine w_draw mixd ?_ ?_); kernel_rfl))
              refine x_call0 (s1) (by repeat' (first | exact trivial | exact Ren.v _ | exact Ren.sl _ _ | exact Ren.ep _ | exact Ren.ptr _ _ _ _ rfl | exact Ren.nil _ | exact Ren.own _ _ _ _ ⟨_, rfl⟩ | refine ren_ag ?_ | refine ren_tu ?_ | refine ren_fn ?_ | refine ⟨?_, ?_⟩)) (by repeat' (first | exact trivial | exact RenB.v _ | exact RenB.sl _ _ | exact RenB.ep _ | exact RenB.ptr _ _ _ _ rfl | refine renb_ag ?_ | refine renb_tu ?_ | refine ⟨?_, ?_⟩)) ?_
              repeat (first | ((with_reducible refine k_move ?_); refine m_move rfl ?_) | ((with_reducible refine k_un ?_); refine x_not rfl ?_) | ((with_reducible refine k_pick ?_); refine m_pickf rfl (by first | rfl | assumption) rfl ?_)  | refine x_none rfl ?_ | refine x_run_f rfl rfl (by first | rfl | assumption) ?_  )
              refine x_call0 (s2) (by repeat' (first | exact trivial | exact Ren.v _ | exact Ren.sl _ _ | exact Ren.ep _ | exact Ren.ptr _ _ _ _ rfl | exact Ren.nil _ | exact Ren.own _ _ _ _ ⟨_, rfl⟩ | refine ren_ag ?_ | refine ren_tu ?_ | refine ren_fn ?_ | refine ⟨?_, ?_⟩)) (by repeat' (first | exact trivial | exact RenB.v _ | exact RenB.sl _ _ | exact RenB.ep _ | exact RenB.ptr _ _ _ _ rfl | refine renb_ag ?_ | refine renb_tu ?_ | refine ⟨?_, ?_⟩)) ?_
              repeat (first | ((with_reducible refine k_move ?_); refine m_move rfl ?_) | ((with_reducible refine k_un ?_); refine x_not rfl ?_) | ((with_reducible refine k_pick ?_); refine m_pickf rfl (by first | rfl | assumption) rfl ?_)  | refine x_none rfl ?_ | refine x_run_f rfl rfl (by first | rfl | assumption) ?_  )
              refine x_call0 (s3) (by repeat' (first | exact trivial | exact Ren.v _ | exact Ren.sl _ _ | exact Ren.ep _ | exact Ren.ptr _ _ _ _ rfl | exact Ren.nil _ | exact Ren.own _ _ _ _ ⟨_, rfl⟩ | refine ren_ag ?_ | refine ren_tu ?_ | refine ren_fn ?_ | refine ⟨?_, ?_⟩)) (by repeat' (first | exact trivial | exact RenB.v _ | exact RenB.sl _ _ | exact RenB.ep _ | exact RenB.ptr _ _ _ _ rfl | refine renb_ag ?_ | refine renb_tu ?_ | refine ⟨?_, ?_⟩)) ?_
              repeat (first | ((with_reducible refine k_move ?_); refine m_move rfl ?_) | ((with_reducible refine k_load ?_); refine x_load_agg tbOk rfl rfl rfl rfl (Nat.le_of_ble_eq_true rfl) ?_) | ((with_reducible refine k_un ?_); refine x_not rfl ?_) | ((with_reducible refine k_pick ?_); refine m_pickf rfl (by first | rfl | assumption) rfl ?_)  | refine x_none rfl ?_ | refine x_run_f rfl rfl (by first | rfl | assumption) ?_  )
              refine x_call0 (d1) (by repeat' (first | exact trivial | exact Ren.v _ | exact Ren.sl _ _ | exact Ren.ep _ | exact Ren.ptr _ _ _ _ rfl | exact Ren.nil _ | exact Ren.own _ _ _ _ ⟨_, rfl⟩ | refine ren_ag ?_ | refine ren_tu ?_ | refine ren_fn ?_ | refine ⟨?_, ?_⟩)) (by repeat' (first | exact trivial | exact RenB.v _ | exact RenB.sl _ _ | exact RenB.ep _ | exact RenB.ptr _ _ _ _ rfl | refine renb_ag ?_ | refine renb_tu ?_ | refine ⟨?_, ?_⟩)) ?_
              repeat (first | ((with_reducible refine k_move ?_); refine m_move rfl ?_) | ((with_reducible refine k_load ?_); refine x_load_agg tbOk rfl rfl rfl rfl (Nat.le_of_ble_eq_true rfl) ?_)  | refine x_run_f rfl rfl (by first | rfl | assumption) ?_  )
              refine x_call0 (d2) (by repeat' (first | exact trivial | exact Ren.v _ | exact Ren.sl _ _ | exact Ren.ep _ | exact Ren.ptr _ _ _ _ rfl | exact Ren.nil _ | exact Ren.own _ _ _ _ ⟨_, rfl⟩ | refine ren_ag ?_ | refine ren_tu ?_ | refine ren_fn ?_ | refine ⟨?_, ?_⟩)) (by repeat' (first | exact trivial | exact RenB.v _ | exact RenB.sl _ _ | exact RenB.ep _ | exact RenB.ptr _ _ _ _ rfl | refine renb_ag ?_ | refine renb_tu ?_ | refine ⟨?_, ?_⟩)) ?_
              repeat (first   | refine x_run_f rfl rfl (by first | rfl | assumption) ?_  )
              refine x_call0 (i1) (by repeat' (first | exact trivial | exact Ren.v _ | exact Ren.sl _ _ | exact Ren.ep _ | exact Ren.ptr _ _ _ _ rfl | exact Ren.nil _ | exact Ren.own _ _ _ _ ⟨_, rfl⟩ | refine ren_ag ?_ | refine ren_tu ?_ | refine ren_fn ?_ | refine ⟨?_, ?_⟩)) (by repeat' (first | exact trivial | exact RenB.v _ | exact RenB.sl _ _ | exact RenB.ep _ | exact RenB.ptr _ _ _ _ rfl | refine renb_ag ?_ | refine renb_tu ?_ | refine ⟨?_, ?_⟩)) ?_
              repeat (first | ((with_reducible refine k_move ?_); refine m_move rfl ?_) | ((with_reducible refine k_un ?_); refine x_not rfl ?_) | ((with_reducible refine k_pick ?_); refine m_pickf rfl (by first | rfl | assumption) rfl ?_) | ((with_reducible refine k_bin ?_); refine x_add_in rfl rfl (by omega) ?_)  | refine e_nrm ?_ | refine e_drw (by kernel_rfl) ?_ | refine x_none rfl ?_ | refine x_run_f rfl rfl (by first | rfl | assumption) ?_ | with_reducible refine q_then ?_ | with_reducible refine q_block ?_ | with_reducible refine awp_skip ?_ | ((with_reducible refine w_region ?_ ?_); kernel_rfl) | refine w_cond_f rfl (by first | rfl | assumption) ?_)
              exact ⟨m + 1, by omega, by omega, ⟨rfl, rfl, rfl, rfl, rfl, rfl, rfl, rfl, rfl, rfl, rfl, rfl, rfl, rfl, rfl, rfl, rfl, rfl, trivial⟩, ⟨rfl, rfl, rfl, rfl, rfl, trivial⟩⟩
            · repeat (first | ((with_reducible refine k_move ?_); refine m_move rfl ?_) | ((with_reducible refine k_bin ?_); refine x_add_in rfl rfl (by omega) ?_)  | refine e_nrm ?_ | refine x_none rfl ?_ | with_reducible refine q_then ?_ | with_reducible refine q_then_exit ?_ | with_reducible refine q_block ?_ | with_reducible refine awp_exit ?_ | ((with_reducible refine q_block_exit ?_ ?_); rfl) | ((with_reducible refine w_region ?_ ?_); kernel_rfl))
              exact ⟨b + 1, by omega, by omega, ⟨rfl, rfl, rfl, rfl, rfl, rfl, rfl, rfl, rfl, rfl, rfl, rfl, rfl, trivial⟩, ⟨rfl, rfl, rfl, rfl, trivial⟩⟩
        · repeat (first | ((with_reducible refine k_move ?_); refine m_move rfl ?_) | ((with_reducible refine k_bin ?_); refine x_add_in rfl rfl (by omega) ?_)  | refine e_nrm ?_ | refine x_none rfl ?_ | with_reducible refine q_then ?_ | with_reducible refine q_then_exit ?_ | with_reducible refine q_block ?_ | with_reducible refine awp_exit ?_ | ((with_reducible refine q_block_exit ?_ ?_); rfl) | ((with_reducible refine w_region ?_ ?_); kernel_rfl))
          exact ⟨a + 1, by omega, by omega, ⟨rfl, rfl, rfl, rfl, rfl, rfl, rfl, rfl, rfl, trivial⟩, ⟨rfl, rfl, rfl, rfl, trivial⟩⟩
    · repeat (first | ((with_reducible refine k_load ?_); refine x_load_agg tbOk rfl rfl rfl rfl (Nat.le_of_ble_eq_true rfl) ?_)  | refine x_none rfl ?_ | with_reducible refine q_then ?_ | with_reducible refine q_then_exit ?_ | with_reducible refine awp_seq ?_ | with_reducible refine awp_exit ?_ | ((with_reducible refine q_block_exit ?_ ?_); rfl) | ((with_reducible refine w_draw mixd ?_ ?_); kernel_rfl))
      refine x_call0 (right_A to hG hto) (by repeat' (first | exact trivial | exact Ren.v _ | exact Ren.sl _ _ | exact Ren.ep _ | exact Ren.ptr _ _ _ _ rfl | exact Ren.nil _ | exact Ren.own _ _ _ _ ⟨_, rfl⟩ | refine ren_ag ?_ | refine ren_tu ?_ | refine ren_fn ?_ | refine ⟨?_, ?_⟩)) (by repeat' (first | exact trivial | exact RenB.v _ | exact RenB.sl _ _ | exact RenB.ep _ | exact RenB.ptr _ _ _ _ rfl | refine renb_ag ?_ | refine renb_tu ?_ | refine ⟨?_, ?_⟩)) ?_
      repeat (first | ((with_reducible refine k_load ?_); refine x_load_agg tbOk rfl rfl rfl rfl (Nat.le_of_ble_eq_true rfl) ?_)  | refine x_none rfl ?_  )
      refine x_call0 (rright_A to hto) (by repeat' (first | exact trivial | exact Ren.v _ | exact Ren.sl _ _ | exact Ren.ep _ | exact Ren.ptr _ _ _ _ rfl | exact Ren.nil _ | exact Ren.own _ _ _ _ ⟨_, rfl⟩ | refine ren_ag ?_ | refine ren_tu ?_ | refine ren_fn ?_ | refine ⟨?_, ?_⟩)) (by repeat' (first | exact trivial | exact RenB.v _ | exact RenB.sl _ _ | exact RenB.ep _ | exact RenB.ptr _ _ _ _ rfl | refine renb_ag ?_ | refine renb_tu ?_ | refine ⟨?_, ?_⟩)) ?_
      repeat (first | ((with_reducible refine k_assign ?_); refine m_assign rfl ?_) | ((with_reducible refine k_bin ?_); refine x_eql_b (by exact Tryd.underlying4) rfl rfl ?_)  | refine e_drw (by kernel_rfl) ?_ | refine x_none rfl ?_ | with_reducible refine q_then ?_ | with_reducible refine awp_ret ?_ )
      refine ret_v (by first | exact .inr rfl | exact .inl rfl) rfl rfl ?_
      refine congrArg (fun b => AV.v (.bool b)) ?_
      simp
end Go.Proofs.YtbacidnhjmdnlaaDoor
