/- permitofficeref14: Locked, some, Earths, by the abstract machine; conditions: none. -/
import Derived.Test.YtaoegbmgombhdaaDoorLkA
import Derived.Test.YtaoegbmgombhdaaDoorDkA
set_option linter.unusedVariables false
set_option linter.unusedSimpArgs false
namespace Go.Proofs.YtaoegbmgombhdaaDoor
open Go Go.RowKit
set_option maxRecDepth 10000
variable {G : Nat → Option (List Value)}
theorem locked_next {L : List Lk} {d : Int} {j : Nat} {x : Lk} (h : L[j]? = some x) (h1 : ¬ x.d = d) : lockedP (L.drop j) d = lockedP (L.drop (j + 1)) d := by
  rw [drop_at h]; unfold lockedP; rw [List.find?_cons_of_neg (by simpa using h1)]
theorem locked_hit {L : List Lk} {d : Int} {j : Nat} {x : Lk} (h : L[j]? = some x) (h1 : x.d = d) : lockedP (L.drop j) d = (x.p, true) := by
  rw [drop_at h]; unfold lockedP; rw [List.find?_cons_of_pos (by simpa using h1)]
theorem locked_A (L : List Lk) (d : Int) (hm : L.length ≤ maxLen) : ACalls Tryd.prog G 49 [.sl 3 (L.map Lk.av), .v (.int .i64 d)] [] (.tu [.v (.int .i64 (lockedP L d).1), .v (.bool (lockedP L d).2)]) [] := by
  have hml : L.length ≤ 9223372036854775807 := by unfold maxLen at hm; omega
  refine acalls_of tbOk (enter_of Tryd.func49 (by kernel_rfl) rfl) Tryd.func49 rfl _ Tryd.ntmps49 (Nat.le_of_ble_eq_true rfl) fun X hX => ?_
  subst hX
  repeat (first | ((with_reducible refine k_assign ?_); refine m_assign rfl ?_)  | refine e_nrm ?_ | refine x_none rfl ?_ | with_reducible refine q_then ?_ | with_reducible refine awp_seq ?_ | with_reducible refine awp_block ?_ | ((with_reducible refine w_region ?_ ?_); kernel_rfl))
  refine awp_loop (ι := Nat) (fun j => j ≤ L.length ∧ lockedP (L.drop j) d = lockedP L d) (fun j => L.length - j) (fun v j => [(0, .sl 3 (L.map Lk.av)), (1, .v (.int .i64 d)), (6, .v (.int .i64 j))]) (fun v j => []) ?_ ?_
  · exact ⟨0, ⟨Nat.zero_le _, rfl⟩, trivial, ⟨rfl, rfl, rfl, trivial⟩, trivial⟩
  · rintro v j ⟨hj, hf⟩
    repeat (first | ((with_reducible refine k_move ?_); refine m_move rfl ?_) | ((with_reducible refine k_call ?_); refine x_len tbOk rfl rfl ?_) | ((with_reducible refine k_bin ?_); refine m_binI rfl rfl rfl ?_)  | refine e_nrm ?_ | refine x_none rfl ?_ | with_reducible refine q_then ?_ | with_reducible refine awp_seq ?_ | ((with_reducible refine w_region ?_ ?_); kernel_rfl))
    refine w_cond rfl (fun h => ?_) (fun h => ?_)
    · have hlt : j < L.length := by simpa using h
      obtain ⟨x, hx⟩ := some_at hlt
      have hy := lk_at hx
      repeat (first | ((with_reducible refine k_move ?_); refine m_move rfl ?_) | ((with_reducible refine k_fieldAddr ?_); refine x_fieldAddr_ep tbOk rfl rfl rfl rfl ?_) | ((with_reducible refine k_load ?_); refine x_load_ep_one tbOk rfl rfl rfl ?_) | ((with_reducible refine k_indexAddr ?_); refine x_indexAddr_n tbOk rfl rfl rfl rfl (by assumption) ?_) | ((with_reducible refine k_bin ?_); refine m_binI rfl rfl rfl ?_)  | refine e_nrm ?_ | refine x_none rfl ?_ | with_reducible refine q_then ?_ | with_reducible refine awp_seq ?_ | with_reducible refine awp_block ?_ | with_reducible refine awp_skip ?_ | ((with_reducible refine w_region ?_ ?_); kernel_rfl))
      refine w_cond rfl (fun h => ?_) (fun h => ?_)
      · have h1 : x.d = d := by simpa using h
        rw [← hf, locked_hit hx h1]
        repeat (first | ((with_reducible refine k_move ?_); refine m_move rfl ?_) | ((with_reducible refine k_assign ?_); refine m_assign rfl ?_) | ((with_reducible refine k_fieldAddr ?_); refine x_fieldAddr_ep tbOk rfl rfl rfl rfl ?_) | ((with_reducible refine k_load ?_); refine x_load_ep_one tbOk rfl rfl rfl ?_) | ((with_reducible refine k_indexAddr ?_); refine x_indexAddr_n tbOk rfl rfl rfl rfl (by assumption) ?_)  | refine e_nrm ?_ | refine x_none rfl ?_ | with_reducible refine q_then ?_ | with_reducible refine q_then_ret ?_ | with_reducible refine q_block_ret ?_ | with_reducible refine awp_seq ?_ | with_reducible refine awp_ret ?_ | ((with_reducible refine w_region ?_ ?_); kernel_rfl))
        refine ret0_2 (by first | exact .inr rfl | exact .inl rfl) rfl rfl rfl ?_
        repeat' (first | exact trivial | exact Ren.v _ | exact Ren.sl _ _ | exact Ren.ep _ | exact Ren.ptr _ _ _ _ rfl | exact Ren.nil _ | exact Ren.own _ _ _ _ ⟨_, rfl⟩ | refine ren_ag ?_ | refine ren_tu ?_ | refine ren_fn ?_ | refine ⟨?_, ?_⟩)
      · have h1 : ¬ x.d = d := by simpa using h
        rw [locked_next hx h1] at hf
        repeat (first | ((with_reducible refine k_move ?_); refine m_move rfl ?_) | ((with_reducible refine k_assign ?_); refine m_assign rfl ?_) | ((with_reducible refine k_bin ?_); refine x_add_in rfl rfl (by omega) ?_)  | refine e_nrm ?_ | refine x_none rfl ?_ | with_reducible refine q_then ?_ | with_reducible refine q_block ?_ | with_reducible refine awp_skip ?_ | ((with_reducible refine w_region ?_ ?_); kernel_rfl))
        exact ⟨j + 1, ⟨by omega, hf⟩, by omega, ⟨rfl, rfl, rfl, trivial⟩, trivial⟩
    · have hlt : ¬ j < L.length := by simpa using h
      rw [← hf, List.drop_of_length_le (by omega)]
      repeat (first | ((with_reducible refine k_assign ?_); refine m_assign rfl ?_)  | refine e_nrm ?_ | refine x_none rfl ?_ | with_reducible refine q_then ?_ | with_reducible refine q_then_exit ?_ | with_reducible refine awp_seq ?_ | with_reducible refine awp_exit ?_ | with_reducible refine awp_ret ?_ | ((with_reducible refine q_block_exit ?_ ?_); rfl) | ((with_reducible refine w_region ?_ ?_); kernel_rfl))
      refine ret0_2 (by first | exact .inr rfl | exact .inl rfl) rfl rfl rfl ?_
      repeat' (first | exact trivial | exact Ren.v _ | exact Ren.sl _ _ | exact Ren.ep _ | exact Ren.ptr _ _ _ _ rfl | exact Ren.nil _ | exact Ren.own _ _ _ _ ⟨_, rfl⟩ | refine ren_ag ?_ | refine ren_tu ?_ | refine ren_fn ?_ | refine ⟨?_, ?_⟩)
theorem gap_A (n : Int) : ACalls Tryd.prog G 62 [.v (.int .i64 n)] [] (.v (.bool (gapB n))) [] := by
  unfold gapB
  refine acalls_of tbOk (enter_of Tryd.func62 (by kernel_rfl) rfl) Tryd.func62 rfl _ Tryd.ntmps62 (Nat.le_of_ble_eq_true rfl) fun X hX => ?_
  subst hX
  repeat' (first | ((with_reducible refine k_move ?_); refine m_move rfl ?_) | ((with_reducible refine k_assign ?_); refine m_assign rfl ?_) | ((with_reducible refine k_pick ?_); refine m_pickt rfl (by first | rfl | assumption) rfl ?_) | ((with_reducible refine k_pick ?_); refine m_pickf rfl (by first | rfl | assumption) rfl ?_) | ((with_reducible refine k_bin ?_); refine m_binI rfl rfl rfl ?_)  | refine e_nrm ?_ | refine x_none rfl ?_ | refine x_run_f rfl rfl (by first | rfl | assumption) ?_ | refine x_skip_f rfl rfl (by first | rfl | assumption) ?_ | with_reducible refine q_then ?_ | with_reducible refine awp_seq ?_ | with_reducible refine awp_ret ?_ | ((with_reducible refine w_region ?_ ?_); kernel_rfl) | refine x_split rfl rfl (fun _ => ?_) (fun _ => ?_) | refine w_cond rfl (fun _ => ?_) (fun _ => ?_))
  all_goals refine ret_v (by first | exact .inr rfl | exact .inl rfl) rfl rfl ?_
  all_goals simp_all
  all_goals (by_cases h : n = 6 <;> simp [h])
theorem someGo_at {V : List Dv} {L : List Lk} {pos : Int} {b : Bool} {i : Nat} {x : Dv} (h : V[i]? = some x) : someGo L pos b i (V.drop i) = if holdsB L pos b i x = true then (i : Int) :: someGo L pos b (i + 1) (V.drop (i + 1)) else someGo L pos b (i + 1) (V.drop (i + 1)) := by
  rw [drop_at h]; rfl
theorem someGo_len (L : List Lk) (pos : Int) (b : Bool) : ∀ (V : List Dv) (i : Nat), (someGo L pos b i V).length ≤ V.length
  | [], _ => Nat.le_refl _
  | x :: V, i => by
    have := someGo_len L pos b V (i + 1)
    unfold someGo
    split <;> simp <;> omega
set_option maxHeartbeats 2000000 in
theorem some_A (N : List Nd) (V : List Dv) (L : List Lk) (pos : Int) (b : Bool) (hm : L.length ≤ maxLen) (hV : V.length ≤ 64) : ACalls Tryd.prog G 40 [netAV N V, .sl 3 (L.map Lk.av), .v (.int .i64 pos), .v (.bool b)] [] (.sl 1 ((someP V L pos b).map iv)) [] := by
  refine acalls_of tbOk (enter_of Tryd.func40 (by kernel_rfl) rfl) Tryd.func40 rfl _ Tryd.ntmps40 (Nat.le_of_ble_eq_true rfl) fun X hX => ?_
  subst hX
  repeat (first | ((with_reducible refine k_assign ?_); refine m_assign rfl ?_) | ((with_reducible refine k_box ?_); refine m_box rfl rfl rfl ?_)  | refine e_nrm ?_ | refine x_none rfl ?_ | with_reducible refine q_then ?_ | with_reducible refine awp_seq ?_ | with_reducible refine awp_block ?_ | ((with_reducible refine w_region ?_ ?_); kernel_rfl))
  refine awp_own (t := 9) (s := 57) 3 1 rfl rfl ?_
  refine awp_loop (ι := Nat × List Int) (fun i => i.1 ≤ V.length ∧ i.2.length ≤ i.1 ∧ i.2 ++ someGo L pos b i.1 (V.drop i.1) = someP V L pos b) (fun i => V.length - i.1) (fun v i => [(1, .sl 3 (L.map Lk.av)), (2, .v (.int .i64 pos)), (3, .v (.bool b)), (4, .ptr 4 (v 4) 0), (9, .own 57 (v 57)), (10, .v (.int .i64 (i.1 : Nat)))]) (fun v i => [(4, .box [.sl 3 (N.map Nd.av), .sl 5 (V.map Dv.av)]), (57, .buf 3 1 (i.2.map iv))]) ?_ ?_
  · exact ⟨(0, []), ⟨Nat.zero_le _, Nat.le_refl _, rfl⟩, trivial, ⟨rfl, rfl, rfl, rfl, rfl, rfl, trivial⟩, ⟨rfl, rfl, trivial⟩⟩
  · rintro v ⟨i, E⟩ ⟨hi, hE, hf⟩
    simp only at hi hE hf
    dsimp only
    repeat (first | ((with_reducible refine k_move ?_); refine m_move rfl ?_) | ((with_reducible refine k_fieldAddr ?_); refine x_fieldAddr_ptr tbOk rfl rfl rfl rfl ?_) | ((with_reducible refine k_load ?_); refine x_load_one tbOk rfl rfl rfl rfl rfl ?_) | ((with_reducible refine k_call ?_); refine x_len tbOk rfl rfl ?_) | ((with_reducible refine k_bin ?_); refine m_binI rfl rfl rfl ?_)  | refine e_nrm ?_ | refine x_none rfl ?_ | with_reducible refine q_then ?_ | with_reducible refine awp_seq ?_ | ((with_reducible refine w_region ?_ ?_); kernel_rfl))
    refine w_cond rfl (fun h => ?_) (fun h => ?_)
    · have hlt : i < V.length := by simpa using h
      obtain ⟨x, hx⟩ := some_at hlt
      have hy := dv_at hx
      rw [someGo_at hx] at hf
      repeat (first | ((with_reducible refine k_move ?_); refine m_move rfl ?_)  | refine x_none rfl ?_ | with_reducible refine q_then ?_ | with_reducible refine awp_seq ?_ | with_reducible refine awp_block ?_ | with_reducible refine awp_skip ?_ | ((with_reducible refine w_region ?_ ?_); kernel_rfl))
      refine x_call0 (locked_A L i hm) (by repeat' (first | exact trivial | exact Ren.v _ | exact Ren.sl _ _ | exact Ren.ep _ | exact Ren.ptr _ _ _ _ rfl | exact Ren.nil _ | exact Ren.own _ _ _ _ ⟨_, rfl⟩ | refine ren_ag ?_ | refine ren_tu ?_ | refine ren_fn ?_ | refine ⟨?_, ?_⟩)) (by repeat' (first | exact trivial | exact RenB.v _ | exact RenB.sl _ _ | exact RenB.ep _ | exact RenB.ptr _ _ _ _ rfl | refine renb_ag ?_ | refine renb_tu ?_ | refine ⟨?_, ?_⟩)) ?_
      repeat (first | ((with_reducible refine k_move ?_); refine m_move rfl ?_) | ((with_reducible refine k_assign ?_); refine m_assign rfl ?_) | ((with_reducible refine k_fieldAddr ?_); refine x_fieldAddr_ptr tbOk rfl rfl rfl rfl ?_) | ((with_reducible refine k_fieldAddr ?_); refine x_fieldAddr_ep tbOk rfl rfl rfl rfl ?_) | ((with_reducible refine k_load ?_); refine x_load_one tbOk rfl rfl rfl rfl rfl ?_) | ((with_reducible refine k_load ?_); refine x_load_ep_one tbOk rfl rfl rfl ?_) | ((with_reducible refine k_extract ?_); refine x_extract rfl rfl ?_) | ((with_reducible refine k_indexAddr ?_); refine x_indexAddr_n tbOk rfl rfl rfl rfl (by assumption) ?_)  | refine e_nrm ?_ | refine x_none rfl ?_ | with_reducible refine q_then ?_ | with_reducible refine awp_seq ?_ | ((with_reducible refine w_region ?_ ?_); kernel_rfl))
      repeat' (first | ((with_reducible refine k_move ?_); refine m_move rfl ?_) | ((with_reducible refine k_un ?_); refine x_not rfl ?_) | ((with_reducible refine k_pick ?_); refine m_pickt rfl (by first | rfl | assumption) rfl ?_) | ((with_reducible refine k_pick ?_); refine m_pickf rfl (by first | rfl | assumption) rfl ?_) | ((with_reducible refine k_bin ?_); refine m_binI rfl rfl rfl ?_)  | refine e_nrm ?_ | refine x_none rfl ?_ | refine x_run_t rfl rfl (by first | rfl | assumption) ?_ | refine x_skip_t rfl rfl (by first | rfl | assumption) ?_ | refine x_run_f rfl rfl (by first | rfl | assumption) ?_ | refine x_skip_f rfl rfl (by first | rfl | assumption) ?_ | refine x_skip' rfl rfl rfl ?_ | with_reducible refine q_then ?_ | (refine x_call0 (gap_A x.k) (by repeat' (first | exact trivial | exact Ren.v _ | exact Ren.sl _ _ | exact Ren.ep _ | exact Ren.ptr _ _ _ _ rfl | exact Ren.nil _ | exact Ren.own _ _ _ _ ⟨_, rfl⟩ | refine ren_ag ?_ | refine ren_tu ?_ | refine ren_fn ?_ | refine ⟨?_, ?_⟩)) (by repeat' (first | exact trivial | exact RenB.v _ | exact RenB.sl _ _ | exact RenB.ep _ | exact RenB.ptr _ _ _ _ rfl | refine renb_ag ?_ | refine renb_tu ?_ | refine ⟨?_, ?_⟩)) ?_) | refine x_split rfl rfl (fun _ => ?_) (fun _ => ?_))
      all_goals
        refine w_cond rfl (fun c3 => ?_) (fun c3 => ?_)
        · first
            | (exfalso; revert c3; decide)
            | (have hh : holdsB L pos b i x = true := by unfold holdsB; simp_all
               rw [if_pos hh] at hf
               repeat (first | ((with_reducible refine k_move ?_); refine m_move rfl ?_) | ((with_reducible refine k_buildSlice ?_); refine m_buildSlice tbOk rfl rfl rfl rfl rfl (by omega) rfl rfl rfl ?_) | refine x_none rfl ?_  | ((with_reducible refine w_region ?_ ?_); kernel_rfl))
               refine x_append_own tbOk rfl rfl rfl rfl rfl (by decide) rfl rfl rfl rfl rfl (fun x hx => by simp at hx; subst hx; rfl) (by simp only [List.length_map, List.length_cons, List.length_nil]; omega) (by simp only [List.length_map, List.length_cons, List.length_nil]; omega) ?_
               repeat (first | ((with_reducible refine k_move ?_); refine m_move rfl ?_) | ((with_reducible refine k_assign ?_); refine m_assign rfl ?_) | ((with_reducible refine k_bin ?_); refine x_add_in rfl rfl (by omega) ?_)  | refine e_nrm ?_ | refine x_none rfl ?_ | with_reducible refine q_then ?_ | with_reducible refine q_block ?_ | ((with_reducible refine w_region ?_ ?_); kernel_rfl))
               refine ⟨(i + 1, E ++ [(i : Int)]), ⟨by show i + 1 ≤ V.length; omega, by show (E ++ [(i : Int)]).length ≤ i + 1; rw [List.length_append]; simp; omega, by rw [← hf]; simp⟩, by show V.length - (i + 1) < V.length - i; omega, ⟨rfl, rfl, rfl, rfl, rfl, rfl, trivial⟩, ⟨rfl, ?_, trivial⟩⟩
               rw [List.map_append]
               rfl)
        · first
            | (exfalso; revert c3; decide)
            | (have hh : holdsB L pos b i x = false := by unfold holdsB; simp_all
               rw [if_neg (by rw [hh]; decide)] at hf
               repeat (first | ((with_reducible refine k_move ?_); refine m_move rfl ?_) | ((with_reducible refine k_assign ?_); refine m_assign rfl ?_) | ((with_reducible refine k_bin ?_); refine x_add_in rfl rfl (by omega) ?_)  | refine e_nrm ?_ | refine x_none rfl ?_ | with_reducible refine q_then ?_ | with_reducible refine q_block ?_ | with_reducible refine awp_skip ?_ | ((with_reducible refine w_region ?_ ?_); kernel_rfl))
               exact ⟨(i + 1, E), ⟨by show i + 1 ≤ V.length; omega, by show E.length ≤ i + 1; omega, hf⟩, by show V.length - (i + 1) < V.length - i; omega, ⟨rfl, rfl, rfl, rfl, rfl, rfl, trivial⟩, ⟨rfl, rfl, trivial⟩⟩)
    · have hlt : ¬ i < V.length := by simpa using h
      rw [List.drop_of_length_le (by omega)] at hf
      have hf' : someP V L pos b = E := by rw [← hf]; simp [someGo]
      rw [hf']
      repeat (first | ((with_reducible refine k_move ?_); refine m_move rfl ?_) | ((with_reducible refine k_assign ?_); refine m_assign rfl ?_)  | refine e_nrm ?_ | refine x_none rfl ?_ | with_reducible refine q_then ?_ | with_reducible refine q_then_exit ?_ | with_reducible refine awp_seq ?_ | with_reducible refine awp_exit ?_ | with_reducible refine awp_ret ?_ | ((with_reducible refine q_block_exit ?_ ?_); rfl) | ((with_reducible refine w_region ?_ ?_); kernel_rfl))
      refine ret0_1 (by first | exact .inr rfl | exact .inl rfl) rfl rfl ?_
      repeat' (first | exact trivial | exact Ren.v _ | exact Ren.sl _ _ | exact Ren.ep _ | exact Ren.ptr _ _ _ _ rfl | exact Ren.nil _ | exact Ren.own _ _ _ _ ⟨_, rfl⟩ | refine ren_ag ?_ | refine ren_tu ?_ | refine ren_fn ?_ | refine ⟨?_, ?_⟩)
theorem earths_A (N : List Nd) (V : List Dv) (L : List Lk) (hN : ∀ x ∈ N, x.n.size ≤ maxLen) (hV : ∀ x ∈ V, x.n.size ≤ maxLen) (h1 : N.length ≤ maxLen) (h2 : V.length ≤ maxLen) (h3 : L.length ≤ maxLen) :
    ACalls Tryd.prog G 13 [netAV N V, .sl 3 (L.map Lk.av)] [] (.tu [.sl 1 ((earthsP N V L).1.map iv), .v (.int .i64 (earthsP N V L).2)]) [] := by
  refine acalls_of tbOk (enter_of Tryd.func13 (by kernel_rfl) rfl) Tryd.func13 rfl _ Tryd.ntmps13 (Nat.le_of_ble_eq_true rfl) fun X hX => ?_
  subst hX
  unfold earthsP
  repeat (first | ((with_reducible refine k_move ?_); refine m_move rfl ?_) | ((with_reducible refine k_assign ?_); refine m_assign rfl ?_) | ((with_reducible refine k_load ?_); refine x_load_agg tbOk rfl rfl rfl rfl (Nat.le_of_ble_eq_true rfl) ?_) | ((with_reducible refine k_box ?_); refine m_box rfl rfl rfl ?_)  | refine e_nrm ?_ | refine x_none rfl ?_ | with_reducible refine q_then ?_ | with_reducible refine awp_seq ?_ | ((with_reducible refine w_region ?_ ?_); kernel_rfl))
  refine x_call0 (rlocks_A N V L hN hV h1 h2) (by repeat' (first | exact trivial | exact Ren.v _ | exact Ren.sl _ _ | exact Ren.ep _ | exact Ren.ptr _ _ _ _ rfl | exact Ren.nil _ | exact Ren.own _ _ _ _ ⟨_, rfl⟩ | refine ren_ag ?_ | refine ren_tu ?_ | refine ren_fn ?_ | refine ⟨?_, ?_⟩)) (by repeat' (first | exact trivial | exact RenB.v _ | exact RenB.sl _ _ | exact RenB.ep _ | exact RenB.ptr _ _ _ _ rfl | refine renb_ag ?_ | refine renb_tu ?_ | refine ⟨?_, ?_⟩)) ?_
  repeat (first | ((with_reducible refine k_move ?_); refine m_move rfl ?_) | ((with_reducible refine k_assign ?_); refine m_assign rfl ?_) | ((with_reducible refine k_bin ?_); refine m_binI rfl rfl rfl ?_)  | refine e_nrm ?_ | refine x_none rfl ?_ | with_reducible refine q_then ?_ | with_reducible refine awp_seq ?_ | ((with_reducible refine w_region ?_ ?_); kernel_rfl))
  refine w_cond rfl (fun h => ?_) (fun h => ?_)
  · rw [if_pos (by simpa using h)]
    repeat (first | ((with_reducible refine k_move ?_); refine m_move rfl ?_) | ((with_reducible refine k_assign ?_); refine m_assign rfl ?_)  | refine e_nrm ?_ | refine x_none rfl ?_ | with_reducible refine q_then ?_ | with_reducible refine q_then_ret ?_ | with_reducible refine awp_seq ?_ | with_reducible refine awp_ret ?_ | ((with_reducible refine w_region ?_ ?_); kernel_rfl))
    refine ret0_2 (by first | exact .inr rfl | exact .inl rfl) rfl rfl rfl ?_
    repeat' (first | exact trivial | exact Ren.v _ | exact Ren.sl _ _ | exact Ren.ep _ | exact Ren.ptr _ _ _ _ rfl | exact Ren.nil _ | exact Ren.own _ _ _ _ ⟨_, rfl⟩ | refine ren_ag ?_ | refine ren_tu ?_ | refine ren_fn ?_ | refine ⟨?_, ?_⟩)
  · have h0 : lksE N V L = 0 := by simpa using h
    have hl : V.length ≤ 64 := by
      unfold lksE at h0
      split at h0
      · exact absurd h0 (by assumption)
      · rename_i hn; exact (netE_len (by simpa using hn)).2
    rw [if_neg (by simp [h0])]
    repeat (first | ((with_reducible refine k_move ?_); refine m_move rfl ?_) | ((with_reducible refine k_load ?_); refine x_load_agg tbOk rfl rfl rfl rfl (Nat.le_of_ble_eq_true rfl) ?_)  | refine x_none rfl ?_ | with_reducible refine q_then ?_ | with_reducible refine awp_seq ?_ | with_reducible refine awp_skip ?_ | ((with_reducible refine w_region ?_ ?_); kernel_rfl))
    refine x_call0 (some_A N V L 2 true h3 hl) (by repeat' (first | exact trivial | exact Ren.v _ | exact Ren.sl _ _ | exact Ren.ep _ | exact Ren.ptr _ _ _ _ rfl | exact Ren.nil _ | exact Ren.own _ _ _ _ ⟨_, rfl⟩ | refine ren_ag ?_ | refine ren_tu ?_ | refine ren_fn ?_ | refine ⟨?_, ?_⟩)) (by repeat' (first | exact trivial | exact RenB.v _ | exact RenB.sl _ _ | exact RenB.ep _ | exact RenB.ptr _ _ _ _ rfl | refine renb_ag ?_ | refine renb_tu ?_ | refine ⟨?_, ?_⟩)) ?_
    repeat (first | ((with_reducible refine k_assign ?_); refine m_assign rfl ?_)  | refine e_nrm ?_ | refine x_none rfl ?_ | with_reducible refine q_then ?_ | with_reducible refine awp_ret ?_ )
    refine ret0_2 (by first | exact .inr rfl | exact .inl rfl) rfl rfl rfl ?_
    repeat' (first | exact trivial | exact Ren.v _ | exact Ren.sl _ _ | exact Ren.ep _ | exact Ren.ptr _ _ _ _ rfl | exact Ren.nil _ | exact Ren.own _ _ _ _ ⟨_, rfl⟩ | refine ren_ag ?_ | refine ren_tu ?_ | refine ren_fn ?_ | refine ⟨?_, ?_⟩)
end Go.Proofs.YtaoegbmgombhdaaDoor
