/- The reference's Check of networks (permitofficeref03), by the abstract machine: it says what network.Check says; conditions: none. -/
import Derived.Test.YtamihjgfncjdoaaDoorNetA
import Derived.Test.YtamihjgfncjdoaaDoorAbsX
set_option linter.unusedVariables false
set_option linter.unusedSimpArgs false
namespace Go.Proofs.YtamihjgfncjdoaaDoor
open Go Go.RowKit
set_option maxRecDepth 10000
variable {G : Nat → Option (List Value)}
theorem rndGo_at {U : List ByteArray} {N : List Nd} {k : Nat} {x : Nd} (h : N[k]? = some x) : ndGo U (N.drop k) = if nameB x.n.data.toList = false then 3 else if usedB U x.n = true then 4 else if x.cu < 0 ∨ 1048576 < x.cu ∨ compB x.co = false then 5 else ndGo (U ++ [x.n]) (N.drop (k + 1)) := by
  rw [drop_at h]; rfl
theorem rdvGo_at {m : Int} {U : List ByteArray} {V : List Dv} {k : Nat} {d : Dv} (h : V[k]? = some d) : dvGo m U (V.drop k) = if nameB d.n.data.toList = false then 3 else if usedB U d.n = true then 4 else if d.k < 1 ∨ 6 < d.k then 6 else if endsB d m = false then 7 else if compB d.co = false then 5 else dvGo m (U ++ [d.n]) (V.drop (k + 1)) := by
  rw [drop_at h]; rfl
def vNames (V : List Dv) (k : Nat) : List ByteArray := (V.take k).map Dv.n
theorem vNames_next {V : List Dv} {k : Nat} {x : Dv} (h : V[k]? = some x) : vNames V (k + 1) = vNames V k ++ [x.n] := by
  unfold vNames
  rw [List.take_add_one, h]
  simp
def nNames (N : List Nd) (k : Nat) : List ByteArray := (N.take k).map Nd.n
theorem nNames_next {N : List Nd} {k : Nat} {x : Nd} (h : N[k]? = some x) : nNames N (k + 1) = nNames N k ++ [x.n] := by
  unfold nNames
  rw [List.take_add_one, h]
  simp
theorem usedB_app (U W : List ByteArray) (s : ByteArray) : usedB (U ++ W) s = (usedB U s || usedB W s) := by unfold usedB; rw [List.any_append]
theorem usedB_one (n s : ByteArray) : usedB [n] s = decide (s = n) := by unfold usedB; simp
theorem strEq_dec' (a b : ByteArray) : strEq a b = decide (a = b) := by
  cases h : strEq a b
  · exact (decide_eq_false (fun e => by rw [strEq_iff.2 e] at h; cases h)).symm
  · exact (decide_eq_true (strEq_iff.1 h)).symm
theorem usedN {N : List Nd} {i k : Nat} (hki : k ≤ i) {s : ByteArray} {y : Nd} (hy : N[k]? = some y) (h : s = y.n) (hk : k < i) : usedB (nNames N i) s = true := by
  unfold usedB nNames
  rw [List.any_map, List.any_eq_true]
  refine ⟨y, ?_, by simpa using h⟩
  exact List.mem_of_getElem? (show (N.take i)[k]? = some y by rw [List.getElem?_take, if_pos hk]; exact hy)
theorem usedV {V : List Dv} {i k : Nat} {s : ByteArray} {y : Dv} (hy : V[k]? = some y) (h : s = y.n) (hk : k < i) : usedB (vNames V i) s = true := by
  unfold usedB vNames
  rw [List.any_map, List.any_eq_true]
  refine ⟨y, ?_, by simpa using h⟩
  exact List.mem_of_getElem? (show (V.take i)[k]? = some y by rw [List.getElem?_take, if_pos hk]; exact hy)
theorem joinsB_or (n : Int) : joinsB n = (decide (n = 1) || decide (n = 2) || decide (n = 3)) := by
  unfold joinsB
  by_cases h1 : n = 1
  · subst h1; rfl
  by_cases h2 : n = 2
  · subst h2; rfl
  by_cases h3 : n = 3
  · subst h3; rfl
  rw [decide_eq_false h1, decide_eq_false h2, decide_eq_false h3]
  by_cases h : 1 ≤ n
  · rw [decide_eq_false (show ¬ n ≤ 3 by omega), Bool.and_false]; rfl
  · rw [decide_eq_false h]; rfl
theorem rjoins_A (n : Int) : ACalls Tryd.prog G 63 [.v (.int .i64 n)] [] (.v (.bool (joinsB n))) [] := by
  rw [joinsB_or]
  refine acalls_of tbOk (enter_of Tryd.func63 (by kernel_rfl) rfl) Tryd.func63 rfl _ Tryd.ntmps63 (Nat.le_of_ble_eq_true rfl) fun X hX => ?_
  subst hX
  repeat' (first | ((with_reducible refine k_move ?_); refine m_move rfl ?_) | ((with_reducible refine k_assign ?_); refine m_assign rfl ?_) | ((with_reducible refine k_pick ?_); (first | refine m_pickt rfl (by first | rfl | assumption) rfl ?_ | refine m_pickf rfl (by first | rfl | assumption) rfl ?_)) | ((with_reducible refine k_bin ?_); refine m_binI rfl rfl rfl ?_)  | refine e_nrm ?_ | refine x_none rfl ?_ | refine x_run_f rfl rfl (by first | rfl | assumption) ?_ | refine x_skip_f rfl rfl (by first | rfl | assumption) ?_ | with_reducible (first | refine q_then ?_ | refine awp_seq ?_ | refine awp_ret ?_) | ((with_reducible refine w_region ?_ ?_); kernel_rfl) | refine x_split rfl rfl (fun _ => ?_) (fun _ => ?_) | refine w_cond rfl (fun _ => ?_) (fun _ => ?_))
  all_goals refine ret_v (by first | exact .inr rfl | exact .inl rfl) rfl rfl ?_
  all_goals simp_all
  all_goals (by_cases h : n = 3 <;> simp [h])
theorem ends_no {d : Dv} {m : Int} (h : d.a < 0 ∨ m ≤ d.a ∨ (joinsB d.k = true ∧ (d.b < 0 ∨ m ≤ d.b ∨ d.b = d.a)) ∨ (joinsB d.k = false ∧ d.b ≠ -1)) : endsB d m = false := by
  unfold endsB
  by_cases h0 : d.a < 0 ∨ m ≤ d.a
  · rw [if_pos h0]
  rw [if_neg h0]
  rcases h with h | h | ⟨h, h'⟩ | ⟨h, h'⟩
  · exact absurd (.inl h) h0
  · exact absurd (.inr h) h0
  · rw [if_neg (by rw [h]; decide)]
    rcases h' with h' | h' | h'
    · rw [decide_eq_false (show ¬ 0 ≤ d.b by omega)]; rfl
    · rw [decide_eq_false (show ¬ d.b < m by omega), Bool.and_false]; rfl
    · simp [h']
  · rw [if_pos h]; simpa using h'
theorem ends_yes {d : Dv} {m : Int} (h0 : ¬ d.a < 0) (h1 : ¬ m ≤ d.a) (h : (joinsB d.k = true ∧ ¬ d.b < 0 ∧ ¬ m ≤ d.b ∧ ¬ d.b = d.a) ∨ (joinsB d.k = false ∧ d.b = -1)) : endsB d m = true := by
  unfold endsB
  rw [if_neg (by omega)]
  rcases h with ⟨h, a, b, c⟩ | ⟨h, a⟩
  · rw [if_neg (by rw [h]; decide), decide_eq_true (show 0 ≤ d.b by omega), decide_eq_true (show d.b < m by omega), decide_eq_true c]; rfl
  · rw [if_pos h]; simpa using a
set_option maxHeartbeats 8000000 in
theorem rnet_A (N : List Nd) (V : List Dv) (hN : ∀ x ∈ N, x.n.size ≤ maxLen) (hV : ∀ x ∈ V, x.n.size ≤ maxLen) (h1 : N.length ≤ maxLen) (h2 : V.length ≤ maxLen) : ACalls Tryd.prog G 43 [.ag [.sl 3 (N.map Nd.av), .sl 5 (V.map Dv.av)]] [] (.v (.int .i64 (netE N V))) [] := by
  refine acalls_of tbOk (enter_of Tryd.func43 (by kernel_rfl) rfl) Tryd.func43 rfl _ Tryd.ntmps43 (Nat.le_of_ble_eq_true rfl) fun X hX => ?_
  subst hX
  repeat (first | ((with_reducible refine k_move ?_); refine m_move rfl ?_) | ((with_reducible refine k_assign ?_); refine m_assign rfl ?_) | ((with_reducible refine k_fieldAddr ?_); refine x_fieldAddr_ptr tbOk rfl rfl rfl rfl ?_) | ((with_reducible refine k_load ?_); refine x_load_one tbOk rfl rfl rfl rfl rfl ?_) | ((with_reducible refine k_box ?_); refine m_box rfl rfl rfl ?_) | ((with_reducible refine k_call ?_); refine x_len tbOk rfl rfl ?_) | ((with_reducible refine k_bin ?_); refine m_binI rfl rfl rfl ?_)  | refine e_nrm ?_ | refine x_none rfl ?_ | with_reducible (first | refine q_then ?_ | refine awp_seq ?_) | ((with_reducible refine w_region ?_ ?_); kernel_rfl))
  refine x_split rfl rfl (fun h => ?_) (fun h => ?_)
  · have h32 : 32 < N.length := by simp at h; omega
    repeat (first | ((with_reducible refine k_assign ?_); refine m_assign rfl ?_) | ((with_reducible refine k_pick ?_); refine m_pickt rfl (by first | rfl | assumption) rfl ?_)  | refine e_nrm ?_ | refine x_none rfl ?_ | refine x_skip_f rfl rfl (by first | rfl | assumption) ?_ | with_reducible (first | refine q_then ?_ | refine q_then_ret ?_ | refine awp_seq ?_ | refine awp_ret ?_) | ((with_reducible refine w_region ?_ ?_); kernel_rfl) | refine w_cond_t rfl (by first | rfl | assumption) ?_)
    refine ret_v (by first | exact .inr rfl | exact .inl rfl) rfl rfl ?_
    unfold netE
    rw [if_pos (.inl h32)]
  have h32 : ¬ 32 < N.length := by simp at h; omega
  repeat (first | ((with_reducible refine k_fieldAddr ?_); refine x_fieldAddr_ptr tbOk rfl rfl rfl rfl ?_) | ((with_reducible refine k_load ?_); refine x_load_one tbOk rfl rfl rfl rfl rfl ?_) | ((with_reducible refine k_pick ?_); refine m_pickf rfl (by first | rfl | assumption) rfl ?_) | ((with_reducible refine k_call ?_); refine x_len tbOk rfl rfl ?_) | ((with_reducible refine k_bin ?_); refine m_binI rfl rfl rfl ?_)  | refine e_nrm ?_ | refine x_none rfl ?_ | refine x_run_f rfl rfl (by first | rfl | assumption) ?_ | with_reducible refine q_then ?_ )
  refine w_cond rfl (fun h => ?_) (fun h => ?_)
  · have h64 : 64 < V.length := by simp at h; omega
    repeat (first | ((with_reducible refine k_assign ?_); refine m_assign rfl ?_)  | refine e_nrm ?_ | refine x_none rfl ?_ | with_reducible (first | refine q_then ?_ | refine q_then_ret ?_ | refine awp_seq ?_ | refine awp_ret ?_) | ((with_reducible refine w_region ?_ ?_); kernel_rfl))
    refine ret_v (by first | exact .inr rfl | exact .inl rfl) rfl rfl ?_
    unfold netE
    rw [if_pos (.inr h64)]
  have h64 : ¬ 64 < V.length := by simp at h; omega
  repeat (first | ((with_reducible refine k_assign ?_); refine m_assign rfl ?_)  | refine e_nrm ?_ | refine x_none rfl ?_ | with_reducible (first | refine q_then ?_ | refine awp_seq ?_ | refine awp_block ?_ | refine awp_skip ?_) | ((with_reducible refine w_region ?_ ?_); kernel_rfl))
  refine awp_loop (ι := Nat) (fun k => k ≤ N.length ∧ ndGo (nNames N k) (N.drop k) = ndGo [] N) (fun k => N.length - k) (fun v k => [(1, .ptr 1 (v 1) 0), (3, .v (.int .i64 k))]) (fun v k => [(1, .box [.sl 3 (N.map Nd.av), .sl 5 (V.map Dv.av)])]) ?_ ?_
  · exact ⟨0, ⟨Nat.zero_le _, rfl⟩, trivial, ⟨rfl, rfl, trivial⟩, ⟨rfl, trivial⟩⟩
  · rintro v k ⟨hk, hf⟩
    repeat (first | ((with_reducible refine k_move ?_); refine m_move rfl ?_) | ((with_reducible refine k_fieldAddr ?_); refine x_fieldAddr_ptr tbOk rfl rfl rfl rfl ?_) | ((with_reducible refine k_load ?_); refine x_load_one tbOk rfl rfl rfl rfl rfl ?_) | ((with_reducible refine k_call ?_); refine x_len tbOk rfl rfl ?_) | ((with_reducible refine k_bin ?_); refine m_binI rfl rfl rfl ?_)  | refine e_nrm ?_ | refine x_none rfl ?_ | with_reducible (first | refine q_then ?_ | refine awp_seq ?_) | ((with_reducible refine w_region ?_ ?_); kernel_rfl))
    refine w_cond rfl (fun h => ?_) (fun h => ?_)
    · have hlt : k < N.length := by simpa using h
      obtain ⟨x, hx⟩ := some_at hlt
      have hy : (N.map Nd.av)[k]? = some x.av := by rw [List.getElem?_map, hx]; rfl
      rw [rndGo_at hx] at hf
      repeat (first | ((with_reducible refine k_move ?_); refine m_move rfl ?_) | ((with_reducible refine k_fieldAddr ?_); refine x_fieldAddr_ptr tbOk rfl rfl rfl rfl ?_) | ((with_reducible refine k_load ?_); (first | refine x_load_one tbOk rfl rfl rfl rfl rfl ?_ | refine x_load_ep_agg tbOk rfl rfl (Nat.le_of_ble_eq_true rfl) ?_)) | ((with_reducible refine k_store ?_); refine m_store tbOk rfl rfl rfl rfl rfl rfl rfl (Nat.le_of_ble_eq_true rfl) rfl ?_) | ((with_reducible refine k_alloc ?_); refine x_alloc tbOk rfl rfl ?_) | ((with_reducible refine k_indexAddr ?_); refine x_indexAddr_n tbOk rfl rfl rfl rfl (by assumption) ?_)  | refine e_nrm ?_ | refine x_none rfl ?_ | with_reducible (first | refine q_then ?_ | refine awp_seq ?_ | refine awp_block ?_ | refine awp_skip ?_) | ((with_reducible refine w_region ?_ ?_); kernel_rfl))
      refine zC (rname_A x.n (hN x (List.mem_of_getElem? hx))) ?_
      repeat (first | ((with_reducible refine k_un ?_); refine x_not rfl ?_)  | refine e_nrm ?_ | refine x_none rfl ?_ | with_reducible refine q_then ?_ )
      refine w_cond rfl (fun hE => ?_) (fun hE => ?_)
      · repeat (first | ((with_reducible refine k_assign ?_); refine m_assign rfl ?_)  | refine e_nrm ?_ | refine x_none rfl ?_ | with_reducible (first | refine q_then ?_ | refine q_then_ret ?_ | refine q_block_ret ?_ | refine awp_seq ?_ | refine awp_ret ?_) | ((with_reducible refine w_region ?_ ?_); kernel_rfl))
        refine ret_v (by first | exact .inr rfl | exact .inl rfl) rfl rfl ?_
        rw [if_pos (by simpa using hE)] at hf
        unfold netE
        rw [if_neg (by omega), if_pos (by rw [← hf]; decide), ← hf]
      · rw [if_neg (by simpa using hE)] at hf
        repeat (first | ((with_reducible refine k_assign ?_); refine m_assign rfl ?_)  | refine e_nrm ?_ | refine x_none rfl ?_ | with_reducible (first | refine q_then ?_ | refine awp_seq ?_ | refine awp_block ?_ | refine awp_skip ?_) | ((with_reducible refine w_region ?_ ?_); kernel_rfl))
        refine awp_loop (ι := Nat) (fun j => j ≤ k ∧ usedB (nNames N j) x.n = false) (fun j => k - j) (fun v j => [(1, .ptr 1 (v 1) 0), (3, .v (.int .i64 k)), (4, .ptr 4 (v 4) 0), (5, .v (.int .i64 j))]) (fun v j => [(1, .box [.sl 3 (N.map Nd.av), .sl 5 (V.map Dv.av)]), (4, .box x.av.cells)]) ?_ ?_
        · exact ⟨0, ⟨Nat.zero_le _, rfl⟩, trivial, ⟨rfl, rfl, rfl, rfl, trivial⟩, ⟨rfl, rfl, trivial⟩⟩
        · rintro v j ⟨hj, hu⟩
          repeat (first | ((with_reducible refine k_move ?_); refine m_move rfl ?_) | ((with_reducible refine k_bin ?_); refine m_binI rfl rfl rfl ?_)  | refine e_nrm ?_ | refine x_none rfl ?_ | with_reducible (first | refine q_then ?_ | refine awp_seq ?_) | ((with_reducible refine w_region ?_ ?_); kernel_rfl))
          refine w_cond rfl (fun h => ?_) (fun h => ?_)
          · have hjk : j < k := by simpa using h
            obtain ⟨y, hjy⟩ := some_at (L := N) (k := j) (by omega)
            have hz : (N.map Nd.av)[j]? = some y.av := by rw [List.getElem?_map, hjy]; rfl
            repeat (first | ((with_reducible refine k_move ?_); refine m_move rfl ?_) | ((with_reducible refine k_fieldAddr ?_); (first | refine x_fieldAddr_ptr tbOk rfl rfl rfl rfl ?_ | refine x_fieldAddr_ep tbOk rfl rfl rfl rfl ?_)) | ((with_reducible refine k_load ?_); (first | refine x_load_one tbOk rfl rfl rfl rfl rfl ?_ | refine x_load_ep_one tbOk rfl rfl rfl ?_)) | ((with_reducible refine k_indexAddr ?_); refine x_indexAddr_n tbOk rfl rfl rfl rfl (by assumption) ?_) | ((with_reducible refine k_bin ?_); refine m_binS rfl rfl rfl ?_)  | refine e_drw (by kernel_rfl) ?_ | refine x_none rfl ?_ | with_reducible (first | refine q_then ?_ | refine awp_seq ?_ | refine awp_block ?_ | refine awp_skip ?_) | ((with_reducible refine w_draw mixd ?_ ?_); kernel_rfl))
            refine w_cond rfl (fun he => ?_) (fun he => ?_)
            · repeat (first | ((with_reducible refine k_assign ?_); refine m_assign rfl ?_)  | refine e_nrm ?_ | refine x_none rfl ?_ | with_reducible (first | refine q_then ?_ | refine q_then_ret ?_ | refine q_block_ret ?_ | refine awp_seq ?_ | refine awp_ret ?_) | ((with_reducible refine w_region ?_ ?_); kernel_rfl))
              refine ret_v (by first | exact .inr rfl | exact .inl rfl) rfl rfl ?_
              have he' : x.n = y.n := (strEq_iff.1 he).symm
              rw [if_pos (usedN (by omega) hjy he' hjk)] at hf
              unfold netE
              rw [if_neg (by omega), if_pos (by rw [← hf]; decide), ← hf]
            · repeat (first | ((with_reducible refine k_move ?_); refine m_move rfl ?_) | ((with_reducible refine k_assign ?_); refine m_assign rfl ?_) | ((with_reducible refine k_bin ?_); refine x_add_in rfl rfl (by omega) ?_)  | refine e_nrm ?_ | refine x_none rfl ?_ | with_reducible (first | refine q_then ?_ | refine q_block ?_ | refine awp_skip ?_) | ((with_reducible refine w_region ?_ ?_); kernel_rfl))
              refine ⟨j + 1, ⟨by omega, ?_⟩, by omega, ⟨rfl, rfl, rfl, rfl, trivial⟩, ⟨rfl, rfl, trivial⟩⟩
              rw [nNames_next hjy, usedB_app, hu, usedB_one, Bool.false_or]
              rw [strEq_dec'] at he
              exact decide_eq_false fun e => by rw [e] at he; simp at he
          · obtain rfl : j = k := by simp at h; omega
            rw [if_neg (by rw [hu]; decide)] at hf
            repeat (first | ((with_reducible refine k_move ?_); refine m_move rfl ?_) | ((with_reducible refine k_fieldAddr ?_); refine x_fieldAddr_ptr tbOk rfl rfl rfl rfl ?_) | ((with_reducible refine k_load ?_); refine x_load_one tbOk rfl rfl rfl rfl rfl ?_) | ((with_reducible refine k_bin ?_); refine m_binI rfl rfl rfl ?_)  | refine x_none rfl ?_ | with_reducible (first | refine q_then ?_ | refine q_then_exit ?_ | refine awp_seq ?_ | refine awp_exit ?_) | ((with_reducible refine q_block_exit ?_ ?_); rfl) | ((with_reducible refine w_region ?_ ?_); kernel_rfl))
            refine x_split rfl rfl (fun c1 => ?_) (fun c1 => ?_)
            · repeat (first | ((with_reducible refine k_move ?_); refine m_move rfl ?_) | ((with_reducible refine k_assign ?_); refine m_assign rfl ?_) | ((with_reducible refine k_pick ?_); refine m_pickt rfl (by first | rfl | assumption) rfl ?_)  | refine e_nrm ?_ | refine x_none rfl ?_ | refine x_skip_f rfl rfl (by first | rfl | assumption) ?_ | with_reducible (first | refine q_then ?_ | refine q_then_ret ?_ | refine q_block_ret ?_ | refine awp_seq ?_ | refine awp_ret ?_) | ((with_reducible refine w_region ?_ ?_); kernel_rfl) | refine w_cond_t rfl (by first | rfl | assumption) ?_)
              refine ret_v (by first | exact .inr rfl | exact .inl rfl) rfl rfl ?_
              rw [if_pos (.inl (by simpa using c1))] at hf
              unfold netE
              rw [if_neg (by omega), if_pos (by rw [← hf]; decide), ← hf]
            · repeat (first | ((with_reducible refine k_move ?_); refine m_move rfl ?_) | ((with_reducible refine k_fieldAddr ?_); refine x_fieldAddr_ptr tbOk rfl rfl rfl rfl ?_) | ((with_reducible refine k_load ?_); refine x_load_one tbOk rfl rfl rfl rfl rfl ?_) | ((with_reducible refine k_pick ?_); refine m_pickf rfl (by first | rfl | assumption) rfl ?_) | ((with_reducible refine k_bin ?_); refine m_binI rfl rfl rfl ?_)  | refine x_none rfl ?_ | refine x_run_f rfl rfl (by first | rfl | assumption) ?_  )
              refine x_split rfl rfl (fun c2 => ?_) (fun c2 => ?_)
              · repeat (first | ((with_reducible refine k_move ?_); refine m_move rfl ?_) | ((with_reducible refine k_assign ?_); refine m_assign rfl ?_) | ((with_reducible refine k_pick ?_); refine m_pickt rfl (by first | rfl | assumption) rfl ?_)  | refine e_nrm ?_ | refine x_none rfl ?_ | refine x_skip_f rfl rfl (by first | rfl | assumption) ?_ | with_reducible (first | refine q_then ?_ | refine q_then_ret ?_ | refine q_block_ret ?_ | refine awp_seq ?_ | refine awp_ret ?_) | ((with_reducible refine w_region ?_ ?_); kernel_rfl) | refine w_cond_t rfl (by first | rfl | assumption) ?_)
                refine ret_v (by first | exact .inr rfl | exact .inl rfl) rfl rfl ?_
                rw [if_pos (.inr (.inl (by simpa using c2)))] at hf
                unfold netE
                rw [if_neg (by omega), if_pos (by rw [← hf]; decide), ← hf]
              · repeat (first | ((with_reducible refine k_move ?_); refine m_move rfl ?_) | ((with_reducible refine k_fieldAddr ?_); refine x_fieldAddr_ptr tbOk rfl rfl rfl rfl ?_) | ((with_reducible refine k_load ?_); refine x_load_one tbOk rfl rfl rfl rfl rfl ?_) | ((with_reducible refine k_pick ?_); refine m_pickf rfl (by first | rfl | assumption) rfl ?_) | ((with_reducible refine k_bin ?_); refine m_binI rfl rfl rfl ?_)  | refine x_none rfl ?_ | refine x_run_f rfl rfl (by first | rfl | assumption) ?_  )
                refine x_split rfl rfl (fun c3 => ?_) (fun c3 => ?_)
                · repeat (first | ((with_reducible refine k_assign ?_); refine m_assign rfl ?_) | ((with_reducible refine k_pick ?_); refine m_pickt rfl (by first | rfl | assumption) rfl ?_)  | refine e_nrm ?_ | refine x_none rfl ?_ | refine x_skip_f rfl rfl (by first | rfl | assumption) ?_ | with_reducible (first | refine q_then ?_ | refine q_then_ret ?_ | refine q_block_ret ?_ | refine awp_seq ?_ | refine awp_ret ?_) | ((with_reducible refine w_region ?_ ?_); kernel_rfl) | refine w_cond_t rfl (by first | rfl | assumption) ?_)
                  refine ret_v (by first | exact .inr rfl | exact .inl rfl) rfl rfl ?_
                  have c3' : x.co < 0 := by simpa using c3
                  rw [if_pos (.inr (.inr (by unfold compB; rw [decide_eq_false (by omega)]; rfl)))] at hf
                  unfold netE
                  rw [if_neg (by omega), if_pos (by rw [← hf]; decide), ← hf]
                · repeat (first | ((with_reducible refine k_fieldAddr ?_); refine x_fieldAddr_ptr tbOk rfl rfl rfl rfl ?_) | ((with_reducible refine k_load ?_); refine x_load_one tbOk rfl rfl rfl rfl rfl ?_) | ((with_reducible refine k_pick ?_); refine m_pickf rfl (by first | rfl | assumption) rfl ?_) | ((with_reducible refine k_bin ?_); refine m_binI rfl rfl rfl ?_)  | refine e_nrm ?_ | refine x_none rfl ?_ | refine x_run_f rfl rfl (by first | rfl | assumption) ?_ | with_reducible refine q_then ?_ )
                  have c1' : ¬ x.cu < 0 := by simpa using c1
                  have c2' : ¬ 1048576 < x.cu := by simpa using c2
                  have c3' : ¬ x.co < 0 := by simpa using c3
                  refine w_cond rfl (fun c4 => ?_) (fun c4 => ?_)
                  · repeat (first | ((with_reducible refine k_assign ?_); refine m_assign rfl ?_)  | refine e_nrm ?_ | refine x_none rfl ?_ | with_reducible (first | refine q_then ?_ | refine q_then_ret ?_ | refine q_block_ret ?_ | refine awp_seq ?_ | refine awp_ret ?_) | ((with_reducible refine w_region ?_ ?_); kernel_rfl))
                    refine ret_v (by first | exact .inr rfl | exact .inl rfl) rfl rfl ?_
                    have c4' : 7 < x.co := by simpa using c4
                    rw [if_pos (.inr (.inr (by unfold compB; rw [decide_eq_false (show ¬ x.co ≤ 7 by omega), Bool.and_false])))] at hf
                    unfold netE
                    rw [if_neg (by omega), if_pos (by rw [← hf]; decide), ← hf]
                  · have c4' : ¬ 7 < x.co := by simpa using c4
                    rw [if_neg (by
                      rintro (h | h | h)
                      · contradiction
                      · contradiction
                      · unfold compB at h; simp at h; omega)] at hf
                    repeat (first | ((with_reducible refine k_move ?_); refine m_move rfl ?_) | ((with_reducible refine k_assign ?_); refine m_assign rfl ?_) | ((with_reducible refine k_bin ?_); refine x_add_in rfl rfl (by omega) ?_)  | refine e_nrm ?_ | refine x_none rfl ?_ | with_reducible (first | refine q_then ?_ | refine q_block ?_ | refine awp_skip ?_) | ((with_reducible refine w_region ?_ ?_); kernel_rfl))
                    exact ⟨j + 1, ⟨by omega, by rw [nNames_next hx]; exact hf⟩, by omega, ⟨rfl, rfl, trivial⟩, ⟨rfl, trivial⟩⟩
    · obtain rfl : k = N.length := by simp at h; omega
      have hn0 : ndGo [] N = 0 := by rw [← hf, List.drop_of_length_le (Nat.le_refl _)]; rfl
      have eV : netE N V = dvGo N.length (N.map Nd.n) V := by
        unfold netE
        rw [if_neg (by omega), if_neg (by simp [hn0])]
      have eN : N.map Nd.n = nNames N N.length := by unfold nNames; rw [List.take_length]
      rw [eV, eN]
      repeat (first | ((with_reducible refine k_assign ?_); refine m_assign rfl ?_)  | refine e_nrm ?_ | refine x_none rfl ?_ | with_reducible (first | refine q_then ?_ | refine q_then_exit ?_ | refine awp_seq ?_ | refine awp_block ?_ | refine awp_exit ?_) | ((with_reducible refine q_block_exit ?_ ?_); rfl) | ((with_reducible refine w_region ?_ ?_); kernel_rfl))
      refine awp_loop (ι := Nat) (fun k => k ≤ V.length ∧ dvGo N.length (nNames N N.length ++ vNames V k) (V.drop k) = dvGo N.length (nNames N N.length) V) (fun k => V.length - k) (fun v k => [(1, .ptr 1 (v 1) 0), (6, .v (.int .i64 k))]) (fun v k => [(1, .box [.sl 3 (N.map Nd.av), .sl 5 (V.map Dv.av)])]) ?_ ?_
      · exact ⟨0, ⟨Nat.zero_le _, by simp [vNames]⟩, trivial, ⟨rfl, rfl, trivial⟩, ⟨rfl, trivial⟩⟩
      · rintro v k ⟨hk, hf⟩
        repeat (first | ((with_reducible refine k_move ?_); refine m_move rfl ?_) | ((with_reducible refine k_fieldAddr ?_); refine x_fieldAddr_ptr tbOk rfl rfl rfl rfl ?_) | ((with_reducible refine k_load ?_); refine x_load_one tbOk rfl rfl rfl rfl rfl ?_) | ((with_reducible refine k_call ?_); refine x_len tbOk rfl rfl ?_) | ((with_reducible refine k_bin ?_); refine m_binI rfl rfl rfl ?_)  | refine e_nrm ?_ | refine x_none rfl ?_ | with_reducible (first | refine q_then ?_ | refine awp_seq ?_) | ((with_reducible refine w_region ?_ ?_); kernel_rfl))
        refine w_cond rfl (fun h => ?_) (fun h => ?_)
        · have hlt : k < V.length := by simpa using h
          obtain ⟨d, hx⟩ := some_at hlt
          have hy : (V.map Dv.av)[k]? = some d.av := by rw [List.getElem?_map, hx]; rfl
          rw [rdvGo_at hx] at hf
          repeat (first | ((with_reducible refine k_move ?_); refine m_move rfl ?_) | ((with_reducible refine k_fieldAddr ?_); refine x_fieldAddr_ptr tbOk rfl rfl rfl rfl ?_) | ((with_reducible refine k_load ?_); (first | refine x_load_one tbOk rfl rfl rfl rfl rfl ?_ | refine x_load_ep_agg tbOk rfl rfl (Nat.le_of_ble_eq_true rfl) ?_)) | ((with_reducible refine k_store ?_); refine m_store tbOk rfl rfl rfl rfl rfl rfl rfl (Nat.le_of_ble_eq_true rfl) rfl ?_) | ((with_reducible refine k_alloc ?_); refine x_alloc tbOk rfl rfl ?_) | ((with_reducible refine k_indexAddr ?_); refine x_indexAddr_n tbOk rfl rfl rfl rfl (by assumption) ?_)  | refine e_nrm ?_ | refine x_none rfl ?_ | with_reducible (first | refine q_then ?_ | refine awp_seq ?_ | refine awp_block ?_ | refine awp_skip ?_) | ((with_reducible refine w_region ?_ ?_); kernel_rfl))
          refine zC (rname_A d.n (hV d (List.mem_of_getElem? hx))) ?_
          repeat (first | ((with_reducible refine k_un ?_); refine x_not rfl ?_)  | refine e_nrm ?_ | refine x_none rfl ?_ | with_reducible refine q_then ?_ )
          refine w_cond rfl (fun hE => ?_) (fun hE => ?_)
          · repeat (first | ((with_reducible refine k_assign ?_); refine m_assign rfl ?_)  | refine e_nrm ?_ | refine x_none rfl ?_ | with_reducible (first | refine q_then ?_ | refine q_then_ret ?_ | refine q_block_ret ?_ | refine awp_seq ?_ | refine awp_ret ?_) | ((with_reducible refine w_region ?_ ?_); kernel_rfl))
            refine ret_v (by first | exact .inr rfl | exact .inl rfl) rfl rfl ?_
            rw [if_pos (by simpa using hE)] at hf
            rw [← hf]
          · rw [if_neg (by simpa using hE)] at hf
            repeat (first | ((with_reducible refine k_assign ?_); refine m_assign rfl ?_)  | refine e_nrm ?_ | refine x_none rfl ?_ | with_reducible (first | refine q_then ?_ | refine awp_seq ?_ | refine awp_block ?_ | refine awp_skip ?_) | ((with_reducible refine w_region ?_ ?_); kernel_rfl))
            refine awp_loop (ι := Nat) (fun j => j ≤ N.length ∧ usedB (nNames N j) d.n = false) (fun j => N.length - j) (fun v j => [(1, .ptr 1 (v 1) 0), (6, .v (.int .i64 k)), (7, .ptr 7 (v 7) 0), (8, .v (.int .i64 j))]) (fun v j => [(1, .box [.sl 3 (N.map Nd.av), .sl 5 (V.map Dv.av)]), (7, .box d.av.cells)]) ?_ ?_
            · exact ⟨0, ⟨Nat.zero_le _, rfl⟩, trivial, ⟨rfl, rfl, rfl, rfl, trivial⟩, ⟨rfl, rfl, trivial⟩⟩
            · rintro v j ⟨hj, hu⟩
              repeat (first | ((with_reducible refine k_move ?_); refine m_move rfl ?_) | ((with_reducible refine k_fieldAddr ?_); refine x_fieldAddr_ptr tbOk rfl rfl rfl rfl ?_) | ((with_reducible refine k_load ?_); refine x_load_one tbOk rfl rfl rfl rfl rfl ?_) | ((with_reducible refine k_call ?_); refine x_len tbOk rfl rfl ?_) | ((with_reducible refine k_bin ?_); refine m_binI rfl rfl rfl ?_)  | refine e_nrm ?_ | refine x_none rfl ?_ | with_reducible (first | refine q_then ?_ | refine awp_seq ?_) | ((with_reducible refine w_region ?_ ?_); kernel_rfl))
              refine w_cond rfl (fun h => ?_) (fun h => ?_)
              · have hjk : j < N.length := by simpa using h
                obtain ⟨y, hjy⟩ := some_at (L := N) (k := j) (by omega)
                have hz : (N.map Nd.av)[j]? = some y.av := by rw [List.getElem?_map, hjy]; rfl
                repeat (first | ((with_reducible refine k_move ?_); refine m_move rfl ?_) | ((with_reducible refine k_fieldAddr ?_); (first | refine x_fieldAddr_ptr tbOk rfl rfl rfl rfl ?_ | refine x_fieldAddr_ep tbOk rfl rfl rfl rfl ?_)) | ((with_reducible refine k_load ?_); (first | refine x_load_one tbOk rfl rfl rfl rfl rfl ?_ | refine x_load_ep_one tbOk rfl rfl rfl ?_)) | ((with_reducible refine k_indexAddr ?_); refine x_indexAddr_n tbOk rfl rfl rfl rfl (by assumption) ?_) | ((with_reducible refine k_bin ?_); refine m_binS rfl rfl rfl ?_)  | refine e_drw (by kernel_rfl) ?_ | refine x_none rfl ?_ | with_reducible (first | refine q_then ?_ | refine awp_seq ?_ | refine awp_block ?_ | refine awp_skip ?_) | ((with_reducible refine w_draw mixd ?_ ?_); kernel_rfl))
                refine w_cond rfl (fun he => ?_) (fun he => ?_)
                · repeat (first | ((with_reducible refine k_assign ?_); refine m_assign rfl ?_)  | refine e_nrm ?_ | refine x_none rfl ?_ | with_reducible (first | refine q_then ?_ | refine q_then_ret ?_ | refine q_block_ret ?_ | refine awp_seq ?_ | refine awp_ret ?_) | ((with_reducible refine w_region ?_ ?_); kernel_rfl))
                  refine ret_v (by first | exact .inr rfl | exact .inl rfl) rfl rfl ?_
                  have he' : d.n = y.n := (strEq_iff.1 he).symm
                  rw [if_pos (by rw [usedB_app, usedN (by omega) hjy he' hjk]; rfl)] at hf
                  rw [← hf]
                · repeat (first | ((with_reducible refine k_move ?_); refine m_move rfl ?_) | ((with_reducible refine k_assign ?_); refine m_assign rfl ?_) | ((with_reducible refine k_bin ?_); refine x_add_in rfl rfl (by omega) ?_)  | refine e_nrm ?_ | refine x_none rfl ?_ | with_reducible (first | refine q_then ?_ | refine q_block ?_ | refine awp_skip ?_) | ((with_reducible refine w_region ?_ ?_); kernel_rfl))
                  refine ⟨j + 1, ⟨by omega, ?_⟩, by omega, ⟨rfl, rfl, rfl, rfl, trivial⟩, ⟨rfl, rfl, trivial⟩⟩
                  rw [nNames_next hjy, usedB_app, hu, usedB_one, Bool.false_or]
                  rw [strEq_dec'] at he
                  exact decide_eq_false fun e => by rw [e] at he; simp at he
              · obtain rfl : j = N.length := by simp at h; omega
                rw [usedB_app, hu, Bool.false_or] at hf
                repeat (first | ((with_reducible refine k_assign ?_); refine m_assign rfl ?_)  | refine e_nrm ?_ | refine x_none rfl ?_ | with_reducible (first | refine q_then ?_ | refine q_then_exit ?_ | refine awp_seq ?_ | refine awp_block ?_ | refine awp_exit ?_) | ((with_reducible refine q_block_exit ?_ ?_); rfl) | ((with_reducible refine w_region ?_ ?_); kernel_rfl))
                refine awp_loop (ι := Nat) (fun j => j ≤ k ∧ usedB (vNames V j) d.n = false) (fun j => k - j) (fun v j => [(1, .ptr 1 (v 1) 0), (6, .v (.int .i64 k)), (7, .ptr 7 (v 7) 0), (9, .v (.int .i64 j))]) (fun v j => [(1, .box [.sl 3 (N.map Nd.av), .sl 5 (V.map Dv.av)]), (7, .box d.av.cells)]) ?_ ?_
                · exact ⟨0, ⟨Nat.zero_le _, rfl⟩, trivial, ⟨rfl, rfl, rfl, rfl, trivial⟩, ⟨rfl, rfl, trivial⟩⟩
                · rintro v j ⟨hj, hu⟩
                  repeat (first | ((with_reducible refine k_move ?_); refine m_move rfl ?_) | ((with_reducible refine k_bin ?_); refine m_binI rfl rfl rfl ?_)  | refine e_nrm ?_ | refine x_none rfl ?_ | with_reducible (first | refine q_then ?_ | refine awp_seq ?_) | ((with_reducible refine w_region ?_ ?_); kernel_rfl))
                  refine w_cond rfl (fun h => ?_) (fun h => ?_)
                  · have hjk : j < k := by simpa using h
                    obtain ⟨y, hjy⟩ := some_at (L := V) (k := j) (by omega)
                    have hz : (V.map Dv.av)[j]? = some y.av := by rw [List.getElem?_map, hjy]; rfl
                    repeat (first | ((with_reducible refine k_move ?_); refine m_move rfl ?_) | ((with_reducible refine k_fieldAddr ?_); (first | refine x_fieldAddr_ptr tbOk rfl rfl rfl rfl ?_ | refine x_fieldAddr_ep tbOk rfl rfl rfl rfl ?_)) | ((with_reducible refine k_load ?_); (first | refine x_load_one tbOk rfl rfl rfl rfl rfl ?_ | refine x_load_ep_one tbOk rfl rfl rfl ?_)) | ((with_reducible refine k_indexAddr ?_); refine x_indexAddr_n tbOk rfl rfl rfl rfl (by assumption) ?_) | ((with_reducible refine k_bin ?_); refine m_binS rfl rfl rfl ?_)  | refine e_drw (by kernel_rfl) ?_ | refine x_none rfl ?_ | with_reducible (first | refine q_then ?_ | refine awp_seq ?_ | refine awp_block ?_ | refine awp_skip ?_) | ((with_reducible refine w_draw mixd ?_ ?_); kernel_rfl))
                    refine w_cond rfl (fun he => ?_) (fun he => ?_)
                    · repeat (first | ((with_reducible refine k_assign ?_); refine m_assign rfl ?_)  | refine e_nrm ?_ | refine x_none rfl ?_ | with_reducible (first | refine q_then ?_ | refine q_then_ret ?_ | refine q_block_ret ?_ | refine awp_seq ?_ | refine awp_ret ?_) | ((with_reducible refine w_region ?_ ?_); kernel_rfl))
                      refine ret_v (by first | exact .inr rfl | exact .inl rfl) rfl rfl ?_
                      have he' : d.n = y.n := (strEq_iff.1 he).symm
                      rw [if_pos (usedV hjy he' hjk)] at hf
                      rw [← hf]
                    · repeat (first | ((with_reducible refine k_move ?_); refine m_move rfl ?_) | ((with_reducible refine k_assign ?_); refine m_assign rfl ?_) | ((with_reducible refine k_bin ?_); refine x_add_in rfl rfl (by omega) ?_)  | refine e_nrm ?_ | refine x_none rfl ?_ | with_reducible (first | refine q_then ?_ | refine q_block ?_ | refine awp_skip ?_) | ((with_reducible refine w_region ?_ ?_); kernel_rfl))
                      refine ⟨j + 1, ⟨by omega, ?_⟩, by omega, ⟨rfl, rfl, rfl, rfl, trivial⟩, ⟨rfl, rfl, trivial⟩⟩
                      rw [vNames_next hjy, usedB_app, hu, usedB_one, Bool.false_or]
                      rw [strEq_dec'] at he
                      exact decide_eq_false fun e => by rw [e] at he; simp at he
                  · obtain rfl : j = k := by simp at h; omega
                    rw [if_neg (by rw [hu]; decide)] at hf
                    repeat (first | ((with_reducible refine k_move ?_); refine m_move rfl ?_) | ((with_reducible refine k_fieldAddr ?_); refine x_fieldAddr_ptr tbOk rfl rfl rfl rfl ?_) | ((with_reducible refine k_load ?_); refine x_load_one tbOk rfl rfl rfl rfl rfl ?_) | ((with_reducible refine k_bin ?_); refine m_binI rfl rfl rfl ?_)  | refine x_none rfl ?_ | with_reducible (first | refine q_then ?_ | refine q_then_exit ?_ | refine awp_seq ?_ | refine awp_exit ?_) | ((with_reducible refine q_block_exit ?_ ?_); rfl) | ((with_reducible refine w_region ?_ ?_); kernel_rfl))
                    refine x_split rfl rfl (fun c1 => ?_) (fun c1 => ?_)
                    · repeat (first | ((with_reducible refine k_assign ?_); refine m_assign rfl ?_) | ((with_reducible refine k_pick ?_); refine m_pickt rfl (by first | rfl | assumption) rfl ?_)  | refine e_nrm ?_ | refine x_none rfl ?_ | refine x_skip_f rfl rfl (by first | rfl | assumption) ?_ | with_reducible (first | refine q_then ?_ | refine q_then_ret ?_ | refine q_block_ret ?_ | refine awp_seq ?_ | refine awp_ret ?_) | ((with_reducible refine w_region ?_ ?_); kernel_rfl) | refine w_cond_t rfl (by first | rfl | assumption) ?_)
                      refine ret_v (by first | exact .inr rfl | exact .inl rfl) rfl rfl ?_
                      rw [if_pos (.inl (by simpa using c1))] at hf
                      rw [← hf]
                    · repeat (first | ((with_reducible refine k_fieldAddr ?_); refine x_fieldAddr_ptr tbOk rfl rfl rfl rfl ?_) | ((with_reducible refine k_load ?_); refine x_load_one tbOk rfl rfl rfl rfl rfl ?_) | ((with_reducible refine k_pick ?_); refine m_pickf rfl (by first | rfl | assumption) rfl ?_) | ((with_reducible refine k_bin ?_); refine m_binI rfl rfl rfl ?_)  | refine e_nrm ?_ | refine x_none rfl ?_ | refine x_run_f rfl rfl (by first | rfl | assumption) ?_ | with_reducible refine q_then ?_ )
                      refine w_cond rfl (fun c2 => ?_) (fun c2 => ?_)
                      · repeat (first | ((with_reducible refine k_assign ?_); refine m_assign rfl ?_)  | refine e_nrm ?_ | refine x_none rfl ?_ | with_reducible (first | refine q_then ?_ | refine q_then_ret ?_ | refine q_block_ret ?_ | refine awp_seq ?_ | refine awp_ret ?_) | ((with_reducible refine w_region ?_ ?_); kernel_rfl))
                        refine ret_v (by first | exact .inr rfl | exact .inl rfl) rfl rfl ?_
                        rw [if_pos (.inr (by simpa using c2))] at hf
                        rw [← hf]
                      · have c1' : ¬ d.k < 1 := by simpa using c1
                        have c2' : ¬ 6 < d.k := by simpa using c2
                        rw [if_neg (by omega)] at hf
                        repeat (first | ((with_reducible refine k_move ?_); refine m_move rfl ?_) | ((with_reducible refine k_fieldAddr ?_); refine x_fieldAddr_ptr tbOk rfl rfl rfl rfl ?_) | ((with_reducible refine k_load ?_); refine x_load_one tbOk rfl rfl rfl rfl rfl ?_) | ((with_reducible refine k_bin ?_); refine m_binI rfl rfl rfl ?_)  | refine x_none rfl ?_ | with_reducible (first | refine q_then ?_ | refine awp_seq ?_ | refine awp_skip ?_) | ((with_reducible refine w_region ?_ ?_); kernel_rfl))
                        repeat (first | fail   )
                        refine x_split rfl rfl (fun a1 => ?_) (fun a1 => ?_)
                        · have a1' : d.a < 0 := by simpa using a1
                          have e7 : endsB d N.length = false := ends_no (.inl a1')
                          repeat (first | ((with_reducible refine k_move ?_); refine m_move rfl ?_) | ((with_reducible refine k_assign ?_); refine m_assign rfl ?_) | ((with_reducible refine k_pick ?_); refine m_pickt rfl (by first | rfl | assumption) rfl ?_)  | refine e_nrm ?_ | refine x_none rfl ?_ | refine x_skip_f rfl rfl (by first | rfl | assumption) ?_ | refine x_skip' rfl rfl rfl ?_ | with_reducible (first | refine q_then ?_ | refine q_then_ret ?_ | refine q_block_ret ?_ | refine awp_seq ?_ | refine awp_ret ?_) | ((with_reducible refine w_region ?_ ?_); kernel_rfl) | refine w_cond_t rfl (by first | rfl | assumption) ?_)
                          refine ret_v (by first | exact .inr rfl | exact .inl rfl) rfl rfl ?_
                          rw [if_pos e7] at hf
                          rw [← hf]
                        have a1' : ¬ d.a < 0 := by simpa using a1
                        repeat (first | ((with_reducible refine k_move ?_); refine m_move rfl ?_) | ((with_reducible refine k_fieldAddr ?_); refine x_fieldAddr_ptr tbOk rfl rfl rfl rfl ?_) | ((with_reducible refine k_load ?_); refine x_load_one tbOk rfl rfl rfl rfl rfl ?_) | ((with_reducible refine k_pick ?_); refine m_pickf rfl (by first | rfl | assumption) rfl ?_) | ((with_reducible refine k_call ?_); refine x_len tbOk rfl rfl ?_) | ((with_reducible refine k_bin ?_); refine m_binI rfl rfl rfl ?_)  | refine x_none rfl ?_ | refine x_run_f rfl rfl (by first | rfl | assumption) ?_ )
                        refine x_split rfl rfl (fun a2 => ?_) (fun a2 => ?_)
                        · have a2' : (N.length : Int) ≤ d.a := by simpa using a2
                          have e7 : endsB d N.length = false := ends_no (.inr (.inl a2'))
                          repeat (first | ((with_reducible refine k_move ?_); refine m_move rfl ?_) | ((with_reducible refine k_assign ?_); refine m_assign rfl ?_) | ((with_reducible refine k_pick ?_); refine m_pickt rfl (by first | rfl | assumption) rfl ?_)  | refine e_nrm ?_ | refine x_none rfl ?_ | refine x_skip_f rfl rfl (by first | rfl | assumption) ?_ | refine x_skip' rfl rfl rfl ?_ | with_reducible (first | refine q_then ?_ | refine q_then_ret ?_ | refine q_block_ret ?_ | refine awp_seq ?_ | refine awp_ret ?_) | ((with_reducible refine w_region ?_ ?_); kernel_rfl) | refine w_cond_t rfl (by first | rfl | assumption) ?_)
                          refine ret_v (by first | exact .inr rfl | exact .inl rfl) rfl rfl ?_
                          rw [if_pos e7] at hf
                          rw [← hf]
                        have a2' : ¬ (N.length : Int) ≤ d.a := by simpa using a2
                        repeat (first | ((with_reducible refine k_fieldAddr ?_); refine x_fieldAddr_ptr tbOk rfl rfl rfl rfl ?_) | ((with_reducible refine k_load ?_); refine x_load_one tbOk rfl rfl rfl rfl rfl ?_)  | refine x_run_f rfl rfl (by first | rfl | assumption) ?_ )
                        have hJ0 := rjoins_A (G := X.G) d.k
                        cases hJ : joinsB d.k with
                        | true =>
                          rw [hJ] at hJ0
                          refine zC (hJ0) ?_
                          repeat (first | ((with_reducible refine k_move ?_); refine m_move rfl ?_) | ((with_reducible refine k_fieldAddr ?_); refine x_fieldAddr_ptr tbOk rfl rfl rfl rfl ?_) | ((with_reducible refine k_load ?_); refine x_load_one tbOk rfl rfl rfl rfl rfl ?_) | ((with_reducible refine k_bin ?_); refine m_binI rfl rfl rfl ?_)  | refine x_run_t rfl rfl (by first | rfl | assumption) ?_ | refine x_run_f rfl rfl (by first | rfl | assumption) ?_ )
                          refine x_split rfl rfl (fun a3 => ?_) (fun a3 => ?_)
                          · have a3' : d.b < 0 := by simpa using a3
                            have e7 : endsB d N.length = false := ends_no (.inr (.inr (.inl ⟨hJ, .inl a3'⟩)))
                            repeat (first | ((with_reducible refine k_move ?_); refine m_move rfl ?_) | ((with_reducible refine k_assign ?_); refine m_assign rfl ?_) | ((with_reducible refine k_pick ?_); (first | refine m_pickt rfl (by first | rfl | assumption) rfl ?_ | refine m_pickf rfl (by first | rfl | assumption) rfl ?_))  | refine e_nrm ?_ | refine x_none rfl ?_ | refine x_run_t rfl rfl (by first | rfl | assumption) ?_ | refine x_run_f rfl rfl (by first | rfl | assumption) ?_ | refine x_skip_f rfl rfl (by first | rfl | assumption) ?_ | refine x_skip' rfl rfl rfl ?_ | with_reducible (first | refine q_then ?_ | refine q_then_ret ?_ | refine q_block_ret ?_ | refine awp_seq ?_ | refine awp_ret ?_) | ((with_reducible refine w_region ?_ ?_); kernel_rfl) | refine w_cond_t rfl (by first | rfl | assumption) ?_)
                            refine ret_v (by first | exact .inr rfl | exact .inl rfl) rfl rfl ?_
                            rw [if_pos e7] at hf
                            rw [← hf]
                          have a3' : ¬ d.b < 0 := by simpa using a3
                          repeat (first | ((with_reducible refine k_move ?_); refine m_move rfl ?_) | ((with_reducible refine k_fieldAddr ?_); refine x_fieldAddr_ptr tbOk rfl rfl rfl rfl ?_) | ((with_reducible refine k_load ?_); refine x_load_one tbOk rfl rfl rfl rfl rfl ?_) | ((with_reducible refine k_pick ?_); refine m_pickf rfl (by first | rfl | assumption) rfl ?_) | ((with_reducible refine k_call ?_); refine x_len tbOk rfl rfl ?_) | ((with_reducible refine k_bin ?_); refine m_binI rfl rfl rfl ?_)  | refine x_run_t rfl rfl (by first | rfl | assumption) ?_ | refine x_run_f rfl rfl (by first | rfl | assumption) ?_ )
                          refine x_split rfl rfl (fun a4 => ?_) (fun a4 => ?_)
                          · have a4' : (N.length : Int) ≤ d.b := by simpa using a4
                            have e7 : endsB d N.length = false := ends_no (.inr (.inr (.inl ⟨hJ, .inr (.inl a4')⟩)))
                            repeat (first | ((with_reducible refine k_move ?_); refine m_move rfl ?_) | ((with_reducible refine k_assign ?_); refine m_assign rfl ?_) | ((with_reducible refine k_pick ?_); (first | refine m_pickt rfl (by first | rfl | assumption) rfl ?_ | refine m_pickf rfl (by first | rfl | assumption) rfl ?_))  | refine e_nrm ?_ | refine x_none rfl ?_ | refine x_run_t rfl rfl (by first | rfl | assumption) ?_ | refine x_run_f rfl rfl (by first | rfl | assumption) ?_ | refine x_skip_f rfl rfl (by first | rfl | assumption) ?_ | refine x_skip' rfl rfl rfl ?_ | with_reducible (first | refine q_then ?_ | refine q_then_ret ?_ | refine q_block_ret ?_ | refine awp_seq ?_ | refine awp_ret ?_) | ((with_reducible refine w_region ?_ ?_); kernel_rfl) | refine w_cond_t rfl (by first | rfl | assumption) ?_)
                            refine ret_v (by first | exact .inr rfl | exact .inl rfl) rfl rfl ?_
                            rw [if_pos e7] at hf
                            rw [← hf]
                          have a4' : ¬ (N.length : Int) ≤ d.b := by simpa using a4
                          repeat (first | ((with_reducible refine k_move ?_); refine m_move rfl ?_) | ((with_reducible refine k_fieldAddr ?_); refine x_fieldAddr_ptr tbOk rfl rfl rfl rfl ?_) | ((with_reducible refine k_load ?_); refine x_load_one tbOk rfl rfl rfl rfl rfl ?_) | ((with_reducible refine k_pick ?_); (first | refine m_pickt rfl (by first | rfl | assumption) rfl ?_ | refine m_pickf rfl (by first | rfl | assumption) rfl ?_)) | ((with_reducible refine k_bin ?_); refine m_binI rfl rfl rfl ?_)  | refine x_none rfl ?_ | refine x_run_t rfl rfl (by first | rfl | assumption) ?_ | refine x_run_f rfl rfl (by first | rfl | assumption) ?_ )
                          refine x_split rfl rfl (fun a5 => ?_) (fun a5 => ?_)
                          · have a5' : d.b = d.a := by simpa using a5
                            have e7 : endsB d N.length = false := ends_no (.inr (.inr (.inl ⟨hJ, .inr (.inr a5')⟩)))
                            repeat (first | ((with_reducible refine k_assign ?_); refine m_assign rfl ?_) | ((with_reducible refine k_pick ?_); refine m_pickt rfl (by first | rfl | assumption) rfl ?_)  | refine e_nrm ?_ | refine x_none rfl ?_ | refine x_skip_f rfl rfl (by first | rfl | assumption) ?_ | refine x_skip' rfl rfl rfl ?_ | with_reducible (first | refine q_then ?_ | refine q_then_ret ?_ | refine q_block_ret ?_ | refine awp_seq ?_ | refine awp_ret ?_) | ((with_reducible refine w_region ?_ ?_); kernel_rfl) | refine w_cond_t rfl (by first | rfl | assumption) ?_)
                            refine ret_v (by first | exact .inr rfl | exact .inl rfl) rfl rfl ?_
                            rw [if_pos e7] at hf
                            rw [← hf]
                          have a5' : ¬ d.b = d.a := by simpa using a5
                          repeat (first | ((with_reducible refine k_fieldAddr ?_); refine x_fieldAddr_ptr tbOk rfl rfl rfl rfl ?_) | ((with_reducible refine k_load ?_); refine x_load_one tbOk rfl rfl rfl rfl rfl ?_)  | refine x_run_f rfl rfl (by first | rfl | assumption) ?_ )
                          refine zC (hJ0) ?_
                          repeat (first | ((with_reducible refine k_move ?_); refine m_move rfl ?_) | ((with_reducible refine k_fieldAddr ?_); refine x_fieldAddr_ptr tbOk rfl rfl rfl rfl ?_) | ((with_reducible refine k_load ?_); refine x_load_one tbOk rfl rfl rfl rfl rfl ?_) | ((with_reducible refine k_un ?_); refine x_not rfl ?_) | ((with_reducible refine k_pick ?_); refine m_pickf rfl (by first | rfl | assumption) rfl ?_) | ((with_reducible refine k_bin ?_); refine m_binI rfl rfl rfl ?_)  | refine e_nrm ?_ | refine x_none rfl ?_ | refine x_skip_t rfl rfl (by first | rfl | assumption) ?_ | refine x_run_f rfl rfl (by first | rfl | assumption) ?_ | with_reducible (first | refine q_then ?_ | refine awp_seq ?_ | refine awp_skip ?_) | ((with_reducible refine w_region ?_ ?_); kernel_rfl) | refine w_cond_f rfl (by first | rfl | assumption) ?_)
                          have e7 : endsB d N.length = true := ends_yes a1' a2' (.inl ⟨hJ, a3', a4', a5'⟩)
                          rw [if_neg (by rw [e7]; decide)] at hf
                          repeat (first | fail    )
                          refine x_split rfl rfl (fun d1 => ?_) (fun d1 => ?_)
                          · repeat (first | ((with_reducible refine k_assign ?_); refine m_assign rfl ?_) | ((with_reducible refine k_pick ?_); refine m_pickt rfl (by first | rfl | assumption) rfl ?_)  | refine e_nrm ?_ | refine x_none rfl ?_ | refine x_skip_f rfl rfl (by first | rfl | assumption) ?_ | with_reducible (first | refine q_then ?_ | refine q_then_ret ?_ | refine q_block_ret ?_ | refine awp_seq ?_ | refine awp_ret ?_) | ((with_reducible refine w_region ?_ ?_); kernel_rfl) | refine w_cond_t rfl (by first | rfl | assumption) ?_)
                            refine ret_v (by first | exact .inr rfl | exact .inl rfl) rfl rfl ?_
                            have d1' : d.co < 0 := by simpa using d1
                            rw [if_pos (by unfold compB; rw [decide_eq_false (by omega)]; rfl)] at hf
                            rw [← hf]
                          · repeat (first | ((with_reducible refine k_fieldAddr ?_); refine x_fieldAddr_ptr tbOk rfl rfl rfl rfl ?_) | ((with_reducible refine k_load ?_); refine x_load_one tbOk rfl rfl rfl rfl rfl ?_) | ((with_reducible refine k_pick ?_); refine m_pickf rfl (by first | rfl | assumption) rfl ?_) | ((with_reducible refine k_bin ?_); refine m_binI rfl rfl rfl ?_)  | refine e_nrm ?_ | refine x_none rfl ?_ | refine x_run_f rfl rfl (by first | rfl | assumption) ?_ | with_reducible refine q_then ?_ )
                            have d1' : ¬ d.co < 0 := by simpa using d1
                            refine w_cond rfl (fun d2 => ?_) (fun d2 => ?_)
                            · repeat (first | ((with_reducible refine k_assign ?_); refine m_assign rfl ?_)  | refine e_nrm ?_ | refine x_none rfl ?_ | with_reducible (first | refine q_then ?_ | refine q_then_ret ?_ | refine q_block_ret ?_ | refine awp_seq ?_ | refine awp_ret ?_) | ((with_reducible refine w_region ?_ ?_); kernel_rfl))
                              refine ret_v (by first | exact .inr rfl | exact .inl rfl) rfl rfl ?_
                              have d2' : 7 < d.co := by simpa using d2
                              rw [if_pos (by unfold compB; rw [decide_eq_false (show ¬ d.co ≤ 7 by omega), Bool.and_false])] at hf
                              rw [← hf]
                            · have d2' : ¬ 7 < d.co := by simpa using d2
                              rw [if_neg (by intro h; unfold compB at h; simp at h; omega)] at hf
                              repeat (first | ((with_reducible refine k_move ?_); refine m_move rfl ?_) | ((with_reducible refine k_assign ?_); refine m_assign rfl ?_) | ((with_reducible refine k_bin ?_); refine x_add_in rfl rfl (by omega) ?_)  | refine e_nrm ?_ | refine x_none rfl ?_ | with_reducible (first | refine q_then ?_ | refine q_block ?_ | refine awp_skip ?_) | ((with_reducible refine w_region ?_ ?_); kernel_rfl))
                              exact ⟨j + 1, ⟨by omega, by rw [vNames_next hx, ← List.append_assoc]; exact hf⟩, by omega, ⟨rfl, rfl, trivial⟩, ⟨rfl, trivial⟩⟩
                        | false =>
                          rw [hJ] at hJ0
                          refine zC (hJ0) ?_
                          repeat (first | ((with_reducible refine k_move ?_); refine m_move rfl ?_) | ((with_reducible refine k_fieldAddr ?_); refine x_fieldAddr_ptr tbOk rfl rfl rfl rfl ?_) | ((with_reducible refine k_load ?_); refine x_load_one tbOk rfl rfl rfl rfl rfl ?_) | ((with_reducible refine k_pick ?_); refine m_pickf rfl (by first | rfl | assumption) rfl ?_)  | refine x_none rfl ?_ | refine x_skip_t rfl rfl (by first | rfl | assumption) ?_ | refine x_run_f rfl rfl (by first | rfl | assumption) ?_ | refine x_skip' rfl rfl rfl ?_ )
                          refine zC (hJ0) ?_
                          repeat (first | ((with_reducible refine k_move ?_); refine m_move rfl ?_) | ((with_reducible refine k_fieldAddr ?_); refine x_fieldAddr_ptr tbOk rfl rfl rfl rfl ?_) | ((with_reducible refine k_load ?_); refine x_load_one tbOk rfl rfl rfl rfl rfl ?_) | ((with_reducible refine k_un ?_); refine x_not rfl ?_) | ((with_reducible refine k_pick ?_); (first | refine m_pickt rfl (by first | rfl | assumption) rfl ?_ | refine m_pickf rfl (by first | rfl | assumption) rfl ?_)) | ((with_reducible refine k_bin ?_); refine m_binI rfl rfl rfl ?_)  | refine e_nrm ?_ | refine x_none rfl ?_ | refine x_run_t rfl rfl (by first | rfl | assumption) ?_ | refine x_run_f rfl rfl (by first | rfl | assumption) ?_ | with_reducible refine q_then ?_)
                          refine w_cond rfl (fun a6 => ?_) (fun a6 => ?_)
                          · have a6' : d.b ≠ -1 := by simpa using a6
                            have e7 : endsB d N.length = false := ends_no (.inr (.inr (.inr ⟨hJ, a6'⟩)))
                            repeat (first | ((with_reducible refine k_assign ?_); refine m_assign rfl ?_)  | refine e_nrm ?_ | refine x_none rfl ?_ | with_reducible (first | refine q_then ?_ | refine q_then_ret ?_ | refine q_block_ret ?_ | refine awp_seq ?_ | refine awp_ret ?_) | ((with_reducible refine w_region ?_ ?_); kernel_rfl))
                            refine ret_v (by first | exact .inr rfl | exact .inl rfl) rfl rfl ?_
                            rw [if_pos e7] at hf
                            rw [← hf]
                          have a6' : d.b = -1 := by simpa using a6
                          have e7 : endsB d N.length = true := ends_yes a1' a2' (.inr ⟨hJ, a6'⟩)
                          rw [if_neg (by rw [e7]; decide)] at hf
                          repeat (first | ((with_reducible refine k_move ?_); refine m_move rfl ?_) | ((with_reducible refine k_fieldAddr ?_); refine x_fieldAddr_ptr tbOk rfl rfl rfl rfl ?_) | ((with_reducible refine k_load ?_); refine x_load_one tbOk rfl rfl rfl rfl rfl ?_) | ((with_reducible refine k_bin ?_); refine m_binI rfl rfl rfl ?_)  | refine x_none rfl ?_ | with_reducible (first | refine q_then ?_ | refine awp_seq ?_ | refine awp_skip ?_) | ((with_reducible refine w_region ?_ ?_); kernel_rfl))
                          refine x_split rfl rfl (fun d1 => ?_) (fun d1 => ?_)
                          · repeat (first | ((with_reducible refine k_assign ?_); refine m_assign rfl ?_) | ((with_reducible refine k_pick ?_); refine m_pickt rfl (by first | rfl | assumption) rfl ?_)  | refine e_nrm ?_ | refine x_none rfl ?_ | refine x_skip_f rfl rfl (by first | rfl | assumption) ?_ | with_reducible (first | refine q_then ?_ | refine q_then_ret ?_ | refine q_block_ret ?_ | refine awp_seq ?_ | refine awp_ret ?_) | ((with_reducible refine w_region ?_ ?_); kernel_rfl) | refine w_cond_t rfl (by first | rfl | assumption) ?_)
                            refine ret_v (by first | exact .inr rfl | exact .inl rfl) rfl rfl ?_
                            have d1' : d.co < 0 := by simpa using d1
                            rw [if_pos (by unfold compB; rw [decide_eq_false (by omega)]; rfl)] at hf
                            rw [← hf]
                          · repeat (first | ((with_reducible refine k_fieldAddr ?_); refine x_fieldAddr_ptr tbOk rfl rfl rfl rfl ?_) | ((with_reducible refine k_load ?_); refine x_load_one tbOk rfl rfl rfl rfl rfl ?_) | ((with_reducible refine k_pick ?_); refine m_pickf rfl (by first | rfl | assumption) rfl ?_) | ((with_reducible refine k_bin ?_); refine m_binI rfl rfl rfl ?_)  | refine e_nrm ?_ | refine x_none rfl ?_ | refine x_run_f rfl rfl (by first | rfl | assumption) ?_ | with_reducible refine q_then ?_ )
                            have d1' : ¬ d.co < 0 := by simpa using d1
                            refine w_cond rfl (fun d2 => ?_) (fun d2 => ?_)
                            · repeat (first | ((with_reducible refine k_assign ?_); refine m_assign rfl ?_)  | refine e_nrm ?_ | refine x_none rfl ?_ | with_reducible (first | refine q_then ?_ | refine q_then_ret ?_ | refine q_block_ret ?_ | refine awp_seq ?_ | refine awp_ret ?_) | ((with_reducible refine w_region ?_ ?_); kernel_rfl))
                              refine ret_v (by first | exact .inr rfl | exact .inl rfl) rfl rfl ?_
                              have d2' : 7 < d.co := by simpa using d2
                              rw [if_pos (by unfold compB; rw [decide_eq_false (show ¬ d.co ≤ 7 by omega), Bool.and_false])] at hf
                              rw [← hf]
                            · have d2' : ¬ 7 < d.co := by simpa using d2
                              rw [if_neg (by intro h; unfold compB at h; simp at h; omega)] at hf
                              repeat (first | ((with_reducible refine k_move ?_); refine m_move rfl ?_) | ((with_reducible refine k_assign ?_); refine m_assign rfl ?_) | ((with_reducible refine k_bin ?_); refine x_add_in rfl rfl (by omega) ?_)  | refine e_nrm ?_ | refine x_none rfl ?_ | with_reducible (first | refine q_then ?_ | refine q_block ?_ | refine awp_skip ?_) | ((with_reducible refine w_region ?_ ?_); kernel_rfl))
                              exact ⟨j + 1, ⟨by omega, by rw [vNames_next hx, ← List.append_assoc]; exact hf⟩, by omega, ⟨rfl, rfl, trivial⟩, ⟨rfl, trivial⟩⟩
        · have hlt : ¬ k < V.length := by simpa using h
          repeat (first | ((with_reducible refine k_assign ?_); refine m_assign rfl ?_)  | refine e_nrm ?_ | refine x_none rfl ?_ | with_reducible (first | refine q_then ?_ | refine q_then_exit ?_ | refine awp_seq ?_ | refine awp_exit ?_ | refine awp_ret ?_) | ((with_reducible refine q_block_exit ?_ ?_); rfl) | ((with_reducible refine w_region ?_ ?_); kernel_rfl))
          refine ret_v (by first | exact .inr rfl | exact .inl rfl) rfl rfl ?_
          rw [List.drop_of_length_le (by omega)] at hf
          rw [← hf]; rfl
end Go.Proofs.YtamihjgfncjdoaaDoor
