/- safes: keys, people, Check, with, Find, In, Locked, by the abstract machine; conditions: the table of classes stands. -/
import Derived.Test.YtlmkloghbgglkaaDoorSfA
import Derived.Test.YtlmkloghbgglkaaDoorAbsQ
set_option linter.unusedVariables false
set_option linter.unusedSimpArgs false
namespace Go.Proofs.YtlmkloghbgglkaaDoor
open Go Go.RowKit
set_option maxRecDepth 10000
variable {G : Nat → Option (List Value)}
def Sf.av (s : Sf) : AV := .ag [.v (.int .i64 s.num), .sl 1 (s.keys.map iv), .sl 1 (s.locked.map sv)]
def SfMax (s : Sf) : Prop := s.keys.length ≤ 900 ∧ s.locked.length ≤ 900 ∧ ∀ n ∈ s.locked, n.size ≤ maxLen
theorem sf_at {L : List Sf} {k : Nat} {x : Sf} (h : L[k]? = some x) : (L.map Sf.av)[k]? = some x.av := by rw [List.getElem?_map, h]; rfl
def prevL {α : Type} (L : List α) (k : Nat) : Option α := if k = 0 then none else L[k - 1]?
theorem prevL_next {α : Type} {L : List α} {k : Nat} {x : α} (h : L[k]? = some x) : prevL L (k + 1) = some x := by unfold prevL; rw [if_neg (by omega)]; exact h
theorem keyGo_at {P : List Sf} {q : Option Int} {K : List Int} {k : Nat} {x : Int} (h : K[k]? = some x) : keyGo P q (K.drop k) = if keyE P q x ≠ 0 then keyE P q x else keyGo P (some x) (K.drop (k + 1)) := by rw [drop_at h]; rfl
theorem nameGo_at {q : Option ByteArray} {K : List ByteArray} {k : Nat} {x : ByteArray} (h : K[k]? = some x) : nameGo q (K.drop k) = if nameE q x ≠ 0 then nameE q x else nameGo (some x) (K.drop (k + 1)) := by rw [drop_at h]; rfl
theorem sfGo_at {L : List Sf} {q : Option Sf} {k : Nat} {x : Sf} (h : L[k]? = some x) : sfGo (L.take k) q (L.drop k) = if sfE (L.take k) q x ≠ 0 then sfE (L.take k) q x else sfGo (L.take (k + 1)) (some x) (L.drop (k + 1)) := by
  rw [drop_at h, take_at h]; rfl
set_option maxHeartbeats 4000000 in
theorem keys_A (L : List Sf) (i : Nat) (s : Sf) (hs : L[i]? = some s) (hm : ∀ x ∈ L, SfMax x) (h16 : L.length ≤ 16) : ACalls Tryd.prog G 37 [.sl 3 (L.map Sf.av), .v (.int .i64 i)] [] (.v (.int .i64 (keyGo (L.take i) none s.keys))) [] := by
  have hsy := sf_at hs
  have hlt := lt_at hs
  have hml : (L.map Sf.av).length = L.length := by simp
  obtain ⟨hk9, -, -⟩ := hm s (List.mem_of_getElem? hs)
  have hkl : (s.keys.map iv).length = s.keys.length := by simp
  refine acalls_of tbOk (enter_of Tryd.func37 (by kernel_rfl) rfl) Tryd.func37 rfl _ Tryd.ntmps37 (Nat.le_of_ble_eq_true rfl) fun X hX => ?_
  subst hX
  repeat (first | ((with_reducible refine k_move ?_); refine m_move rfl ?_) | ((with_reducible refine k_assign ?_); refine m_assign rfl ?_) | ((with_reducible refine k_fieldAddr ?_); refine x_fieldAddr_ep tbOk rfl rfl rfl rfl ?_) | ((with_reducible refine k_load ?_); refine x_load_ep_one tbOk rfl rfl rfl ?_) | ((with_reducible refine k_indexAddr ?_); refine x_indexAddr_n tbOk rfl rfl rfl rfl (by assumption) ?_) | ((with_reducible refine k_call ?_); refine x_len tbOk rfl rfl ?_)  | refine e_nrm ?_ | refine x_none rfl ?_ | with_reducible refine q_then ?_ | with_reducible refine awp_seq ?_ | with_reducible refine awp_block ?_ | ((with_reducible refine w_region ?_ ?_); kernel_rfl))
  refine awp_loop (ι := Nat) (fun k => k ≤ s.keys.length ∧ keyGo (L.take i) (prevL s.keys k) (s.keys.drop k) = keyGo (L.take i) none s.keys) (fun k => s.keys.length - k) (fun v k => [(0, .sl 3 (L.map Sf.av)), (1, .v (.int .i64 i)), (13, .sl 1 (s.keys.map iv)), (14, .v (.int .i64 (s.keys.map iv).length)), (15, .v (.int .i64 k))]) (fun v k => []) ?_ ?_
  · exact ⟨0, ⟨Nat.zero_le _, rfl⟩, trivial, ⟨rfl, rfl, rfl, rfl, rfl, trivial⟩, trivial⟩
  rintro v k ⟨hk, hf⟩
  repeat (first | ((with_reducible refine k_bin ?_); refine m_binI rfl rfl rfl ?_)  | refine e_nrm ?_ | refine x_none rfl ?_ | with_reducible refine q_then ?_ | with_reducible refine awp_seq ?_ | ((with_reducible refine w_region ?_ ?_); kernel_rfl))
  refine w_cond rfl (fun h => ?_) (fun h => ?_)
  rotate_left
  · have hge : ¬ k < s.keys.length := by simpa using h
    rw [List.drop_of_length_le (by omega)] at hf
    repeat (first | ((with_reducible refine k_assign ?_); refine m_assign rfl ?_)  | refine e_nrm ?_ | refine x_none rfl ?_ | with_reducible refine q_then ?_ | with_reducible refine q_then_exit ?_ | with_reducible refine awp_seq ?_ | with_reducible refine awp_exit ?_ | with_reducible refine awp_ret ?_ | ((with_reducible refine q_block_exit ?_ ?_); rfl) | ((with_reducible refine w_region ?_ ?_); kernel_rfl))
    refine ret_v (by first | exact .inr rfl | exact .inl rfl) rfl rfl ?_
    rw [← hf]; rfl
  have hltk : k < s.keys.length := by simpa using h
  obtain ⟨x, hx⟩ := some_at hltk
  have hy : (s.keys.map iv)[k]? = some (iv x) := by rw [List.getElem?_map, hx]; rfl
  rw [keyGo_at hx] at hf
  by_cases c1 : x < 0 ∨ 65536 < x
  · have hE : keyE (L.take i) (prevL s.keys k) x = 5 := by unfold keyE; rw [if_pos c1]
    rw [hE, if_pos (by decide)] at hf
    by_cases c0 : x < 0
    · have b0 : decide (x < 0) = true := by simpa using c0
      repeat (first | ((with_reducible refine k_move ?_); refine m_move rfl ?_) | ((with_reducible refine k_assign ?_); refine m_assign rfl ?_) | ((with_reducible refine k_load ?_); refine x_load_ep_one tbOk rfl rfl rfl ?_) | ((with_reducible refine k_pick ?_); refine m_pickt rfl (by first | rfl | assumption) rfl ?_) | ((with_reducible refine k_indexAddr ?_); refine x_indexAddr_n tbOk rfl rfl rfl rfl (by assumption) ?_) | ((with_reducible refine k_bin ?_); refine m_binI rfl rfl rfl ?_)  | refine e_nrm ?_ | refine x_none rfl ?_ | refine x_skip_f rfl rfl (by first | rfl | assumption) ?_ | with_reducible refine q_then ?_ | with_reducible refine q_then_ret ?_ | with_reducible refine q_block_ret ?_ | with_reducible refine awp_seq ?_ | with_reducible refine awp_block ?_ | with_reducible refine awp_skip ?_ | with_reducible refine awp_ret ?_ | ((with_reducible refine w_region ?_ ?_); kernel_rfl) | refine w_cond_t rfl (by first | rfl | assumption) ?_)
      refine ret_v (by first | exact .inr rfl | exact .inl rfl) rfl rfl ?_
      rw [← hf]
    · have b0 : decide (x < 0) = false := by simpa using c0
      have b1 : decide (x > 65536) = true := by simp; omega
      repeat (first | ((with_reducible refine k_move ?_); refine m_move rfl ?_) | ((with_reducible refine k_assign ?_); refine m_assign rfl ?_) | ((with_reducible refine k_load ?_); refine x_load_ep_one tbOk rfl rfl rfl ?_) | ((with_reducible refine k_pick ?_); refine m_pickf rfl (by first | rfl | assumption) rfl ?_) | ((with_reducible refine k_indexAddr ?_); refine x_indexAddr_n tbOk rfl rfl rfl rfl (by assumption) ?_) | ((with_reducible refine k_bin ?_); refine m_binI rfl rfl rfl ?_)  | refine e_nrm ?_ | refine x_none rfl ?_ | refine x_run_f rfl rfl (by first | rfl | assumption) ?_ | with_reducible refine q_then ?_ | with_reducible refine q_then_ret ?_ | with_reducible refine q_block_ret ?_ | with_reducible refine awp_seq ?_ | with_reducible refine awp_block ?_ | with_reducible refine awp_skip ?_ | with_reducible refine awp_ret ?_ | ((with_reducible refine w_region ?_ ?_); kernel_rfl) | refine w_cond_t rfl (by first | rfl | assumption) ?_)
      refine ret_v (by first | exact .inr rfl | exact .inl rfl) rfl rfl ?_
      rw [← hf]
  have b0 : decide (x < 0) = false := by simp; omega
  have b1 : decide (x > 65536) = false := by simp; omega
  repeat (first | ((with_reducible refine k_move ?_); refine m_move rfl ?_) | ((with_reducible refine k_assign ?_); refine m_assign rfl ?_) | ((with_reducible refine k_load ?_); refine x_load_ep_one tbOk rfl rfl rfl ?_) | ((with_reducible refine k_pick ?_); refine m_pickf rfl (by first | rfl | assumption) rfl ?_) | ((with_reducible refine k_indexAddr ?_); refine x_indexAddr_n tbOk rfl rfl rfl rfl (by assumption) ?_) | ((with_reducible refine k_bin ?_); refine m_binI rfl rfl rfl ?_)  | refine e_nrm ?_ | refine x_none rfl ?_ | refine x_run_f rfl rfl (by first | rfl | assumption) ?_ | with_reducible refine q_then ?_ | with_reducible refine awp_seq ?_ | with_reducible refine awp_block ?_ | with_reducible refine awp_skip ?_ | ((with_reducible refine w_region ?_ ?_); kernel_rfl) | refine w_cond_f rfl (by first | rfl | assumption) ?_)
  rcases Nat.eq_zero_or_pos k with k0 | k0
  rotate_left
  obtain ⟨q, hq⟩ := some_at (L := s.keys) (k := k - 1) (by omega)
  have hqy : (s.keys.map iv)[k - 1]? = some (iv q) := by rw [List.getElem?_map, hq]; rfl
  have ek : ((k : Nat) : Int) - 1 = ((k - 1 : Nat) : Int) := by omega
  have b2 : decide ((k : Int) > 0) = true := by simpa using k0
  have hpr : prevL s.keys k = some q := by unfold prevL; rw [if_neg (by omega)]; exact hq
  rw [hpr] at hf
  repeat (first | ((with_reducible refine k_move ?_); refine m_move rfl ?_) | ((with_reducible refine k_fieldAddr ?_); refine x_fieldAddr_ep tbOk rfl rfl rfl rfl ?_) | ((with_reducible refine k_load ?_); refine x_load_ep_one tbOk rfl rfl rfl ?_) | ((with_reducible refine k_indexAddr ?_); refine x_indexAddr_n tbOk rfl rfl rfl rfl (by assumption) ?_) | ((with_reducible refine k_bin ?_); refine x_sub_in rfl rfl (by omega) ?_)  | refine x_run_t rfl rfl (by first | rfl | assumption) ?_  )
  with_reducible refine k_indexAddr ?_
  refine x_indexAddr tbOk rfl rfl rfl rfl (by omega) (by rw [ek, Int.toNat_natCast]; exact hqy) ?_
  repeat (first | ((with_reducible refine k_move ?_); refine m_move rfl ?_) | ((with_reducible refine k_assign ?_); refine m_assign rfl ?_) | ((with_reducible refine k_load ?_); refine x_load_ep_one tbOk rfl rfl rfl ?_) | ((with_reducible refine k_pick ?_); refine m_pickt rfl (by first | rfl | assumption) rfl ?_) | ((with_reducible refine k_bin ?_); refine m_binI rfl rfl rfl ?_)  | refine e_nrm ?_ | refine x_none rfl ?_ | refine x_run_t rfl rfl (by first | rfl | assumption) ?_ | with_reducible refine q_then ?_ )
  refine w_cond rfl (fun c3 => ?_) (fun c3 => ?_)
  · have hE : keyE (L.take i) (some q) x = 14 := by unfold keyE; rw [if_neg c1, if_pos (by simpa [prevI] using c3)]
    rw [hE, if_pos (by decide)] at hf
    repeat (first | ((with_reducible refine k_assign ?_); refine m_assign rfl ?_)  | refine e_nrm ?_ | refine x_none rfl ?_ | with_reducible refine q_then ?_ | with_reducible refine q_then_ret ?_ | with_reducible refine q_block_ret ?_ | with_reducible refine awp_seq ?_ | with_reducible refine awp_ret ?_ | ((with_reducible refine w_region ?_ ?_); kernel_rfl))
    refine ret_v (by first | exact .inr rfl | exact .inl rfl) rfl rfl ?_
    rw [← hf]
  have hE : keyE (L.take i) (some q) x = if hasP (L.take i) x = true then 4 else 0 := by unfold keyE; rw [if_neg c1, if_neg (by simpa [prevI] using c3)]
  rw [hE] at hf
  rotate_left
  have b2 : decide ((k : Int) > 0) = false := by simp [k0]
  have hpr : prevL s.keys k = none := by unfold prevL; rw [if_pos k0]
  have hE : keyE (L.take i) (prevL s.keys k) x = if hasP (L.take i) x = true then 4 else 0 := by unfold keyE; rw [if_neg c1, if_neg (by rw [hpr]; simp [prevI])]
  rw [hE] at hf
  all_goals
    repeat (first | ((with_reducible refine k_move ?_); refine m_move rfl ?_) | ((with_reducible refine k_assign ?_); refine m_assign rfl ?_) | ((with_reducible refine k_pick ?_); refine m_pickf rfl (by first | rfl | assumption) rfl ?_) | ((with_reducible refine k_slice ?_); refine x_slice tbOk rfl rfl rfl rfl rfl (by refine ⟨?_, ?_, ?_⟩ <;> omega) ?_) | ((with_reducible refine k_call ?_); refine x_len tbOk rfl rfl ?_)  | refine e_nrm ?_ | refine x_none rfl ?_ | refine x_skip_t rfl rfl (by first | rfl | assumption) ?_ | with_reducible refine q_then ?_ | with_reducible refine q_block ?_ | with_reducible refine awp_seq ?_ | with_reducible refine awp_block ?_ | with_reducible refine awp_skip ?_ | ((with_reducible refine w_region ?_ ?_); kernel_rfl) | refine w_cond_f rfl (by first | rfl | assumption) ?_)
    refine awp_loop (ι := Nat) (fun j => j ≤ i ∧ hasP ((L.take i).drop j) x = hasP (L.take i) x) (fun j => i - j) (fun v j => [(0, .sl 3 (L.map Sf.av)), (1, .v (.int .i64 i)), (6, iv x), (13, .sl 1 (s.keys.map iv)), (14, .v (.int .i64 (s.keys.map iv).length)), (15, .v (.int .i64 k)), (45, .sl 3 ((L.map Sf.av).take i)), (46, .v (.int .i64 ((L.map Sf.av).take i).length)), (47, .v (.int .i64 j))]) (fun v j => []) ?_ ?_
    · exact ⟨0, ⟨Nat.zero_le _, rfl⟩, trivial, ⟨rfl, rfl, rfl, rfl, rfl, rfl, rfl, rfl, rfl, trivial⟩, trivial⟩
    clear v
    rintro v j ⟨hj, hg⟩
    have htl : ((L.map Sf.av).take i).length = i := by rw [List.length_take, List.length_map]; omega
    repeat (first | ((with_reducible refine k_bin ?_); refine m_binI rfl rfl rfl ?_)  | refine e_nrm ?_ | refine x_none rfl ?_ | with_reducible refine q_then ?_ | with_reducible refine awp_seq ?_ | ((with_reducible refine w_region ?_ ?_); kernel_rfl))
    refine w_cond rfl (fun h => ?_) (fun h => ?_)
    rotate_left
    · have hge : j = i := by simp at h; omega
      rw [List.drop_of_length_le (by rw [List.length_take]; omega)] at hg
      have h0 : hasP (L.take i) x = false := by rw [← hg]; rfl
      rw [show (if hasP (L.take i) x = true then (4 : Int) else 0) = 0 by rw [h0]; rfl, if_neg (by decide)] at hf
      repeat (first | ((with_reducible refine k_move ?_); refine m_move rfl ?_) | ((with_reducible refine k_bin ?_); refine x_add_in rfl rfl (by omega) ?_)  | refine e_nrm ?_ | refine x_none rfl ?_ | with_reducible refine q_then ?_ | with_reducible refine q_then_exit ?_ | with_reducible refine q_block ?_ | with_reducible refine awp_exit ?_ | ((with_reducible refine q_block_exit ?_ ?_); rfl) | ((with_reducible refine w_region ?_ ?_); kernel_rfl))
      exact ⟨k + 1, ⟨by omega, by rw [prevL_next hx]; exact hf⟩, by omega, ⟨rfl, rfl, rfl, rfl, rfl, trivial⟩, trivial⟩
    have hltj : j < i := by simp at h; omega
    obtain ⟨p, hp⟩ := some_at (L := L) (k := j) (by omega)
    have hpt : (L.take i)[j]? = some p := by rw [List.getElem?_take, if_pos hltj]; exact hp
    have hpy : ((L.map Sf.av).take i)[j]? = some p.av := by rw [List.getElem?_take, if_pos hltj]; exact sf_at hp
    obtain ⟨hp9, -, -⟩ := hm p (List.mem_of_getElem? hp)
    unfold hasP at hg
    rw [drop_at hpt, List.any_cons] at hg
    repeat (first | ((with_reducible refine k_move ?_); refine m_move rfl ?_) | ((with_reducible refine k_fieldAddr ?_); refine x_fieldAddr_ptr tbOk rfl rfl rfl rfl ?_) | ((with_reducible refine k_load ?_); refine x_load_one tbOk rfl rfl rfl rfl rfl ?_) | ((with_reducible refine k_load ?_); refine x_load_ep_agg tbOk rfl rfl (Nat.le_of_ble_eq_true rfl) ?_) | ((with_reducible refine k_store ?_); refine m_store tbOk rfl rfl rfl rfl rfl rfl rfl (Nat.le_of_ble_eq_true rfl) rfl ?_) | ((with_reducible refine k_alloc ?_); refine x_alloc tbOk rfl rfl ?_) | ((with_reducible refine k_indexAddr ?_); refine x_indexAddr_n tbOk rfl rfl rfl rfl (by assumption) ?_)  | refine e_nrm ?_ | refine x_none rfl ?_ | with_reducible refine q_then ?_ | with_reducible refine awp_seq ?_ | with_reducible refine awp_block ?_ | with_reducible refine awp_skip ?_ | ((with_reducible refine w_region ?_ ?_); kernel_rfl))
    refine x_call0 (conI_A p.keys x (by unfold maxLen; omega)) (by repeat' (first | exact trivial | exact Ren.v _ | exact Ren.sl _ _ | exact Ren.ep _ | exact Ren.ptr _ _ _ _ rfl | exact Ren.nil _ | exact Ren.own _ _ _ _ ⟨_, rfl⟩ | refine ren_ag ?_ | refine ren_tu ?_ | refine ren_fn ?_ | refine ⟨?_, ?_⟩)) (by repeat' (first | exact trivial | exact RenB.v _ | exact RenB.sl _ _ | exact RenB.ep _ | exact RenB.ptr _ _ _ _ rfl | refine renb_ag ?_ | refine renb_tu ?_ | refine ⟨?_, ?_⟩)) ?_
    repeat (first   | refine e_nrm ?_ | with_reducible refine q_then ?_ )
    refine w_cond rfl (fun h => ?_) (fun h => ?_)
    · rw [h, Bool.true_or] at hg
      rw [show (if hasP (L.take i) x = true then (4 : Int) else 0) = 4 by rw [if_pos (show hasP (L.take i) x = true from hg.symm)], if_pos (by decide)] at hf
      repeat (first | ((with_reducible refine k_assign ?_); refine m_assign rfl ?_)  | refine e_nrm ?_ | refine x_none rfl ?_ | with_reducible refine q_then ?_ | with_reducible refine q_then_ret ?_ | with_reducible refine q_block_ret ?_ | with_reducible refine awp_seq ?_ | with_reducible refine awp_ret ?_ | ((with_reducible refine w_region ?_ ?_); kernel_rfl))
      refine ret_v (by first | exact .inr rfl | exact .inl rfl) rfl rfl ?_
      rw [← hf]
    · rw [h, Bool.false_or] at hg
      repeat (first | ((with_reducible refine k_move ?_); refine m_move rfl ?_) | ((with_reducible refine k_bin ?_); refine x_add_in rfl rfl (by omega) ?_)  | refine e_nrm ?_ | refine x_none rfl ?_ | with_reducible refine q_then ?_ | with_reducible refine q_block ?_ | with_reducible refine awp_skip ?_ | ((with_reducible refine w_region ?_ ?_); kernel_rfl))
      exact ⟨j + 1, ⟨by omega, hg⟩, by omega, ⟨rfl, rfl, rfl, rfl, rfl, rfl, rfl, rfl, rfl, trivial⟩, trivial⟩
set_option maxHeartbeats 2000000 in
theorem people_A (N : List ByteArray) (hG : GCls G) (hm : N.length ≤ 900) (hs : ∀ n ∈ N, n.size ≤ maxLen) : ACalls Tryd.prog G 38 [.sl 1 (N.map sv)] [] (.v (.int .i64 (peopleE N))) [] := by
  have hml : (N.map sv).length = N.length := by simp
  refine acalls_of tbOk (enter_of Tryd.func38 (by kernel_rfl) rfl) Tryd.func38 rfl _ Tryd.ntmps38 (Nat.le_of_ble_eq_true rfl) fun X hX => ?_
  subst hX
  unfold peopleE
  repeat (first | ((with_reducible refine k_move ?_); refine m_move rfl ?_) | ((with_reducible refine k_assign ?_); refine m_assign rfl ?_) | ((with_reducible refine k_call ?_); refine x_len tbOk rfl rfl ?_) | ((with_reducible refine k_bin ?_); refine m_binI rfl rfl rfl ?_)  | refine e_nrm ?_ | refine x_none rfl ?_ | with_reducible refine q_then ?_ | with_reducible refine awp_seq ?_ | ((with_reducible refine w_region ?_ ?_); kernel_rfl))
  refine w_cond rfl (fun h => ?_) (fun h => ?_)
  · rw [if_pos (by simp at h; omega)]
    repeat (first | ((with_reducible refine k_assign ?_); refine m_assign rfl ?_)  | refine e_nrm ?_ | refine x_none rfl ?_ | with_reducible refine q_then ?_ | with_reducible refine q_then_ret ?_ | with_reducible refine awp_seq ?_ | with_reducible refine awp_ret ?_ | ((with_reducible refine w_region ?_ ?_); kernel_rfl))
    refine ret_v (by first | exact .inr rfl | exact .inl rfl) rfl rfl ?_
    rfl
  rw [if_neg (by simp at h; omega)]
  repeat (first | ((with_reducible refine k_move ?_); refine m_move rfl ?_) | ((with_reducible refine k_call ?_); refine x_len tbOk rfl rfl ?_)  | refine e_nrm ?_ | refine x_none rfl ?_ | with_reducible refine q_then ?_ | with_reducible refine awp_seq ?_ | with_reducible refine awp_block ?_ | with_reducible refine awp_skip ?_ | ((with_reducible refine w_region ?_ ?_); kernel_rfl))
  refine awp_loop (ι := Nat) (fun k => k ≤ N.length ∧ nameGo (prevL N k) (N.drop k) = nameGo none N) (fun k => N.length - k) (fun v k => [(0, .sl 1 (N.map sv)), (8, .sl 1 (N.map sv)), (9, .v (.int .i64 (N.map sv).length)), (10, .v (.int .i64 k))]) (fun v k => []) ?_ ?_
  · exact ⟨0, ⟨Nat.zero_le _, rfl⟩, trivial, ⟨rfl, rfl, rfl, rfl, trivial⟩, trivial⟩
  rintro v k ⟨hk, hf⟩
  repeat (first | ((with_reducible refine k_bin ?_); refine m_binI rfl rfl rfl ?_)  | refine e_nrm ?_ | refine x_none rfl ?_ | with_reducible refine q_then ?_ | with_reducible refine awp_seq ?_ | ((with_reducible refine w_region ?_ ?_); kernel_rfl))
  refine w_cond rfl (fun h => ?_) (fun h => ?_)
  rotate_left
  · have hge : ¬ k < N.length := by simpa using h
    rw [List.drop_of_length_le (by omega)] at hf
    repeat (first | ((with_reducible refine k_assign ?_); refine m_assign rfl ?_)  | refine e_nrm ?_ | refine x_none rfl ?_ | with_reducible refine q_then ?_ | with_reducible refine q_then_exit ?_ | with_reducible refine awp_seq ?_ | with_reducible refine awp_exit ?_ | with_reducible refine awp_ret ?_ | ((with_reducible refine q_block_exit ?_ ?_); rfl) | ((with_reducible refine w_region ?_ ?_); kernel_rfl))
    refine ret_v (by first | exact .inr rfl | exact .inl rfl) rfl rfl ?_
    rw [← hf]; rfl
  have hlt : k < N.length := by simpa using h
  obtain ⟨x, hx⟩ := some_at hlt
  have hy : (N.map sv)[k]? = some (sv x) := by rw [List.getElem?_map, hx]; rfl
  rw [nameGo_at hx] at hf
  repeat (first | ((with_reducible refine k_move ?_); refine m_move rfl ?_) | ((with_reducible refine k_assign ?_); refine m_assign rfl ?_) | ((with_reducible refine k_load ?_); refine x_load_ep_one tbOk rfl rfl rfl ?_) | ((with_reducible refine k_indexAddr ?_); refine x_indexAddr_n tbOk rfl rfl rfl rfl (by assumption) ?_)  | refine e_nrm ?_ | refine x_none rfl ?_ | with_reducible refine q_then ?_ | with_reducible refine awp_seq ?_ | with_reducible refine awp_block ?_ | with_reducible refine awp_skip ?_ | ((with_reducible refine w_region ?_ ?_); kernel_rfl))
  refine x_call0 (name_A x hG (hs x (List.mem_of_getElem? hx))) (by repeat' (first | exact trivial | exact Ren.v _ | exact Ren.sl _ _ | exact Ren.ep _ | exact Ren.ptr _ _ _ _ rfl | exact Ren.nil _ | exact Ren.own _ _ _ _ ⟨_, rfl⟩ | refine ren_ag ?_ | refine ren_tu ?_ | refine ren_fn ?_ | refine ⟨?_, ?_⟩)) (by repeat' (first | exact trivial | exact RenB.v _ | exact RenB.sl _ _ | exact RenB.ep _ | exact RenB.ptr _ _ _ _ rfl | refine renb_ag ?_ | refine renb_tu ?_ | refine ⟨?_, ?_⟩)) ?_
  repeat (first | ((with_reducible refine k_assign ?_); refine m_assign rfl ?_) | ((with_reducible refine k_un ?_); refine x_not rfl ?_)  | refine e_nrm ?_ | refine x_none rfl ?_ | with_reducible refine q_then ?_ )
  refine w_cond rfl (fun c1 => ?_) (fun c1 => ?_)
  · have hE : nameE (prevL N k) x = 3 := by unfold nameE; rw [if_pos (by simpa using c1)]
    rw [hE, if_pos (by decide)] at hf
    repeat (first | ((with_reducible refine k_assign ?_); refine m_assign rfl ?_)  | refine e_nrm ?_ | refine x_none rfl ?_ | with_reducible refine q_then ?_ | with_reducible refine q_then_ret ?_ | with_reducible refine q_block_ret ?_ | with_reducible refine awp_seq ?_ | with_reducible refine awp_ret ?_ | ((with_reducible refine w_region ?_ ?_); kernel_rfl))
    refine ret_v (by first | exact .inr rfl | exact .inl rfl) rfl rfl ?_
    rw [← hf]
  have c1' : ¬ nameB x.data.toList = false := by simpa using c1
  repeat (first | ((with_reducible refine k_move ?_); refine m_move rfl ?_) | ((with_reducible refine k_bin ?_); refine m_binI rfl rfl rfl ?_)  | refine x_none rfl ?_ | with_reducible refine awp_seq ?_ | ((with_reducible refine w_region ?_ ?_); kernel_rfl))
  rcases Nat.eq_zero_or_pos k with k0 | k0
  rotate_left
  obtain ⟨q, hq⟩ := some_at (L := N) (k := k - 1) (by omega)
  have hqy : (N.map sv)[k - 1]? = some (sv q) := by rw [List.getElem?_map, hq]; rfl
  have ek : ((k : Nat) : Int) - 1 = ((k - 1 : Nat) : Int) := by omega
  have b2 : decide ((k : Int) > 0) = true := by simpa using k0
  have hpr : prevL N k = some q := by unfold prevL; rw [if_neg (by omega)]; exact hq
  rw [hpr] at hf
  repeat (first | ((with_reducible refine k_move ?_); refine m_move rfl ?_) | ((with_reducible refine k_bin ?_); refine x_sub_in rfl rfl (by omega) ?_)  | refine x_run_t rfl rfl (by first | rfl | assumption) ?_  )
  with_reducible refine k_indexAddr ?_
  refine x_indexAddr tbOk rfl rfl rfl rfl (by omega) (by rw [ek, Int.toNat_natCast]; exact hqy) ?_
  repeat (first | ((with_reducible refine k_move ?_); refine m_move rfl ?_) | ((with_reducible refine k_assign ?_); refine m_assign rfl ?_) | ((with_reducible refine k_load ?_); refine x_load_ep_one tbOk rfl rfl rfl ?_) | ((with_reducible refine k_pick ?_); refine m_pickt rfl (by first | rfl | assumption) rfl ?_) | ((with_reducible refine k_bin ?_); refine m_binS rfl rfl rfl ?_)  | refine e_nrm ?_ | refine x_none rfl ?_ | refine x_run_t rfl rfl (by first | rfl | assumption) ?_ | with_reducible refine q_then ?_ )
  refine w_cond rfl (fun c3 => ?_) (fun c3 => ?_)
  · have hE : nameE (some q) x = 14 := by unfold nameE; rw [if_neg c1', if_pos (by simpa [prevS] using c3)]
    rw [hE, if_pos (by decide)] at hf
    repeat (first | ((with_reducible refine k_assign ?_); refine m_assign rfl ?_)  | refine e_nrm ?_ | refine x_none rfl ?_ | with_reducible refine q_then ?_ | with_reducible refine q_then_ret ?_ | with_reducible refine q_block_ret ?_ | with_reducible refine awp_seq ?_ | with_reducible refine awp_ret ?_ | ((with_reducible refine w_region ?_ ?_); kernel_rfl))
    refine ret_v (by first | exact .inr rfl | exact .inl rfl) rfl rfl ?_
    rw [← hf]
  have hE : nameE (some q) x = 0 := by unfold nameE; rw [if_neg c1', if_neg (by simpa [prevS] using c3)]
  rw [hE, if_neg (by decide)] at hf
  rotate_left
  have b2 : decide ((k : Int) > 0) = false := by simp [k0]
  have hpr : prevL N k = none := by unfold prevL; rw [if_pos k0]
  have hE : nameE (prevL N k) x = 0 := by unfold nameE; rw [if_neg c1', if_neg (by rw [hpr]; simp [prevS])]
  rw [hE, if_neg (by decide)] at hf
  all_goals
    repeat (first | ((with_reducible refine k_move ?_); refine m_move rfl ?_) | ((with_reducible refine k_assign ?_); refine m_assign rfl ?_) | ((with_reducible refine k_pick ?_); refine m_pickf rfl (by first | rfl | assumption) rfl ?_) | ((with_reducible refine k_bin ?_); refine x_add_in rfl rfl (by omega) ?_)  | refine e_nrm ?_ | refine x_none rfl ?_ | refine x_skip_t rfl rfl (by first | rfl | assumption) ?_ | with_reducible refine q_then ?_ | with_reducible refine q_block ?_ | with_reducible refine awp_skip ?_ | ((with_reducible refine w_region ?_ ?_); kernel_rfl) | refine w_cond_f rfl (by first | rfl | assumption) ?_)
    exact ⟨k + 1, ⟨by omega, by rw [prevL_next hx]; exact hf⟩, by omega, ⟨rfl, rfl, rfl, rfl, trivial⟩, trivial⟩
set_option maxHeartbeats 2000000 in
theorem scheck_A (L : List Sf) (hG : GCls G) (hm : ∀ x ∈ L, SfMax x) (hl : L.length ≤ maxLen) : ACalls Tryd.prog G 12 [.sl 3 (L.map Sf.av)] [] (.v (.int .i64 (chkS L))) [] := by
  have hml : (L.map Sf.av).length = L.length := by simp
  refine acalls_of tbOk (enter_of Tryd.func12 (by kernel_rfl) rfl) Tryd.func12 rfl _ Tryd.ntmps12 (Nat.le_of_ble_eq_true rfl) fun X hX => ?_
  subst hX
  unfold chkS
  repeat (first | ((with_reducible refine k_move ?_); refine m_move rfl ?_) | ((with_reducible refine k_assign ?_); refine m_assign rfl ?_) | ((with_reducible refine k_call ?_); refine x_len tbOk rfl rfl ?_) | ((with_reducible refine k_bin ?_); refine m_binI rfl rfl rfl ?_)  | refine e_nrm ?_ | refine x_none rfl ?_ | with_reducible refine q_then ?_ | with_reducible refine awp_seq ?_ | ((with_reducible refine w_region ?_ ?_); kernel_rfl))
  refine w_cond rfl (fun h => ?_) (fun h => ?_)
  · rw [if_pos (by simp at h; omega)]
    repeat (first | ((with_reducible refine k_assign ?_); refine m_assign rfl ?_)  | refine e_nrm ?_ | refine x_none rfl ?_ | with_reducible refine q_then ?_ | with_reducible refine q_then_ret ?_ | with_reducible refine awp_seq ?_ | with_reducible refine awp_ret ?_ | ((with_reducible refine w_region ?_ ?_); kernel_rfl))
    refine ret_v (by first | exact .inr rfl | exact .inl rfl) rfl rfl ?_
    rfl
  have h16 : L.length ≤ 16 := by simp at h; omega
  rw [if_neg (by omega)]
  repeat (first | ((with_reducible refine k_move ?_); refine m_move rfl ?_) | ((with_reducible refine k_call ?_); refine x_len tbOk rfl rfl ?_)  | refine e_nrm ?_ | refine x_none rfl ?_ | with_reducible refine q_then ?_ | with_reducible refine awp_seq ?_ | with_reducible refine awp_block ?_ | with_reducible refine awp_skip ?_ | ((with_reducible refine w_region ?_ ?_); kernel_rfl))
  refine awp_loop (ι := Nat) (fun k => k ≤ L.length ∧ sfGo (L.take k) (prevL L k) (L.drop k) = sfGo [] none L) (fun k => L.length - k) (fun v k => [(0, .sl 3 (L.map Sf.av)), (10, .sl 3 (L.map Sf.av)), (11, .v (.int .i64 (L.map Sf.av).length)), (12, .v (.int .i64 k))]) (fun v k => []) ?_ ?_
  · exact ⟨0, ⟨Nat.zero_le _, rfl⟩, trivial, ⟨rfl, rfl, rfl, rfl, trivial⟩, trivial⟩
  rintro v k ⟨hk, hf⟩
  repeat (first | ((with_reducible refine k_bin ?_); refine m_binI rfl rfl rfl ?_)  | refine e_nrm ?_ | refine x_none rfl ?_ | with_reducible refine q_then ?_ | with_reducible refine awp_seq ?_ | ((with_reducible refine w_region ?_ ?_); kernel_rfl))
  refine w_cond rfl (fun h => ?_) (fun h => ?_)
  rotate_left
  · have hge : ¬ k < L.length := by simpa using h
    rw [List.drop_of_length_le (by omega)] at hf
    repeat (first | ((with_reducible refine k_assign ?_); refine m_assign rfl ?_)  | refine e_nrm ?_ | refine x_none rfl ?_ | with_reducible refine q_then ?_ | with_reducible refine q_then_exit ?_ | with_reducible refine awp_seq ?_ | with_reducible refine awp_exit ?_ | with_reducible refine awp_ret ?_ | ((with_reducible refine q_block_exit ?_ ?_); rfl) | ((with_reducible refine w_region ?_ ?_); kernel_rfl))
    refine ret_v (by first | exact .inr rfl | exact .inl rfl) rfl rfl ?_
    rw [← hf]; rfl
  have hlt : k < L.length := by simpa using h
  obtain ⟨x, hx⟩ := some_at hlt
  have hy := sf_at hx
  have hmx := hm x (List.mem_of_getElem? hx)
  have hK := keys_A (G := X.G) L k x hx hm h16
  have hP := people_A (G := X.G) x.locked hG hmx.2.1 hmx.2.2
  rw [sfGo_at hx] at hf
  by_cases c1 : x.num < 1 ∨ 16 < x.num
  · have hE : sfE (L.take k) (prevL L k) x = 5 := by unfold sfE; rw [if_pos c1]
    rw [hE, if_pos (by decide)] at hf
    by_cases c0 : x.num < 1
    · have b0 : decide (x.num < 1) = true := by simpa using c0
      repeat (first | ((with_reducible refine k_move ?_); refine m_move rfl ?_) | ((with_reducible refine k_assign ?_); refine m_assign rfl ?_) | ((with_reducible refine k_fieldAddr ?_); refine x_fieldAddr_ptr tbOk rfl rfl rfl rfl ?_) | ((with_reducible refine k_load ?_); refine x_load_one tbOk rfl rfl rfl rfl rfl ?_) | ((with_reducible refine k_load ?_); refine x_load_ep_agg tbOk rfl rfl (Nat.le_of_ble_eq_true rfl) ?_) | ((with_reducible refine k_store ?_); refine m_store tbOk rfl rfl rfl rfl rfl rfl rfl (Nat.le_of_ble_eq_true rfl) rfl ?_) | ((with_reducible refine k_alloc ?_); refine x_alloc tbOk rfl rfl ?_) | ((with_reducible refine k_pick ?_); refine m_pickt rfl (by first | rfl | assumption) rfl ?_) | ((with_reducible refine k_indexAddr ?_); refine x_indexAddr_n tbOk rfl rfl rfl rfl (by assumption) ?_) | ((with_reducible refine k_bin ?_); refine m_binI rfl rfl rfl ?_)  | refine e_nrm ?_ | refine x_none rfl ?_ | refine x_skip_f rfl rfl (by first | rfl | assumption) ?_ | with_reducible refine q_then ?_ | with_reducible refine q_then_ret ?_ | with_reducible refine q_block_ret ?_ | with_reducible refine awp_seq ?_ | with_reducible refine awp_block ?_ | with_reducible refine awp_skip ?_ | with_reducible refine awp_ret ?_ | ((with_reducible refine w_region ?_ ?_); kernel_rfl) | refine w_cond_t rfl (by first | rfl | assumption) ?_)
      refine ret_v (by first | exact .inr rfl | exact .inl rfl) rfl rfl ?_
      rw [← hf]
    · have b0 : decide (x.num < 1) = false := by simpa using c0
      have b1 : decide (x.num > 16) = true := by simp; omega
      repeat (first | ((with_reducible refine k_move ?_); refine m_move rfl ?_) | ((with_reducible refine k_assign ?_); refine m_assign rfl ?_) | ((with_reducible refine k_fieldAddr ?_); refine x_fieldAddr_ptr tbOk rfl rfl rfl rfl ?_) | ((with_reducible refine k_load ?_); refine x_load_one tbOk rfl rfl rfl rfl rfl ?_) | ((with_reducible refine k_load ?_); refine x_load_ep_agg tbOk rfl rfl (Nat.le_of_ble_eq_true rfl) ?_) | ((with_reducible refine k_store ?_); refine m_store tbOk rfl rfl rfl rfl rfl rfl rfl (Nat.le_of_ble_eq_true rfl) rfl ?_) | ((with_reducible refine k_alloc ?_); refine x_alloc tbOk rfl rfl ?_) | ((with_reducible refine k_pick ?_); refine m_pickf rfl (by first | rfl | assumption) rfl ?_) | ((with_reducible refine k_indexAddr ?_); refine x_indexAddr_n tbOk rfl rfl rfl rfl (by assumption) ?_) | ((with_reducible refine k_bin ?_); refine m_binI rfl rfl rfl ?_)  | refine e_nrm ?_ | refine x_none rfl ?_ | refine x_run_f rfl rfl (by first | rfl | assumption) ?_ | with_reducible refine q_then ?_ | with_reducible refine q_then_ret ?_ | with_reducible refine q_block_ret ?_ | with_reducible refine awp_seq ?_ | with_reducible refine awp_block ?_ | with_reducible refine awp_skip ?_ | with_reducible refine awp_ret ?_ | ((with_reducible refine w_region ?_ ?_); kernel_rfl) | refine w_cond_t rfl (by first | rfl | assumption) ?_)
      refine ret_v (by first | exact .inr rfl | exact .inl rfl) rfl rfl ?_
      rw [← hf]
  have b0 : decide (x.num < 1) = false := by simp; omega
  have b1 : decide (x.num > 16) = false := by simp; omega
  repeat (first | ((with_reducible refine k_move ?_); refine m_move rfl ?_) | ((with_reducible refine k_assign ?_); refine m_assign rfl ?_) | ((with_reducible refine k_fieldAddr ?_); refine x_fieldAddr_ptr tbOk rfl rfl rfl rfl ?_) | ((with_reducible refine k_load ?_); refine x_load_one tbOk rfl rfl rfl rfl rfl ?_) | ((with_reducible refine k_load ?_); refine x_load_ep_agg tbOk rfl rfl (Nat.le_of_ble_eq_true rfl) ?_) | ((with_reducible refine k_store ?_); refine m_store tbOk rfl rfl rfl rfl rfl rfl rfl (Nat.le_of_ble_eq_true rfl) rfl ?_) | ((with_reducible refine k_alloc ?_); refine x_alloc tbOk rfl rfl ?_) | ((with_reducible refine k_pick ?_); refine m_pickf rfl (by first | rfl | assumption) rfl ?_) | ((with_reducible refine k_indexAddr ?_); refine x_indexAddr_n tbOk rfl rfl rfl rfl (by assumption) ?_) | ((with_reducible refine k_bin ?_); refine m_binI rfl rfl rfl ?_)  | refine e_nrm ?_ | refine x_none rfl ?_ | refine x_run_f rfl rfl (by first | rfl | assumption) ?_ | with_reducible refine q_then ?_ | with_reducible refine awp_seq ?_ | with_reducible refine awp_block ?_ | with_reducible refine awp_skip ?_ | ((with_reducible refine w_region ?_ ?_); kernel_rfl) | ((with_reducible refine w_draw mixd ?_ ?_); kernel_rfl) | refine w_cond_f rfl (by first | rfl | assumption) ?_)
  rcases Nat.eq_zero_or_pos k with k0 | k0
  rotate_left
  obtain ⟨q, hq⟩ := some_at (L := L) (k := k - 1) (by omega)
  have hqy := sf_at hq
  have ek : ((k : Nat) : Int) - 1 = ((k - 1 : Nat) : Int) := by omega
  have b2 : decide ((k : Int) > 0) = true := by simpa using k0
  have hpr : prevL L k = some q := by unfold prevL; rw [if_neg (by omega)]; exact hq
  rw [hpr] at hf
  repeat (first | ((with_reducible refine k_move ?_); refine m_move rfl ?_) | ((with_reducible refine k_bin ?_); refine x_sub_in rfl rfl (by omega) ?_)  | refine x_run_t rfl rfl (by first | rfl | assumption) ?_  )
  with_reducible refine k_indexAddr ?_
  refine x_indexAddr tbOk rfl rfl rfl rfl (by omega) (by rw [ek, Int.toNat_natCast]; exact hqy) ?_
  repeat (first | ((with_reducible refine k_assign ?_); refine m_assign rfl ?_) | ((with_reducible refine k_fieldAddr ?_); refine x_fieldAddr_ptr tbOk rfl rfl rfl rfl ?_) | ((with_reducible refine k_fieldAddr ?_); refine x_fieldAddr_ep tbOk rfl rfl rfl rfl ?_) | ((with_reducible refine k_load ?_); refine x_load_one tbOk rfl rfl rfl rfl rfl ?_) | ((with_reducible refine k_load ?_); refine x_load_ep_one tbOk rfl rfl rfl ?_) | ((with_reducible refine k_pick ?_); refine m_pickt rfl (by first | rfl | assumption) rfl ?_) | ((with_reducible refine k_bin ?_); refine m_binI rfl rfl rfl ?_)  | refine e_drw (by kernel_rfl) ?_ | refine x_none rfl ?_ | refine x_run_t rfl rfl (by first | rfl | assumption) ?_ | with_reducible refine q_then ?_ )
  refine w_cond rfl (fun c3 => ?_) (fun c3 => ?_)
  · have hE : sfE (L.take k) (some q) x = 14 := by unfold sfE; rw [if_neg c1, if_pos (by simpa [prevN] using c3)]
    rw [hE, if_pos (by decide)] at hf
    repeat (first | ((with_reducible refine k_assign ?_); refine m_assign rfl ?_)  | refine e_nrm ?_ | refine x_none rfl ?_ | with_reducible refine q_then ?_ | with_reducible refine q_then_ret ?_ | with_reducible refine q_block_ret ?_ | with_reducible refine awp_seq ?_ | with_reducible refine awp_ret ?_ | ((with_reducible refine w_region ?_ ?_); kernel_rfl))
    refine ret_v (by first | exact .inr rfl | exact .inl rfl) rfl rfl ?_
    rw [← hf]
  have hE : sfE (L.take k) (some q) x = if keyGo (L.take k) none x.keys ≠ 0 then keyGo (L.take k) none x.keys else peopleE x.locked := by unfold sfE; rw [if_neg c1, if_neg (by simpa [prevN] using c3)]
  rotate_left
  have b2 : decide ((k : Int) > 0) = false := by simp [k0]
  have hpr : prevL L k = none := by unfold prevL; rw [if_pos k0]
  have hE : sfE (L.take k) (prevL L k) x = if keyGo (L.take k) none x.keys ≠ 0 then keyGo (L.take k) none x.keys else peopleE x.locked := by unfold sfE; rw [if_neg c1, if_neg (by rw [hpr]; simp [prevN])]
  all_goals
    rw [hE] at hf
    repeat (first | ((with_reducible refine k_move ?_); refine m_move rfl ?_) | ((with_reducible refine k_assign ?_); refine m_assign rfl ?_) | ((with_reducible refine k_pick ?_); refine m_pickf rfl (by first | rfl | assumption) rfl ?_)  | refine e_drw (by kernel_rfl) ?_ | refine x_none rfl ?_ | refine x_skip_t rfl rfl (by first | rfl | assumption) ?_ | with_reducible refine q_then ?_ | with_reducible refine q_block ?_ | with_reducible refine awp_seq ?_ | with_reducible refine awp_skip ?_ | ((with_reducible refine w_region ?_ ?_); kernel_rfl) | refine w_cond_f rfl (by first | rfl | assumption) ?_)
    refine x_call0 (hK) (by repeat' (first | exact trivial | exact Ren.v _ | exact Ren.sl _ _ | exact Ren.ep _ | exact Ren.ptr _ _ _ _ rfl | exact Ren.nil _ | exact Ren.own _ _ _ _ ⟨_, rfl⟩ | refine ren_ag ?_ | refine ren_tu ?_ | refine ren_fn ?_ | refine ⟨?_, ?_⟩)) (by repeat' (first | exact trivial | exact RenB.v _ | exact RenB.sl _ _ | exact RenB.ep _ | exact RenB.ptr _ _ _ _ rfl | refine renb_ag ?_ | refine renb_tu ?_ | refine ⟨?_, ?_⟩)) ?_
    repeat (first | ((with_reducible refine k_move ?_); refine m_move rfl ?_) | ((with_reducible refine k_assign ?_); refine m_assign rfl ?_) | ((with_reducible refine k_bin ?_); refine m_binI rfl rfl rfl ?_)  | refine e_nrm ?_ | refine x_none rfl ?_ | with_reducible refine q_then ?_ | with_reducible refine awp_seq ?_ | ((with_reducible refine w_region ?_ ?_); kernel_rfl))
    refine w_cond rfl (fun h => ?_) (fun h => ?_)
    · have h0 : keyGo (L.take k) none x.keys ≠ 0 := by simpa using h
      have hE2 : (if keyGo (L.take k) none x.keys ≠ 0 then keyGo (L.take k) none x.keys else peopleE x.locked) = keyGo (L.take k) none x.keys := if_pos h0
      rw [hE2, if_pos h0] at hf
      repeat (first | ((with_reducible refine k_move ?_); refine m_move rfl ?_) | ((with_reducible refine k_assign ?_); refine m_assign rfl ?_)  | refine e_nrm ?_ | refine x_none rfl ?_ | with_reducible refine q_then ?_ | with_reducible refine q_then_ret ?_ | with_reducible refine q_block_ret ?_ | with_reducible refine awp_seq ?_ | with_reducible refine awp_ret ?_ | ((with_reducible refine w_region ?_ ?_); kernel_rfl))
      refine ret_v (by first | exact .inr rfl | exact .inl rfl) rfl rfl ?_
      rw [hf]
    have h0 : keyGo (L.take k) none x.keys = 0 := by simpa using h
    have hE2 : (if keyGo (L.take k) none x.keys ≠ 0 then keyGo (L.take k) none x.keys else peopleE x.locked) = peopleE x.locked := if_neg (by simp [h0])
    rw [hE2] at hf
    repeat (first | ((with_reducible refine k_fieldAddr ?_); refine x_fieldAddr_ptr tbOk rfl rfl rfl rfl ?_) | ((with_reducible refine k_load ?_); refine x_load_one tbOk rfl rfl rfl rfl rfl ?_)  | refine x_none rfl ?_ | with_reducible refine q_then ?_ | with_reducible refine awp_seq ?_ | with_reducible refine awp_skip ?_ | ((with_reducible refine w_region ?_ ?_); kernel_rfl))
    refine x_call0 (hP) (by repeat' (first | exact trivial | exact Ren.v _ | exact Ren.sl _ _ | exact Ren.ep _ | exact Ren.ptr _ _ _ _ rfl | exact Ren.nil _ | exact Ren.own _ _ _ _ ⟨_, rfl⟩ | refine ren_ag ?_ | refine ren_tu ?_ | refine ren_fn ?_ | refine ⟨?_, ?_⟩)) (by repeat' (first | exact trivial | exact RenB.v _ | exact RenB.sl _ _ | exact RenB.ep _ | exact RenB.ptr _ _ _ _ rfl | refine renb_ag ?_ | refine renb_tu ?_ | refine ⟨?_, ?_⟩)) ?_
    repeat (first | ((with_reducible refine k_move ?_); refine m_move rfl ?_) | ((with_reducible refine k_assign ?_); refine m_assign rfl ?_) | ((with_reducible refine k_bin ?_); refine m_binI rfl rfl rfl ?_)  | refine e_nrm ?_ | refine x_none rfl ?_ | with_reducible refine q_then ?_ | with_reducible refine awp_seq ?_ | ((with_reducible refine w_region ?_ ?_); kernel_rfl))
    refine w_cond rfl (fun h => ?_) (fun h => ?_)
    · rw [if_pos (by simpa using h)] at hf
      repeat (first | ((with_reducible refine k_move ?_); refine m_move rfl ?_) | ((with_reducible refine k_assign ?_); refine m_assign rfl ?_)  | refine e_nrm ?_ | refine x_none rfl ?_ | with_reducible refine q_then ?_ | with_reducible refine q_then_ret ?_ | with_reducible refine q_block_ret ?_ | with_reducible refine awp_seq ?_ | with_reducible refine awp_ret ?_ | ((with_reducible refine w_region ?_ ?_); kernel_rfl))
      refine ret_v (by first | exact .inr rfl | exact .inl rfl) rfl rfl ?_
      rw [hf]
    · rw [if_neg (by simpa using h)] at hf
      repeat (first | ((with_reducible refine k_move ?_); refine m_move rfl ?_) | ((with_reducible refine k_bin ?_); refine x_add_in rfl rfl (by omega) ?_)  | refine e_nrm ?_ | refine x_none rfl ?_ | with_reducible refine q_then ?_ | with_reducible refine q_block ?_ | with_reducible refine awp_skip ?_ | ((with_reducible refine w_region ?_ ?_); kernel_rfl))
      exact ⟨k + 1, ⟨by omega, by rw [prevL_next hx]; exact hf⟩, by omega, ⟨rfl, rfl, rfl, rfl, trivial⟩, trivial⟩
theorem fcl_A (s : Sf) (n : Int) : ACalls Tryd.prog G 54 [s.av, .ptr (refB + 0) 0 0] [[.v (.int .i64 n)]] (.v (.bool (decide (s.num = n)))) [[.v (.int .i64 n)]] := by
  refine acalls_of tbOk (enter_of Tryd.func54 (by kernel_rfl) rfl) Tryd.func54 rfl _ Tryd.ntmps54 (Nat.le_of_ble_eq_true rfl) fun X hX => ?_
  subst hX
  repeat (first | ((with_reducible refine k_assign ?_); refine m_assign rfl ?_) | ((with_reducible refine k_fieldAddr ?_); refine x_fieldAddr_ptr tbOk rfl rfl rfl rfl ?_) | ((with_reducible refine k_load ?_); refine x_load_one tbOk rfl rfl rfl rfl rfl ?_) | ((with_reducible refine k_box ?_); refine m_box rfl rfl rfl ?_) | ((with_reducible refine k_bin ?_); refine m_binI rfl rfl rfl ?_)  | refine e_nrm ?_ | refine x_none rfl ?_ | with_reducible refine q_then ?_ | with_reducible refine awp_seq ?_ | with_reducible refine awp_ret ?_ | ((with_reducible refine w_region ?_ ?_); kernel_rfl))
  refine ret1_v (by first | exact .inr rfl | exact .inl rfl) rfl rfl rfl (by first | rfl | assumption) ?_ ?_ (by repeat' (first | exact trivial | exact Ren.v _ | exact Ren.sl _ _ | exact Ren.ep _ | exact Ren.ptr _ _ _ _ rfl | exact Ren.nil _ | exact Ren.own _ _ _ _ ⟨_, rfl⟩ | refine ren_ag ?_ | refine ren_tu ?_ | refine ren_fn ?_ | refine ⟨?_, ?_⟩)) <;> rfl
theorem icl_A (s : Sf) (n : Int) (hm : SfMax s) : ACalls Tryd.prog G 40 [s.av, .ptr (refB + 0) 0 0] [[.v (.int .i64 n)]] (.v (.bool (hasI s.keys n))) [[.v (.int .i64 n)]] := by
  have hml : s.keys.length ≤ maxLen := by have := hm.1; unfold maxLen; omega
  refine acalls_of tbOk (enter_of Tryd.func40 (by kernel_rfl) rfl) Tryd.func40 rfl _ Tryd.ntmps40 (Nat.le_of_ble_eq_true rfl) fun X hX => ?_
  subst hX
  repeat (first | ((with_reducible refine k_assign ?_); refine m_assign rfl ?_) | ((with_reducible refine k_fieldAddr ?_); refine x_fieldAddr_ptr tbOk rfl rfl rfl rfl ?_) | ((with_reducible refine k_load ?_); refine x_load_one tbOk rfl rfl rfl rfl rfl ?_) | ((with_reducible refine k_box ?_); refine m_box rfl rfl rfl ?_)  | refine e_nrm ?_ | refine x_none rfl ?_ | with_reducible refine q_then ?_ | with_reducible refine awp_seq ?_ | ((with_reducible refine w_region ?_ ?_); kernel_rfl))
  refine x_call0 (conI_A s.keys n hml) (by repeat' (first | exact trivial | exact Ren.v _ | exact Ren.sl _ _ | exact Ren.ep _ | exact Ren.ptr _ _ _ _ rfl | exact Ren.nil _ | exact Ren.own _ _ _ _ ⟨_, rfl⟩ | refine ren_ag ?_ | refine ren_tu ?_ | refine ren_fn ?_ | refine ⟨?_, ?_⟩)) (by repeat' (first | exact trivial | exact RenB.v _ | exact RenB.sl _ _ | exact RenB.ep _ | exact RenB.ptr _ _ _ _ rfl | refine renb_ag ?_ | refine renb_tu ?_ | refine ⟨?_, ?_⟩)) ?_
  repeat (first | ((with_reducible refine k_assign ?_); refine m_assign rfl ?_)  | refine e_nrm ?_ | refine x_none rfl ?_ | with_reducible refine q_then ?_ | with_reducible refine awp_ret ?_ )
  refine ret1_v (by first | exact .inr rfl | exact .inl rfl) rfl rfl rfl (by first | rfl | assumption) ?_ ?_ (by repeat' (first | exact trivial | exact Ren.v _ | exact Ren.sl _ _ | exact Ren.ep _ | exact Ren.ptr _ _ _ _ rfl | exact Ren.nil _ | exact Ren.own _ _ _ _ ⟨_, rfl⟩ | refine ren_ag ?_ | refine ren_tu ?_ | refine ren_fn ?_ | refine ⟨?_, ?_⟩)) <;> rfl
theorem lcl_A (s : Sf) (n : Int) (m : ByteArray) (hm : SfMax s) : ACalls Tryd.prog G 52 [s.av, .ptr (refB + 0) 0 0, .ptr (refB + 1) 0 0] [[.v (.int .i64 n)], [.v (.string m)]] (.v (.bool (decide (s.num = n) && hasS s.locked m))) [[.v (.int .i64 n)], [.v (.string m)]] := by
  have hml : s.locked.length ≤ maxLen := by have := hm.2.1; unfold maxLen; omega
  refine acalls_of tbOk (enter_of Tryd.func52 (by kernel_rfl) rfl) Tryd.func52 rfl _ Tryd.ntmps52 (Nat.le_of_ble_eq_true rfl) fun X hX => ?_
  subst hX
  repeat (first | ((with_reducible refine k_move ?_); refine m_move rfl ?_) | ((with_reducible refine k_assign ?_); refine m_assign rfl ?_) | ((with_reducible refine k_fieldAddr ?_); refine x_fieldAddr_ptr tbOk rfl rfl rfl rfl ?_) | ((with_reducible refine k_load ?_); refine x_load_one tbOk rfl rfl rfl rfl rfl ?_) | ((with_reducible refine k_box ?_); refine m_box rfl rfl rfl ?_) | ((with_reducible refine k_bin ?_); refine m_binI rfl rfl rfl ?_)  | refine e_nrm ?_ | refine x_none rfl ?_ | with_reducible refine q_then ?_ | with_reducible refine awp_seq ?_ | ((with_reducible refine w_region ?_ ?_); kernel_rfl))
  refine x_split rfl rfl (fun c => ?_) (fun c => ?_)
  · have e : s.num = n := by simpa using c
    repeat (first | ((with_reducible refine k_fieldAddr ?_); refine x_fieldAddr_ptr tbOk rfl rfl rfl rfl ?_) | ((with_reducible refine k_load ?_); refine x_load_one tbOk rfl rfl rfl rfl rfl ?_)  | refine x_run_t rfl rfl (by first | rfl | assumption) ?_  )
    refine x_call0 (conS_A s.locked m hml) (by repeat' (first | exact trivial | exact Ren.v _ | exact Ren.sl _ _ | exact Ren.ep _ | exact Ren.ptr _ _ _ _ rfl | exact Ren.nil _ | exact Ren.own _ _ _ _ ⟨_, rfl⟩ | refine ren_ag ?_ | refine ren_tu ?_ | refine ren_fn ?_ | refine ⟨?_, ?_⟩)) (by repeat' (first | exact trivial | exact RenB.v _ | exact RenB.sl _ _ | exact RenB.ep _ | exact RenB.ptr _ _ _ _ rfl | refine renb_ag ?_ | refine renb_tu ?_ | refine ⟨?_, ?_⟩)) ?_
    repeat (first | ((with_reducible refine k_assign ?_); refine m_assign rfl ?_) | ((with_reducible refine k_pick ?_); refine m_pickt rfl (by first | rfl | assumption) rfl ?_)  | refine e_nrm ?_ | refine x_none rfl ?_ | with_reducible refine q_then ?_ | with_reducible refine awp_ret ?_ )
    refine ret2_v (by first | exact .inr rfl | exact .inl rfl) rfl rfl rfl (by first | rfl | assumption) rfl (by first | rfl | assumption) ?_ (by repeat' (first | exact trivial | exact Ren.v _ | exact Ren.sl _ _ | exact Ren.ep _ | exact Ren.ptr _ _ _ _ rfl | exact Ren.nil _ | exact Ren.own _ _ _ _ ⟨_, rfl⟩ | refine ren_ag ?_ | refine ren_tu ?_ | refine ren_fn ?_ | refine ⟨?_, ?_⟩)) (by repeat' (first | exact trivial | exact Ren.v _ | exact Ren.sl _ _ | exact Ren.ep _ | exact Ren.ptr _ _ _ _ rfl | exact Ren.nil _ | exact Ren.own _ _ _ _ ⟨_, rfl⟩ | refine ren_ag ?_ | refine ren_tu ?_ | refine ren_fn ?_ | refine ⟨?_, ?_⟩))
    rw [decide_eq_true e, Bool.true_and]
  · have e : ¬ s.num = n := by simpa using c
    repeat (first | ((with_reducible refine k_assign ?_); refine m_assign rfl ?_) | ((with_reducible refine k_pick ?_); refine m_pickf rfl (by first | rfl | assumption) rfl ?_)  | refine e_nrm ?_ | refine x_none rfl ?_ | refine x_skip_t rfl rfl (by first | rfl | assumption) ?_ | with_reducible refine q_then ?_ | with_reducible refine awp_ret ?_ )
    refine ret2_v (by first | exact .inr rfl | exact .inl rfl) rfl rfl rfl (by first | rfl | assumption) rfl (by first | rfl | assumption) ?_ (by repeat' (first | exact trivial | exact Ren.v _ | exact Ren.sl _ _ | exact Ren.ep _ | exact Ren.ptr _ _ _ _ rfl | exact Ren.nil _ | exact Ren.own _ _ _ _ ⟨_, rfl⟩ | refine ren_ag ?_ | refine ren_tu ?_ | refine ren_fn ?_ | refine ⟨?_, ?_⟩)) (by repeat' (first | exact trivial | exact Ren.v _ | exact Ren.sl _ _ | exact Ren.ep _ | exact Ren.ptr _ _ _ _ rfl | exact Ren.nil _ | exact Ren.own _ _ _ _ ⟨_, rfl⟩ | refine ren_ag ?_ | refine ren_tu ?_ | refine ren_fn ?_ | refine ⟨?_, ?_⟩))
    rw [decide_eq_false e, Bool.false_and]
set_option maxRecDepth 100000 in
set_option maxHeartbeats 1000000 in
theorem ifn1_A (L : List Sf) (f : FuncId) (c : List AV) (p : Sf → Bool) (hf : ∀ x ∈ L, ACalls Tryd.prog G f [x.av, .ptr (refB + 0) 0 0] [c] (.v (.bool (p x))) [c]) (hc : pureL c = true) (hm : L.length ≤ 9223372036854775807) :
    ACalls Tryd.prog G 61 [.sl 3 (L.map Sf.av), .fn f [.ptr (refB + 0) 0 0]] [c] (.v (.int .i64 (idxG p L 0))) [c] := by
  refine acalls_of tbOk (enter_of Tryd.func61 (by kernel_rfl) rfl) Tryd.func61 rfl _ Tryd.ntmps61 (Nat.le_of_ble_eq_true rfl) fun X hX => ?_
  subst hX
  repeat (first | ((with_reducible refine k_move ?_); refine m_move rfl ?_) | ((with_reducible refine k_assign ?_); refine m_assign rfl ?_) | ((with_reducible refine k_call ?_); refine x_len tbOk rfl rfl ?_)  | refine e_nrm ?_ | refine x_none rfl ?_ | with_reducible refine q_then ?_ | with_reducible refine awp_seq ?_ | with_reducible refine awp_block ?_ | ((with_reducible refine w_region ?_ ?_); kernel_rfl))
  refine awp_loopv (ι := Nat) (fun v k => v (refB + 0) = 0 ∧ k ≤ L.length ∧ idxG p (L.drop k) k = idxG p L 0) (fun k => L.length - k) (fun v k => [(0, .sl 3 (L.map Sf.av)), (1, .fn f [.ptr (refB + 0) (v (refB + 0)) 0]), (7, .v (.int .i64 (L.map Sf.av).length)), (8, .v (.int .i64 k))]) (fun v k => [(refB + 0, .box c)]) ?_ ?_
  · exact ⟨0, ⟨rfl, Nat.zero_le _, rfl⟩, trivial, ⟨rfl, rfl, rfl, rfl, trivial⟩, ⟨rfl, trivial⟩⟩
  · rintro v k ⟨hv0, hk, hi⟩
    repeat (first | ((with_reducible refine k_bin ?_); refine m_binI rfl rfl rfl ?_)  | refine e_nrm ?_ | refine x_none rfl ?_ | with_reducible refine q_then ?_ | with_reducible refine awp_seq ?_ | ((with_reducible refine w_region ?_ ?_); kernel_rfl))
    refine w_cond rfl (fun h => ?_) (fun h => ?_)
    · have hlt : k < L.length := by simpa using h
      obtain ⟨x, hx⟩ := some_at hlt
      have hy := sf_at hx
      rw [idxG_at hx] at hi
      repeat (first | ((with_reducible refine k_move ?_); refine m_move rfl ?_) | ((with_reducible refine k_assign ?_); refine m_assign rfl ?_) | ((with_reducible refine k_load ?_); refine x_load_ep_agg tbOk rfl rfl (Nat.le_of_ble_eq_true rfl) ?_) | ((with_reducible refine k_indexAddr ?_); refine x_indexAddr_n tbOk rfl rfl rfl rfl (by assumption) ?_)  | refine e_nrm ?_ | refine x_none rfl ?_ | with_reducible refine q_then ?_ | with_reducible refine awp_seq ?_ | with_reducible refine awp_block ?_ | with_reducible refine awp_skip ?_ | ((with_reducible refine w_region ?_ ?_); kernel_rfl))
      with_reducible refine k_call ?_
      refine x_callV (ss := [(refB + 0, v (refB + 0))]) (hf x (List.mem_of_getElem? hx)) rfl (by repeat' (first | exact trivial | exact Ren.v _ | exact Ren.sl _ _ | exact Ren.ep _ | exact Ren.ptr _ _ _ _ rfl | exact Ren.nil _ | exact Ren.own _ _ _ _ ⟨_, rfl⟩ | refine ren_ag ?_ | refine ren_tu ?_ | refine ren_fn ?_ | refine ⟨?_, ?_⟩)) (by simp) (in1 rfl hc) rfl (back1 hc) (by repeat' (first | exact trivial | exact RenB.v _ | exact RenB.sl _ _ | exact RenB.ep _ | exact RenB.ptr _ _ _ _ rfl | refine renb_ag ?_ | refine renb_tu ?_ | refine ⟨?_, ?_⟩)) ?_
      repeat (first   | refine e_nrm ?_ | with_reducible refine q_then ?_ )
      refine w_cond rfl (fun hq => ?_) (fun hq => ?_)
      · repeat (first | ((with_reducible refine k_move ?_); refine m_move rfl ?_) | ((with_reducible refine k_assign ?_); refine m_assign rfl ?_)  | refine e_nrm ?_ | refine x_none rfl ?_ | with_reducible refine q_then ?_ | with_reducible refine q_then_ret ?_ | with_reducible refine q_block_ret ?_ | with_reducible refine awp_seq ?_ | with_reducible refine awp_ret ?_ | ((with_reducible refine w_region ?_ ?_); kernel_rfl))
        refine ret1_v (by first | exact .inr rfl | exact .inl rfl) rfl rfl rfl (by first | rfl | assumption) ?_ ?_ (renl_self hc)
        · rw [if_pos hq] at hi
          rw [← hi]
        · rfl
      · repeat (first | ((with_reducible refine k_move ?_); refine m_move rfl ?_) | ((with_reducible refine k_bin ?_); refine x_add_in rfl rfl (by omega) ?_)  | refine e_nrm ?_ | refine x_none rfl ?_ | with_reducible refine q_then ?_ | with_reducible refine q_block ?_ | with_reducible refine awp_skip ?_ | ((with_reducible refine w_region ?_ ?_); kernel_rfl))
        rw [if_neg (by simp [hq])] at hi
        exact ⟨k + 1, ⟨hv0, by omega, hi⟩, by omega, ⟨rfl, rfl, rfl, rfl, trivial⟩, ⟨rfl, trivial⟩⟩
    · have hlt : ¬ k < L.length := by simpa using h
      repeat (first | ((with_reducible refine k_assign ?_); refine m_assign rfl ?_)  | refine e_nrm ?_ | refine x_none rfl ?_ | with_reducible refine q_then ?_ | with_reducible refine q_then_exit ?_ | with_reducible refine awp_seq ?_ | with_reducible refine awp_exit ?_ | with_reducible refine awp_ret ?_ | ((with_reducible refine q_block_exit ?_ ?_); rfl) | ((with_reducible refine w_region ?_ ?_); kernel_rfl))
      refine ret1_v (by first | exact .inr rfl | exact .inl rfl) rfl rfl rfl (by first | rfl | assumption) ?_ ?_ (renl_self hc)
      · rw [List.drop_of_length_le (by omega)] at hi
        rw [← hi]; rfl
      · rfl
set_option maxRecDepth 100000 in
set_option maxHeartbeats 1000000 in
theorem ifn2_A (L : List Sf) (f : FuncId) (c c2 : List AV) (p : Sf → Bool) (hf : ∀ x ∈ L, ACalls Tryd.prog G f [x.av, .ptr (refB + 0) 0 0, .ptr (refB + 1) 0 0] [c, c2] (.v (.bool (p x))) [c, c2]) (hc : pureL c = true) (hc2 : pureL c2 = true) (hm : L.length ≤ 9223372036854775807) :
    ACalls Tryd.prog G 61 [.sl 3 (L.map Sf.av), .fn f [.ptr (refB + 0) 0 0, .ptr (refB + 1) 0 0]] [c, c2] (.v (.int .i64 (idxG p L 0))) [c, c2] := by
  refine acalls_of tbOk (enter_of Tryd.func61 (by kernel_rfl) rfl) Tryd.func61 rfl _ Tryd.ntmps61 (Nat.le_of_ble_eq_true rfl) fun X hX => ?_
  subst hX
  repeat (first | ((with_reducible refine k_move ?_); refine m_move rfl ?_) | ((with_reducible refine k_assign ?_); refine m_assign rfl ?_) | ((with_reducible refine k_call ?_); refine x_len tbOk rfl rfl ?_)  | refine e_nrm ?_ | refine x_none rfl ?_ | with_reducible refine q_then ?_ | with_reducible refine awp_seq ?_ | with_reducible refine awp_block ?_ | ((with_reducible refine w_region ?_ ?_); kernel_rfl))
  refine awp_loopv (ι := Nat) (fun v k => v (refB + 0) = 0 ∧ v (refB + 1) = 0 ∧ k ≤ L.length ∧ idxG p (L.drop k) k = idxG p L 0) (fun k => L.length - k) (fun v k => [(0, .sl 3 (L.map Sf.av)), (1, .fn f [.ptr (refB + 0) (v (refB + 0)) 0, .ptr (refB + 1) (v (refB + 1)) 0]), (7, .v (.int .i64 (L.map Sf.av).length)), (8, .v (.int .i64 k))]) (fun v k => [(refB + 0, .box c), (refB + 1, .box c2)]) ?_ ?_
  · exact ⟨0, ⟨rfl, rfl, Nat.zero_le _, rfl⟩, trivial, ⟨rfl, rfl, rfl, rfl, trivial⟩, ⟨rfl, rfl, trivial⟩⟩
  · rintro v k ⟨hv0, hv1, hk, hi⟩
    repeat (first | ((with_reducible refine k_bin ?_); refine m_binI rfl rfl rfl ?_)  | refine e_nrm ?_ | refine x_none rfl ?_ | with_reducible refine q_then ?_ | with_reducible refine awp_seq ?_ | ((with_reducible refine w_region ?_ ?_); kernel_rfl))
    refine w_cond rfl (fun h => ?_) (fun h => ?_)
    · have hlt : k < L.length := by simpa using h
      obtain ⟨x, hx⟩ := some_at hlt
      have hy := sf_at hx
      rw [idxG_at hx] at hi
      repeat (first | ((with_reducible refine k_move ?_); refine m_move rfl ?_) | ((with_reducible refine k_assign ?_); refine m_assign rfl ?_) | ((with_reducible refine k_load ?_); refine x_load_ep_agg tbOk rfl rfl (Nat.le_of_ble_eq_true rfl) ?_) | ((with_reducible refine k_indexAddr ?_); refine x_indexAddr_n tbOk rfl rfl rfl rfl (by assumption) ?_)  | refine e_nrm ?_ | refine x_none rfl ?_ | with_reducible refine q_then ?_ | with_reducible refine awp_seq ?_ | with_reducible refine awp_block ?_ | with_reducible refine awp_skip ?_ | ((with_reducible refine w_region ?_ ?_); kernel_rfl))
      with_reducible refine k_call ?_
      refine x_callV (ss := [(refB + 0, v (refB + 0)), (refB + 1, v (refB + 1))]) (hf x (List.mem_of_getElem? hx)) rfl (by repeat' (first | exact trivial | exact Ren.v _ | exact Ren.sl _ _ | exact Ren.ep _ | exact Ren.ptr _ _ _ _ rfl | exact Ren.nil _ | exact Ren.own _ _ _ _ ⟨_, rfl⟩ | refine ren_ag ?_ | refine ren_tu ?_ | refine ren_fn ?_ | refine ⟨?_, ?_⟩)) (by simp) (in2 rfl hc rfl hc2) rfl (back2 hc hc2) (by repeat' (first | exact trivial | exact RenB.v _ | exact RenB.sl _ _ | exact RenB.ep _ | exact RenB.ptr _ _ _ _ rfl | refine renb_ag ?_ | refine renb_tu ?_ | refine ⟨?_, ?_⟩)) ?_
      repeat (first   | refine e_nrm ?_ | with_reducible refine q_then ?_ )
      refine w_cond rfl (fun hq => ?_) (fun hq => ?_)
      · repeat (first | ((with_reducible refine k_move ?_); refine m_move rfl ?_) | ((with_reducible refine k_assign ?_); refine m_assign rfl ?_)  | refine e_nrm ?_ | refine x_none rfl ?_ | with_reducible refine q_then ?_ | with_reducible refine q_then_ret ?_ | with_reducible refine q_block_ret ?_ | with_reducible refine awp_seq ?_ | with_reducible refine awp_ret ?_ | ((with_reducible refine w_region ?_ ?_); kernel_rfl))
        refine ret2_v (by first | exact .inr rfl | exact .inl rfl) rfl rfl rfl (by first | rfl | assumption) rfl (by first | rfl | assumption) ?_ (renl_self hc) (renl_self hc2)
        rw [if_pos hq] at hi
        rw [← hi]
      · repeat (first | ((with_reducible refine k_move ?_); refine m_move rfl ?_) | ((with_reducible refine k_bin ?_); refine x_add_in rfl rfl (by omega) ?_)  | refine e_nrm ?_ | refine x_none rfl ?_ | with_reducible refine q_then ?_ | with_reducible refine q_block ?_ | with_reducible refine awp_skip ?_ | ((with_reducible refine w_region ?_ ?_); kernel_rfl))
        rw [if_neg (by simp [hq])] at hi
        exact ⟨k + 1, ⟨hv0, hv1, by omega, hi⟩, by omega, ⟨rfl, rfl, rfl, rfl, trivial⟩, ⟨rfl, rfl, trivial⟩⟩
    · have hlt : ¬ k < L.length := by simpa using h
      repeat (first | ((with_reducible refine k_assign ?_); refine m_assign rfl ?_)  | refine e_nrm ?_ | refine x_none rfl ?_ | with_reducible refine q_then ?_ | with_reducible refine q_then_exit ?_ | with_reducible refine awp_seq ?_ | with_reducible refine awp_exit ?_ | with_reducible refine awp_ret ?_ | ((with_reducible refine q_block_exit ?_ ?_); rfl) | ((with_reducible refine w_region ?_ ?_); kernel_rfl))
      refine ret2_v (by first | exact .inr rfl | exact .inl rfl) rfl rfl rfl (by first | rfl | assumption) rfl (by first | rfl | assumption) ?_ (renl_self hc) (renl_self hc2)
      rw [List.drop_of_length_le (by omega)] at hi
      rw [← hi]; rfl
theorem with1_A (L : List Sf) (f : FuncId) (c : List AV) (p : Sf → Bool) (hf : ∀ x ∈ L, ACalls Tryd.prog G f [x.av, .ptr (refB + 0) 0 0] [c] (.v (.bool (p x))) [c]) (hc : pureL c = true) (hG : GCls G) (hm : ∀ x ∈ L, SfMax x) (hl : L.length ≤ maxLen) :
    ACalls Tryd.prog G 39 [.sl 3 (L.map Sf.av), .fn f [.ptr (refB + 0) 0 0]] [c] (.v (.int .i64 (if chkS L ≠ 0 then -1 else idxG p L 0))) [c] := by
  refine acalls_of tbOk (enter_of Tryd.func39 (by kernel_rfl) rfl) Tryd.func39 rfl _ Tryd.ntmps39 (Nat.le_of_ble_eq_true rfl) fun X hX => ?_
  subst hX
  repeat (first | ((with_reducible refine k_move ?_); refine m_move rfl ?_) | ((with_reducible refine k_assign ?_); refine m_assign rfl ?_)  | refine e_nrm ?_ | refine x_none rfl ?_ | with_reducible refine q_then ?_ | with_reducible refine awp_seq ?_ | ((with_reducible refine w_region ?_ ?_); kernel_rfl))
  refine x_call0 (scheck_A L hG hm hl) (by repeat' (first | exact trivial | exact Ren.v _ | exact Ren.sl _ _ | exact Ren.ep _ | exact Ren.ptr _ _ _ _ rfl | exact Ren.nil _ | exact Ren.own _ _ _ _ ⟨_, rfl⟩ | refine ren_ag ?_ | refine ren_tu ?_ | refine ren_fn ?_ | refine ⟨?_, ?_⟩)) (by repeat' (first | exact trivial | exact RenB.v _ | exact RenB.sl _ _ | exact RenB.ep _ | exact RenB.ptr _ _ _ _ rfl | refine renb_ag ?_ | refine renb_tu ?_ | refine ⟨?_, ?_⟩)) ?_
  repeat (first | ((with_reducible refine k_bin ?_); refine m_binI rfl rfl rfl ?_)  | refine e_nrm ?_ | refine x_none rfl ?_ | with_reducible refine q_then ?_ )
  refine w_cond rfl (fun h => ?_) (fun h => ?_)
  · rw [if_pos (by simpa using h)]
    repeat (first | ((with_reducible refine k_assign ?_); refine m_assign rfl ?_)  | refine e_nrm ?_ | refine x_none rfl ?_ | with_reducible refine q_then ?_ | with_reducible refine q_then_ret ?_ | with_reducible refine awp_seq ?_ | with_reducible refine awp_ret ?_ | ((with_reducible refine w_region ?_ ?_); kernel_rfl))
    refine ret1_v (by first | exact .inr rfl | exact .inl rfl) rfl rfl rfl (by first | rfl | assumption) ?_ ?_ (renl_self hc) <;> rfl
  · rw [if_neg (by simpa using h)]
    repeat (first | ((with_reducible refine k_move ?_); refine m_move rfl ?_)  | refine x_none rfl ?_ | with_reducible refine q_then ?_ | with_reducible refine awp_seq ?_ | with_reducible refine awp_skip ?_ | ((with_reducible refine w_region ?_ ?_); kernel_rfl))
    refine x_call (ss := [(refB + 0, 0)]) (ifn1_A L f c p hf hc (by unfold maxLen at hl; omega)) (by repeat' (first | exact trivial | exact Ren.v _ | exact Ren.sl _ _ | exact Ren.ep _ | exact Ren.ptr _ _ _ _ rfl | exact Ren.nil _ | exact Ren.own _ _ _ _ ⟨_, rfl⟩ | refine ren_ag ?_ | refine ren_tu ?_ | refine ren_fn ?_ | refine ⟨?_, ?_⟩)) (by simp) (in1 rfl hc) rfl (back1 hc) (by repeat' (first | exact trivial | exact RenB.v _ | exact RenB.sl _ _ | exact RenB.ep _ | exact RenB.ptr _ _ _ _ rfl | refine renb_ag ?_ | refine renb_tu ?_ | refine ⟨?_, ?_⟩)) ?_
    repeat (first | ((with_reducible refine k_assign ?_); refine m_assign rfl ?_)  | refine e_nrm ?_ | refine x_none rfl ?_ | with_reducible refine q_then ?_ | with_reducible refine awp_ret ?_ )
    refine ret1_v (by first | exact .inr rfl | exact .inl rfl) rfl rfl rfl (by first | rfl | assumption) ?_ ?_ (renl_self hc) <;> rfl
theorem with2_A (L : List Sf) (f : FuncId) (c c2 : List AV) (p : Sf → Bool) (hf : ∀ x ∈ L, ACalls Tryd.prog G f [x.av, .ptr (refB + 0) 0 0, .ptr (refB + 1) 0 0] [c, c2] (.v (.bool (p x))) [c, c2]) (hc : pureL c = true) (hc2 : pureL c2 = true) (hG : GCls G) (hm : ∀ x ∈ L, SfMax x) (hl : L.length ≤ maxLen) :
    ACalls Tryd.prog G 39 [.sl 3 (L.map Sf.av), .fn f [.ptr (refB + 0) 0 0, .ptr (refB + 1) 0 0]] [c, c2] (.v (.int .i64 (if chkS L ≠ 0 then -1 else idxG p L 0))) [c, c2] := by
  refine acalls_of tbOk (enter_of Tryd.func39 (by kernel_rfl) rfl) Tryd.func39 rfl _ Tryd.ntmps39 (Nat.le_of_ble_eq_true rfl) fun X hX => ?_
  subst hX
  repeat (first | ((with_reducible refine k_move ?_); refine m_move rfl ?_) | ((with_reducible refine k_assign ?_); refine m_assign rfl ?_)  | refine e_nrm ?_ | refine x_none rfl ?_ | with_reducible refine q_then ?_ | with_reducible refine awp_seq ?_ | ((with_reducible refine w_region ?_ ?_); kernel_rfl))
  refine x_call0 (scheck_A L hG hm hl) (by repeat' (first | exact trivial | exact Ren.v _ | exact Ren.sl _ _ | exact Ren.ep _ | exact Ren.ptr _ _ _ _ rfl | exact Ren.nil _ | exact Ren.own _ _ _ _ ⟨_, rfl⟩ | refine ren_ag ?_ | refine ren_tu ?_ | refine ren_fn ?_ | refine ⟨?_, ?_⟩)) (by repeat' (first | exact trivial | exact RenB.v _ | exact RenB.sl _ _ | exact RenB.ep _ | exact RenB.ptr _ _ _ _ rfl | refine renb_ag ?_ | refine renb_tu ?_ | refine ⟨?_, ?_⟩)) ?_
  repeat (first | ((with_reducible refine k_bin ?_); refine m_binI rfl rfl rfl ?_)  | refine e_nrm ?_ | refine x_none rfl ?_ | with_reducible refine q_then ?_ )
  refine w_cond rfl (fun h => ?_) (fun h => ?_)
  · rw [if_pos (by simpa using h)]
    repeat (first | ((with_reducible refine k_assign ?_); refine m_assign rfl ?_)  | refine e_nrm ?_ | refine x_none rfl ?_ | with_reducible refine q_then ?_ | with_reducible refine q_then_ret ?_ | with_reducible refine awp_seq ?_ | with_reducible refine awp_ret ?_ | ((with_reducible refine w_region ?_ ?_); kernel_rfl))
    refine ret2_v (by first | exact .inr rfl | exact .inl rfl) rfl rfl rfl (by first | rfl | assumption) rfl (by first | rfl | assumption) ?_ (renl_self hc) (renl_self hc2)
    rfl
  · rw [if_neg (by simpa using h)]
    repeat (first | ((with_reducible refine k_move ?_); refine m_move rfl ?_)  | refine x_none rfl ?_ | with_reducible refine q_then ?_ | with_reducible refine awp_seq ?_ | with_reducible refine awp_skip ?_ | ((with_reducible refine w_region ?_ ?_); kernel_rfl))
    refine x_call (ss := [(refB + 0, 0), (refB + 1, 0)]) (ifn2_A L f c c2 p hf hc hc2 (by unfold maxLen at hl; omega)) (by repeat' (first | exact trivial | exact Ren.v _ | exact Ren.sl _ _ | exact Ren.ep _ | exact Ren.ptr _ _ _ _ rfl | exact Ren.nil _ | exact Ren.own _ _ _ _ ⟨_, rfl⟩ | refine ren_ag ?_ | refine ren_tu ?_ | refine ren_fn ?_ | refine ⟨?_, ?_⟩)) (by simp) (in2 rfl hc rfl hc2) rfl (back2 hc hc2) (by repeat' (first | exact trivial | exact RenB.v _ | exact RenB.sl _ _ | exact RenB.ep _ | exact RenB.ptr _ _ _ _ rfl | refine renb_ag ?_ | refine renb_tu ?_ | refine ⟨?_, ?_⟩)) ?_
    repeat (first | ((with_reducible refine k_assign ?_); refine m_assign rfl ?_)  | refine e_nrm ?_ | refine x_none rfl ?_ | with_reducible refine q_then ?_ | with_reducible refine awp_ret ?_ )
    refine ret2_v (by first | exact .inr rfl | exact .inl rfl) rfl rfl rfl (by first | rfl | assumption) rfl (by first | rfl | assumption) ?_ (renl_self hc) (renl_self hc2)
    rfl
theorem find_A (L : List Sf) (n : Int) (hG : GCls G) (hm : ∀ x ∈ L, SfMax x) (hl : L.length ≤ maxLen) : ACalls Tryd.prog G 28 [.sl 3 (L.map Sf.av), .v (.int .i64 n)] [] (.v (.int .i64 (findS L n))) [] := by
  refine acalls_of tbOk (enter_of Tryd.func28 (by kernel_rfl) rfl) Tryd.func28 rfl _ Tryd.ntmps28 (Nat.le_of_ble_eq_true rfl) fun X hX => ?_
  subst hX
  repeat (first | ((with_reducible refine k_move ?_); refine m_move rfl ?_) | ((with_reducible refine k_assign ?_); refine m_assign rfl ?_) | ((with_reducible refine k_box ?_); refine m_box rfl rfl rfl ?_) | ((with_reducible refine k_makeFunc ?_); refine m_fn1 rfl ?_)  | refine e_nrm ?_ | refine x_none rfl ?_ | with_reducible refine q_then ?_ | with_reducible refine awp_seq ?_ | ((with_reducible refine w_region ?_ ?_); kernel_rfl))
  refine x_call (ss := [(3, 1)]) (with1_A L _ _ _ (fun x _ => fcl_A x n) rfl hG hm hl) (by repeat' (first | exact trivial | exact Ren.v _ | exact Ren.sl _ _ | exact Ren.ep _ | exact Ren.ptr _ _ _ _ rfl | exact Ren.nil _ | exact Ren.own _ _ _ _ ⟨_, rfl⟩ | refine ren_ag ?_ | refine ren_tu ?_ | refine ren_fn ?_ | refine ⟨?_, ?_⟩)) (by simp) (in1 rfl rfl) rfl (back1 rfl) (by repeat' (first | exact trivial | exact RenB.v _ | exact RenB.sl _ _ | exact RenB.ep _ | exact RenB.ptr _ _ _ _ rfl | refine renb_ag ?_ | refine renb_tu ?_ | refine ⟨?_, ?_⟩)) ?_
  repeat (first | ((with_reducible refine k_assign ?_); refine m_assign rfl ?_)  | refine e_nrm ?_ | refine x_none rfl ?_ | with_reducible refine q_then ?_ | with_reducible refine awp_ret ?_ )
  refine ret_v (by first | exact .inr rfl | exact .inl rfl) rfl rfl ?_
  rfl
theorem in_A (L : List Sf) (n : Int) (hG : GCls G) (hm : ∀ x ∈ L, SfMax x) (hl : L.length ≤ maxLen) : ACalls Tryd.prog G 13 [.sl 3 (L.map Sf.av), .v (.int .i64 n)] [] (.v (.int .i64 (inS L n))) [] := by
  have hml : (L.map Sf.av).length = L.length := by simp
  have hI : ¬ inIdx L n < 0 → ∃ j x, inIdx L n = ((j : Nat) : Int) ∧ L[j]? = some x := fun h => by
    unfold inIdx at h ⊢
    split at h
    · omega
    · rename_i hc
      obtain ⟨j, x, a, b, -⟩ := idxG_some (show 0 ≤ idxG (fun s => hasI s.keys n) L 0 by omega)
      rw [if_neg hc]
      exact ⟨j, x, by rw [a]; congr 1; omega, b⟩
  refine acalls_of tbOk (enter_of Tryd.func13 (by kernel_rfl) rfl) Tryd.func13 rfl _ Tryd.ntmps13 (Nat.le_of_ble_eq_true rfl) fun X hX => ?_
  subst hX
  repeat (first | ((with_reducible refine k_move ?_); refine m_move rfl ?_) | ((with_reducible refine k_assign ?_); refine m_assign rfl ?_) | ((with_reducible refine k_box ?_); refine m_box rfl rfl rfl ?_) | ((with_reducible refine k_makeFunc ?_); refine m_fn1 rfl ?_)  | refine e_nrm ?_ | refine x_none rfl ?_ | with_reducible refine q_then ?_ | with_reducible refine awp_seq ?_ | ((with_reducible refine w_region ?_ ?_); kernel_rfl))
  refine x_call (ss := [(3, 1)]) (with1_A L _ _ _ (fun x hx => icl_A x n (hm x hx)) rfl hG hm hl) (by repeat' (first | exact trivial | exact Ren.v _ | exact Ren.sl _ _ | exact Ren.ep _ | exact Ren.ptr _ _ _ _ rfl | exact Ren.nil _ | exact Ren.own _ _ _ _ ⟨_, rfl⟩ | refine ren_ag ?_ | refine ren_tu ?_ | refine ren_fn ?_ | refine ⟨?_, ?_⟩)) (by simp) (in1 rfl rfl) rfl (back1 rfl) (by repeat' (first | exact trivial | exact RenB.v _ | exact RenB.sl _ _ | exact RenB.ep _ | exact RenB.ptr _ _ _ _ rfl | refine renb_ag ?_ | refine renb_tu ?_ | refine ⟨?_, ?_⟩)) ?_
  repeat (first | ((with_reducible refine k_move ?_); refine m_move rfl ?_) | ((with_reducible refine k_assign ?_); refine m_assign rfl ?_) | ((with_reducible refine k_bin ?_); refine m_binI rfl rfl rfl ?_)  | refine e_nrm ?_ | refine x_none rfl ?_ | with_reducible refine q_then ?_ | with_reducible refine awp_seq ?_ | ((with_reducible refine w_region ?_ ?_); kernel_rfl))
  unfold inS
  refine w_cond rfl (fun h => ?_) (fun h => ?_)
  · have h' : inIdx L n < 0 := by simpa [inIdx] using h
    rw [if_pos h']
    repeat (first | ((with_reducible refine k_assign ?_); refine m_assign rfl ?_)  | refine e_nrm ?_ | refine x_none rfl ?_ | with_reducible refine q_then ?_ | with_reducible refine q_then_ret ?_ | with_reducible refine awp_seq ?_ | with_reducible refine awp_ret ?_ | ((with_reducible refine w_region ?_ ?_); kernel_rfl))
    refine ret_v (by first | exact .inr rfl | exact .inl rfl) rfl rfl ?_
    rfl
  · have h' : ¬ inIdx L n < 0 := by simpa [inIdx] using h
    rw [if_neg h']
    obtain ⟨j, x, e, hx⟩ := hI h'
    have hy := sf_at hx
    have hj := lt_at hx
    have e2 : (if chkS L ≠ 0 then -1 else idxG (fun s => hasI s.keys n) L 0) = (j : Int) := e
    rw [e, Int.toNat_natCast, hx]
    rw [e2]
    repeat (first | ((with_reducible refine k_move ?_); refine m_move rfl ?_) | ((with_reducible refine k_assign ?_); refine m_assign rfl ?_) | ((with_reducible refine k_fieldAddr ?_); refine x_fieldAddr_ep tbOk rfl rfl rfl rfl ?_) | ((with_reducible refine k_load ?_); refine x_load_ep_one tbOk rfl rfl rfl ?_) | ((with_reducible refine k_indexAddr ?_); refine x_indexAddr_n tbOk rfl rfl rfl rfl (by assumption) ?_)  | refine e_nrm ?_ | refine x_none rfl ?_ | with_reducible refine q_then ?_ | with_reducible refine awp_seq ?_ | with_reducible refine awp_skip ?_ | with_reducible refine awp_ret ?_ | ((with_reducible refine w_region ?_ ?_); kernel_rfl))
    refine ret_v (by first | exact .inr rfl | exact .inl rfl) rfl rfl ?_
    rfl
theorem lkd_A (L : List Sf) (n : Int) (m : ByteArray) (hG : GCls G) (hm : ∀ x ∈ L, SfMax x) (hl : L.length ≤ maxLen) : ACalls Tryd.prog G 26 [.sl 3 (L.map Sf.av), .v (.int .i64 n), .v (.string m)] [] (.v (.bool (lkS L n m))) [] := by
  refine acalls_of tbOk (enter_of Tryd.func26 (by kernel_rfl) rfl) Tryd.func26 rfl _ Tryd.ntmps26 (Nat.le_of_ble_eq_true rfl) fun X hX => ?_
  subst hX
  repeat (first | ((with_reducible refine k_move ?_); refine m_move rfl ?_) | ((with_reducible refine k_assign ?_); refine m_assign rfl ?_) | ((with_reducible refine k_box ?_); refine m_box rfl rfl rfl ?_)  | refine e_nrm ?_ | refine x_none rfl ?_ | with_reducible refine q_then ?_ | with_reducible refine awp_seq ?_ | ((with_reducible refine w_region ?_ ?_); kernel_rfl))
  with_reducible refine k_makeFunc ?_
  refine x_makeFunc2 _ _ rfl rfl ?_
  repeat (first   | refine x_none rfl ?_  )
  refine x_call (ss := [(4, 1), (5, 1)]) (with2_A L _ _ _ _ (fun x hx => lcl_A x n m (hm x hx)) rfl rfl hG hm hl) (by repeat' (first | exact trivial | exact Ren.v _ | exact Ren.sl _ _ | exact Ren.ep _ | exact Ren.ptr _ _ _ _ rfl | exact Ren.nil _ | exact Ren.own _ _ _ _ ⟨_, rfl⟩ | refine ren_ag ?_ | refine ren_tu ?_ | refine ren_fn ?_ | refine ⟨?_, ?_⟩)) (by simp) (in2 rfl rfl rfl rfl) rfl (back2 rfl rfl) (by repeat' (first | exact trivial | exact RenB.v _ | exact RenB.sl _ _ | exact RenB.ep _ | exact RenB.ptr _ _ _ _ rfl | refine renb_ag ?_ | refine renb_tu ?_ | refine ⟨?_, ?_⟩)) ?_
  repeat (first | ((with_reducible refine k_assign ?_); refine m_assign rfl ?_) | ((with_reducible refine k_bin ?_); refine m_binI rfl rfl rfl ?_)  | refine e_nrm ?_ | refine x_none rfl ?_ | with_reducible refine q_then ?_ | with_reducible refine awp_ret ?_ )
  refine ret_v (by first | exact .inr rfl | exact .inl rfl) rfl rfl ?_
  unfold lkS
  split
  · rfl
  · rw [← idxG_any _ L 0]
end Go.Proofs.YtlmkloghbgglkaaDoor
