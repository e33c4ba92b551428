/- network.Device and its reference, fieldreport.Check and its reference, by the abstract machine; conditions: the table of classes stands / fieldreport.Check and its reference, by the abstract machine; conditions: the table of classes stands / Messages compared: slices.Equal at reports, fieldreport.Same and its reference, by the abstract machine; conditions: none / fieldreport.Print and its reference, by the abstract machine: the text of the plain function; conditions: the tables of classes and powers stand. -/
import Derived.Test.YtgpglcccjkpmdaaDoorFrP
import Derived.Test.YtgpglcccjkpmdaaDoorNetC
import Derived.Test.YtgpglcccjkpmdaaDoorCdD
import Derived.Test.YtgpglcccjkpmdaaDoorJnA
import Derived.Test.YtgpglcccjkpmdaaDoorAbsZ
set_option linter.unusedVariables false
set_option linter.unusedSimpArgs false
namespace Go.Proofs.YtgpglcccjkpmdaaDoor
open Go Go.RowKit
set_option maxRecDepth 10000
variable {G : Nat → Option (List Value)}
def Rp.av (r : Rp) : AV := .ag [.v (.int .i64 r.d), .v (.int .i64 r.p), .v (.int .i64 r.s), .v (.int .i64 r.t), .v (.bool r.b)]
def Ms.av (M : Ms) : AV := .ag [.v (.string M.cr), .v (.int .i64 M.t), .sl 5 (M.rs.map Rp.av)]
def nwAV (N : List Nd) (V : List Dv) : AV := .ag [.sl 3 (N.map Nd.av), .sl 5 (V.map Dv.av)]
structure NwOk (N : List Nd) (V : List Dv) : Prop where
  n : ∀ x ∈ N, x.n.size ≤ maxLen
  v : ∀ x ∈ V, x.n.size ≤ maxLen
  l1 : N.length ≤ maxLen
  l2 : V.length ≤ maxLen
theorem rp_at {L : List Rp} {k : Nat} {x : Rp} (h : L[k]? = some x) : (L.map Rp.av)[k]? = some x.av := by rw [List.getElem?_map, h]; rfl
theorem dv_at' {L : List Dv} {k : Nat} {x : Dv} (h : L[k]? = some x) : (L.map Dv.av)[k]? = some x.av := by rw [List.getElem?_map, h]; rfl
theorem strEq_l (a b : ByteArray) : strEq a b = true ↔ a.data.toList = b.data.toList := by rw [strEq_iff]; exact ⟨fun e => by rw [e], ba_ext2⟩
theorem devI_drop {s : ByteArray} {V : List Dv} {k : Nat} {d : Dv} (h : V[k]? = some d) : devI s.data.toList k (V.drop k) = if strEq d.n s = true then (k : Int) else devI s.data.toList (k + 1 : Nat) (V.drop (k + 1)) := by
  rw [drop_at h, devI]
  by_cases e : d.n.data.toList = s.data.toList
  · rw [if_pos e, if_pos ((strEq_l _ _).2 e)]
  · rw [if_neg e, if_neg (fun h => e ((strEq_l _ _).1 h))]; rfl
theorem dcl_A (x : Dv) (s : ByteArray) : ACalls Tryd.prog G 61 [x.av, .ptr (refB + 0) 0 0] [[.v (.string s)]] (.v (.bool (strEq x.n s))) [[.v (.string s)]] := by
  refine acalls_of tbOk (enter_of Tryd.func61 (by kernel_rfl) rfl) Tryd.func61 rfl _ Tryd.ntmps61 (Nat.le_of_ble_eq_true rfl) fun X hX => ?_
  subst hX
  repeat (first | ((with_reducible refine k_assign ?_); refine m_assign rfl ?_) | ((with_reducible refine k_fieldAddr ?_); refine x_fieldAddr_ptr tbOk rfl rfl rfl rfl ?_) | ((with_reducible refine k_load ?_); refine x_load_one tbOk rfl rfl rfl rfl rfl ?_) | ((with_reducible refine k_box ?_); refine m_box rfl rfl rfl ?_) | ((with_reducible refine k_bin ?_); refine m_binS rfl rfl rfl ?_)  | refine e_nrm ?_ | refine x_none rfl ?_ | with_reducible refine q_then ?_ | with_reducible refine awp_seq ?_ | with_reducible refine awp_ret ?_ | ((with_reducible refine w_region ?_ ?_); kernel_rfl))
  refine ret1_v (by first | exact .inr rfl | exact .inl rfl) rfl rfl rfl (by first | rfl | assumption) ?_ ?_ (by repeat' (first | exact trivial | exact Ren.v _ | exact Ren.sl _ _ | exact Ren.ep _ | exact Ren.ptr _ _ _ _ rfl | exact Ren.bs _ _ _ _ _ rfl | exact Ren.nil _ | exact Ren.own _ _ _ _ ⟨_, rfl⟩ | refine ren_ag ?_ | refine ren_tu ?_ | refine ren_fn ?_ | refine ⟨?_, ?_⟩)) <;> rfl
set_option maxRecDepth 100000 in
set_option maxHeartbeats 1000000 in
theorem difn_A (V : List Dv) (s : ByteArray) (hm : V.length ≤ 1000) :
    ACalls Tryd.prog G 60 [.sl 5 (V.map Dv.av), .fn 61 [.ptr (refB + 0) 0 0]] [[.v (.string s)]] (.v (.int .i64 (devI s.data.toList 0 V))) [[.v (.string s)]] := by
  refine acalls_of tbOk (enter_of Tryd.func60 (by kernel_rfl) rfl) Tryd.func60 rfl _ Tryd.ntmps60 (Nat.le_of_ble_eq_true rfl) fun X hX => ?_
  subst hX
  repeat (first | ((with_reducible refine k_move ?_); refine m_move rfl ?_) | ((with_reducible refine k_assign ?_); refine m_assign rfl ?_) | ((with_reducible refine k_call ?_); refine x_len tbOk rfl rfl ?_)  | refine e_nrm ?_ | refine x_none rfl ?_ | with_reducible refine q_then ?_ | with_reducible refine awp_seq ?_ | with_reducible refine awp_block ?_ | ((with_reducible refine w_region ?_ ?_); kernel_rfl))
  refine awp_loopv (ι := Nat) (fun v k => v (refB + 0) = 0 ∧ k ≤ V.length ∧ devI s.data.toList k (V.drop k) = devI s.data.toList 0 V) (fun k => V.length - k) (fun v k => [(0, .sl 5 (V.map Dv.av)), (1, .fn 61 [.ptr (refB + 0) (v (refB + 0)) 0]), (7, .v (.int .i64 (V.map Dv.av).length)), (8, .v (.int .i64 (k : Nat)))]) (fun v k => [(refB + 0, .box [.v (.string s)])]) ?_ ?_
  · exact ⟨0, ⟨rfl, Nat.zero_le _, rfl⟩, trivial, ⟨rfl, rfl, rfl, rfl, trivial⟩, ⟨rfl, trivial⟩⟩
  · rintro v k ⟨hv0, hk, hi⟩
    repeat (first | ((with_reducible refine k_bin ?_); refine m_binI rfl rfl rfl ?_)  | refine e_nrm ?_ | refine x_none rfl ?_ | with_reducible refine q_then ?_ | with_reducible refine awp_seq ?_ | ((with_reducible refine w_region ?_ ?_); kernel_rfl))
    refine w_cond rfl (fun h => ?_) (fun h => ?_)
    · have hlt : k < V.length := by simpa using h
      obtain ⟨x, hx⟩ := some_at hlt
      have hy := dv_at' hx
      rw [devI_drop hx] at hi
      repeat (first | ((with_reducible refine k_move ?_); refine m_move rfl ?_) | ((with_reducible refine k_assign ?_); refine m_assign rfl ?_) | ((with_reducible refine k_load ?_); refine x_load_ep_agg tbOk rfl rfl (Nat.le_of_ble_eq_true rfl) ?_) | ((with_reducible refine k_indexAddr ?_); refine x_indexAddr_n tbOk rfl rfl rfl rfl (by assumption) ?_)  | refine e_nrm ?_ | refine x_none rfl ?_ | with_reducible refine q_then ?_ | with_reducible refine awp_seq ?_ | with_reducible refine awp_block ?_ | with_reducible refine awp_skip ?_ | ((with_reducible refine w_region ?_ ?_); kernel_rfl))
      with_reducible refine k_call ?_
      refine x_callV (ss := [(refB + 0, v (refB + 0))]) (dcl_A x s) rfl (by repeat' (first | exact trivial | exact Ren.v _ | exact Ren.sl _ _ | exact Ren.ep _ | exact Ren.ptr _ _ _ _ rfl | exact Ren.bs _ _ _ _ _ rfl | exact Ren.nil _ | exact Ren.own _ _ _ _ ⟨_, rfl⟩ | refine ren_ag ?_ | refine ren_tu ?_ | refine ren_fn ?_ | refine ⟨?_, ?_⟩)) (by simp) (in1 rfl rfl) rfl (back1 rfl) (by repeat' (first | exact trivial | exact RenB.v _ | exact RenB.sl _ _ | exact RenB.ep _ | exact RenB.ptr _ _ _ _ rfl | refine renb_ag ?_ | refine renb_tu ?_ | refine ⟨?_, ?_⟩)) ?_
      repeat (first   | refine e_nrm ?_ | with_reducible refine q_then ?_ )
      refine w_cond rfl (fun hq => ?_) (fun hq => ?_)
      · repeat (first | ((with_reducible refine k_move ?_); refine m_move rfl ?_) | ((with_reducible refine k_assign ?_); refine m_assign rfl ?_)  | refine e_nrm ?_ | refine x_none rfl ?_ | with_reducible refine q_then ?_ | with_reducible refine q_then_ret ?_ | with_reducible refine q_block_ret ?_ | with_reducible refine awp_seq ?_ | with_reducible refine awp_ret ?_ | ((with_reducible refine w_region ?_ ?_); kernel_rfl))
        refine ret1_v (by first | exact .inr rfl | exact .inl rfl) rfl rfl rfl (by first | rfl | assumption) ?_ ?_ (renl_self rfl)
        · rw [if_pos hq] at hi
          rw [← hi]
        · rfl
      · repeat (first | ((with_reducible refine k_move ?_); refine m_move rfl ?_) | ((with_reducible refine k_bin ?_); refine x_add_in rfl rfl (by omega) ?_)  | refine e_nrm ?_ | refine x_none rfl ?_ | with_reducible refine q_then ?_ | with_reducible refine q_block ?_ | with_reducible refine awp_skip ?_ | ((with_reducible refine w_region ?_ ?_); kernel_rfl))
        rw [if_neg (by simp [hq])] at hi
        exact ⟨k + 1, ⟨hv0, by omega, hi⟩, by omega, ⟨rfl, rfl, rfl, rfl, trivial⟩, ⟨rfl, trivial⟩⟩
    · have hlt : ¬ k < V.length := by simpa using h
      repeat (first | ((with_reducible refine k_assign ?_); refine m_assign rfl ?_)  | refine e_nrm ?_ | refine x_none rfl ?_ | with_reducible refine q_then ?_ | with_reducible refine q_then_exit ?_ | with_reducible refine awp_seq ?_ | with_reducible refine awp_exit ?_ | with_reducible refine awp_ret ?_ | ((with_reducible refine q_block_exit ?_ ?_); rfl) | ((with_reducible refine w_region ?_ ?_); kernel_rfl))
      refine ret1_v (by first | exact .inr rfl | exact .inl rfl) rfl rfl rfl (by first | rfl | assumption) ?_ ?_ (renl_self rfl)
      · rw [List.drop_of_length_le (by omega)] at hi
        rw [← hi]; rfl
      · rfl
theorem net_len {N : List Nd} {V : List Dv} (h : netE N V = 0) : N.length ≤ 32 ∧ V.length ≤ 64 := by
  unfold netE at h
  split at h
  · cases h
  · omega
def devF (N : List Nd) (V : List Dv) (s : ByteArray) : Int := if netE N V ≠ 0 then -1 else devI s.data.toList 0 V
theorem ndev_A (N : List Nd) (V : List Dv) (s : ByteArray) (hG : GCls G) (ok : NwOk N V) : ACalls Tryd.prog G 34 [nwAV N V, .v (.string s)] [] (.v (.int .i64 (devF N V s))) [] := by
  unfold devF
  refine acalls_of tbOk (enter_of Tryd.func34 (by kernel_rfl) rfl) Tryd.func34 rfl _ Tryd.ntmps34 (Nat.le_of_ble_eq_true rfl) fun X hX => ?_
  subst hX
  repeat (first | ((with_reducible refine k_assign ?_); refine m_assign rfl ?_) | ((with_reducible refine k_load ?_); refine x_load_agg tbOk rfl rfl rfl rfl (Nat.le_of_ble_eq_true rfl) ?_) | ((with_reducible refine k_box ?_); refine m_box rfl rfl rfl ?_)  | refine e_nrm ?_ | refine x_none rfl ?_ | with_reducible refine q_then ?_ | with_reducible refine awp_seq ?_ | ((with_reducible refine w_region ?_ ?_); kernel_rfl))
  refine x_call0 (netcheck_A N V hG ok.n ok.v ok.l1 ok.l2) (by repeat' (first | exact trivial | exact Ren.v _ | exact Ren.sl _ _ | exact Ren.ep _ | exact Ren.ptr _ _ _ _ rfl | exact Ren.bs _ _ _ _ _ rfl | exact Ren.nil _ | exact Ren.own _ _ _ _ ⟨_, rfl⟩ | refine ren_ag ?_ | refine ren_tu ?_ | refine ren_fn ?_ | refine ⟨?_, ?_⟩)) (by repeat' (first | exact trivial | exact RenB.v _ | exact RenB.sl _ _ | exact RenB.ep _ | exact RenB.ptr _ _ _ _ rfl | refine renb_ag ?_ | refine renb_tu ?_ | refine ⟨?_, ?_⟩)) ?_
  repeat (first | ((with_reducible refine k_bin ?_); refine m_binI rfl rfl rfl ?_)  | refine e_nrm ?_ | refine x_none rfl ?_ | with_reducible refine q_then ?_ )
  refine w_cond rfl (fun h => ?_) (fun h => ?_)
  · have h' : netE N V ≠ 0 := by simpa using h
    rw [if_pos h']
    repeat (first | ((with_reducible refine k_assign ?_); refine m_assign rfl ?_)  | refine e_nrm ?_ | refine x_none rfl ?_ | with_reducible refine q_then ?_ | with_reducible refine q_then_ret ?_ | with_reducible refine awp_seq ?_ | with_reducible refine awp_ret ?_ | ((with_reducible refine w_region ?_ ?_); kernel_rfl))
    refine ret_v (by first | exact .inr rfl | exact .inl rfl) rfl rfl ?_
    rfl
  have h' : netE N V = 0 := by simpa using h
  rw [if_neg (by simpa using h')]
  repeat (first | ((with_reducible refine k_fieldAddr ?_); refine x_fieldAddr_ptr tbOk rfl rfl rfl rfl ?_) | ((with_reducible refine k_load ?_); refine x_load_one tbOk rfl rfl rfl rfl rfl ?_) | ((with_reducible refine k_makeFunc ?_); refine m_fn1 rfl ?_)  | refine x_none rfl ?_ | with_reducible refine q_then ?_ | with_reducible refine awp_seq ?_ | with_reducible refine awp_skip ?_ | ((with_reducible refine w_region ?_ ?_); kernel_rfl))
  refine x_call (ss := [(3, 1)]) (difn_A V s (by have := net_len h'; omega)) (by repeat' (first | exact trivial | exact Ren.v _ | exact Ren.sl _ _ | exact Ren.ep _ | exact Ren.ptr _ _ _ _ rfl | exact Ren.bs _ _ _ _ _ rfl | exact Ren.nil _ | exact Ren.own _ _ _ _ ⟨_, rfl⟩ | refine ren_ag ?_ | refine ren_tu ?_ | refine ren_fn ?_ | refine ⟨?_, ?_⟩)) (by simp) (in1 rfl rfl) rfl (back1 rfl) (by repeat' (first | exact trivial | exact RenB.v _ | exact RenB.sl _ _ | exact RenB.ep _ | exact RenB.ptr _ _ _ _ rfl | refine renb_ag ?_ | refine renb_tu ?_ | refine ⟨?_, ?_⟩)) ?_
  repeat (first | ((with_reducible refine k_assign ?_); refine m_assign rfl ?_)  | refine e_nrm ?_ | refine x_none rfl ?_ | with_reducible refine q_then ?_ | with_reducible refine awp_ret ?_ )
  refine ret_v (by first | exact .inr rfl | exact .inl rfl) rfl rfl ?_
  rfl
theorem rdev_A (N : List Nd) (V : List Dv) (s : ByteArray) (ok : NwOk N V) : ACalls Tryd.prog G 42 [nwAV N V, .v (.string s)] [] (.v (.int .i64 (devF N V s))) [] := by
  unfold devF
  refine acalls_of tbOk (enter_of Tryd.func42 (by kernel_rfl) rfl) Tryd.func42 rfl _ Tryd.ntmps42 (Nat.le_of_ble_eq_true rfl) fun X hX => ?_
  subst hX
  repeat (first | ((with_reducible refine k_assign ?_); refine m_assign rfl ?_) | ((with_reducible refine k_load ?_); refine x_load_agg tbOk rfl rfl rfl rfl (Nat.le_of_ble_eq_true rfl) ?_) | ((with_reducible refine k_box ?_); refine m_box rfl rfl rfl ?_)  | refine e_nrm ?_ | refine x_none rfl ?_ | with_reducible refine q_then ?_ | with_reducible refine awp_seq ?_ | ((with_reducible refine w_region ?_ ?_); kernel_rfl))
  refine x_call0 (rnet_A N V ok.n ok.v ok.l1 ok.l2) (by repeat' (first | exact trivial | exact Ren.v _ | exact Ren.sl _ _ | exact Ren.ep _ | exact Ren.ptr _ _ _ _ rfl | exact Ren.bs _ _ _ _ _ rfl | exact Ren.nil _ | exact Ren.own _ _ _ _ ⟨_, rfl⟩ | refine ren_ag ?_ | refine ren_tu ?_ | refine ren_fn ?_ | refine ⟨?_, ?_⟩)) (by repeat' (first | exact trivial | exact RenB.v _ | exact RenB.sl _ _ | exact RenB.ep _ | exact RenB.ptr _ _ _ _ rfl | refine renb_ag ?_ | refine renb_tu ?_ | refine ⟨?_, ?_⟩)) ?_
  repeat (first | ((with_reducible refine k_bin ?_); refine m_binI rfl rfl rfl ?_)  | refine e_nrm ?_ | refine x_none rfl ?_ | with_reducible refine q_then ?_ )
  refine w_cond rfl (fun h => ?_) (fun h => ?_)
  · have h' : netE N V ≠ 0 := by simpa using h
    rw [if_pos h']
    repeat (first | ((with_reducible refine k_assign ?_); refine m_assign rfl ?_)  | refine e_nrm ?_ | refine x_none rfl ?_ | with_reducible refine q_then ?_ | with_reducible refine q_then_ret ?_ | with_reducible refine awp_seq ?_ | with_reducible refine awp_ret ?_ | ((with_reducible refine w_region ?_ ?_); kernel_rfl))
    refine ret_v (by first | exact .inr rfl | exact .inl rfl) rfl rfl ?_
    rfl
  have h' : netE N V = 0 := by simpa using h
  have hvl := net_len h'
  rw [if_neg (by simpa using h')]
  repeat (first | ((with_reducible refine k_assign ?_); refine m_assign rfl ?_)  | refine e_nrm ?_ | refine x_none rfl ?_ | with_reducible refine q_then ?_ | with_reducible refine awp_seq ?_ | with_reducible refine awp_block ?_ | with_reducible refine awp_skip ?_ | ((with_reducible refine w_region ?_ ?_); kernel_rfl))
  refine awp_loop (ι := Nat) (fun k => k ≤ V.length ∧ devI s.data.toList k (V.drop k) = devI s.data.toList 0 V) (fun k => V.length - k) (fun v k => [(1, .v (.string s)), (2, .ptr 2 (v 2) 0), (5, .v (.int .i64 (k : Nat)))]) (fun v k => [(2, .box [.sl 3 (N.map Nd.av), .sl 5 (V.map Dv.av)])]) ?_ ?_
  · exact ⟨0, ⟨Nat.zero_le _, rfl⟩, trivial, ⟨rfl, rfl, rfl, trivial⟩, ⟨rfl, trivial⟩⟩
  rintro v k ⟨hk, hi⟩
  repeat (first | ((with_reducible refine k_move ?_); refine m_move rfl ?_) | ((with_reducible refine k_fieldAddr ?_); refine x_fieldAddr_ptr tbOk rfl rfl rfl rfl ?_) | ((with_reducible refine k_load ?_); refine x_load_one tbOk rfl rfl rfl rfl rfl ?_) | ((with_reducible refine k_call ?_); refine x_len tbOk rfl rfl ?_) | ((with_reducible refine k_bin ?_); refine m_binI rfl rfl rfl ?_)  | refine e_nrm ?_ | refine x_none rfl ?_ | with_reducible refine q_then ?_ | with_reducible refine awp_seq ?_ | ((with_reducible refine w_region ?_ ?_); kernel_rfl))
  refine w_cond rfl (fun h => ?_) (fun h => ?_)
  · have hlt : k < V.length := by simpa using h
    obtain ⟨x, hx⟩ := some_at hlt
    have hy := dv_at' hx
    rw [devI_drop hx] at hi
    repeat (first | ((with_reducible refine k_move ?_); refine m_move rfl ?_) | ((with_reducible refine k_fieldAddr ?_); refine x_fieldAddr_ptr tbOk rfl rfl rfl rfl ?_) | ((with_reducible refine k_fieldAddr ?_); refine x_fieldAddr_ep tbOk rfl rfl rfl rfl ?_) | ((with_reducible refine k_load ?_); refine x_load_one tbOk rfl rfl rfl rfl rfl ?_) | ((with_reducible refine k_load ?_); refine x_load_ep_one tbOk rfl rfl rfl ?_) | ((with_reducible refine k_indexAddr ?_); refine x_indexAddr_n tbOk rfl rfl rfl rfl (by assumption) ?_) | ((with_reducible refine k_bin ?_); refine m_binS rfl rfl rfl ?_)  | refine e_nrm ?_ | refine x_none rfl ?_ | with_reducible refine q_then ?_ | with_reducible refine awp_seq ?_ | with_reducible refine awp_block ?_ | with_reducible refine awp_skip ?_ | ((with_reducible refine w_region ?_ ?_); kernel_rfl))
    refine w_cond rfl (fun hq => ?_) (fun hq => ?_)
    · repeat (first | ((with_reducible refine k_move ?_); refine m_move rfl ?_) | ((with_reducible refine k_assign ?_); refine m_assign rfl ?_)  | refine e_nrm ?_ | refine x_none rfl ?_ | with_reducible refine q_then ?_ | with_reducible refine q_then_ret ?_ | with_reducible refine q_block_ret ?_ | with_reducible refine awp_seq ?_ | with_reducible refine awp_ret ?_ | ((with_reducible refine w_region ?_ ?_); kernel_rfl))
      refine ret_v (by first | exact .inr rfl | exact .inl rfl) rfl rfl ?_
      have hq' : strEq x.n s = true := hq
      rw [if_pos hq'] at hi
      rw [← hi]
    · repeat (first | ((with_reducible refine k_move ?_); refine m_move rfl ?_) | ((with_reducible refine k_assign ?_); refine m_assign rfl ?_) | ((with_reducible refine k_bin ?_); refine x_add_in rfl rfl (by omega) ?_)  | refine e_nrm ?_ | refine x_none rfl ?_ | with_reducible refine q_then ?_ | with_reducible refine q_block ?_ | with_reducible refine awp_skip ?_ | ((with_reducible refine w_region ?_ ?_); kernel_rfl))
      have hq' : ¬ strEq x.n s = true := by
        have hq2 : strEq x.n s = false := hq
        rw [hq2]; decide
      rw [if_neg hq'] at hi
      exact ⟨k + 1, ⟨by omega, hi⟩, by omega, ⟨rfl, rfl, rfl, trivial⟩, ⟨rfl, trivial⟩⟩
  · have hlt : ¬ k < V.length := by simpa using h
    repeat (first | ((with_reducible refine k_assign ?_); refine m_assign rfl ?_)  | refine e_nrm ?_ | refine x_none rfl ?_ | with_reducible refine q_then ?_ | with_reducible refine q_then_exit ?_ | with_reducible refine awp_seq ?_ | with_reducible refine awp_exit ?_ | with_reducible refine awp_ret ?_ | ((with_reducible refine q_block_exit ?_ ?_); rfl) | ((with_reducible refine w_region ?_ ?_); kernel_rfl))
    refine ret_v (by first | exact .inr rfl | exact .inl rfl) rfl rfl ?_
    rw [List.drop_of_length_le (by omega)] at hi
    rw [← hi]; rfl
end Go.Proofs.YtgpglcccjkpmdaaDoor
namespace Go.Proofs.YtgpglcccjkpmdaaDoor
open Go Go.RowKit
set_option maxRecDepth 10000
variable {G : Nat → Option (List Value)}
theorem repE_at {m t : Int} {R : List Rp} {k : Nat} {r : Rp} (h : R[k]? = some r) : repE m t (R.drop k) = if r.d < 0 ∨ m ≤ r.d then 8 else if r.p ≠ 1 ∧ r.p ≠ 2 then 10 else if r.s ≠ 2 then 6 else if r.t ≠ t then 11 else repE m t (R.drop (k + 1)) := by rw [drop_at h]; rfl
set_option maxHeartbeats 4000000 in
theorem fcheck_A (N : List Nd) (V : List Dv) (M : Ms) (hG : GCls G) (ok : NwOk N V) (hc : M.cr.size ≤ maxLen) (hl : M.rs.length ≤ maxLen) : ACalls Tryd.prog G 19 [nwAV N V, M.av] [] (.v (.int .i64 (msgE N V M))) [] := by
  have hl9 : M.rs.length ≤ 9223372036854775807 := by unfold maxLen at hl; omega
  have hvl9 : V.length ≤ 9223372036854775807 := by have := ok.l2; unfold maxLen at this; omega
  refine acalls_of tbOk (enter_of Tryd.func19 (by kernel_rfl) rfl) Tryd.func19 rfl _ Tryd.ntmps19 (Nat.le_of_ble_eq_true rfl) fun X hX => ?_
  subst hX
  unfold msgE
  repeat (first | ((with_reducible refine k_assign ?_); refine m_assign rfl ?_) | ((with_reducible refine k_load ?_); refine x_load_agg tbOk rfl rfl rfl rfl (Nat.le_of_ble_eq_true rfl) ?_) | ((with_reducible refine k_box ?_); refine m_box rfl rfl rfl ?_)  | refine e_nrm ?_ | refine x_none rfl ?_ | with_reducible refine q_then ?_ | with_reducible refine awp_seq ?_ | ((with_reducible refine w_region ?_ ?_); kernel_rfl))
  refine x_call0 (netcheck_A N V hG ok.n ok.v ok.l1 ok.l2) (by repeat' (first | exact trivial | exact Ren.v _ | exact Ren.sl _ _ | exact Ren.ep _ | exact Ren.ptr _ _ _ _ rfl | exact Ren.bs _ _ _ _ _ rfl | exact Ren.nil _ | exact Ren.own _ _ _ _ ⟨_, rfl⟩ | refine ren_ag ?_ | refine ren_tu ?_ | refine ren_fn ?_ | refine ⟨?_, ?_⟩)) (by repeat' (first | exact trivial | exact RenB.v _ | exact RenB.sl _ _ | exact RenB.ep _ | exact RenB.ptr _ _ _ _ rfl | refine renb_ag ?_ | refine renb_tu ?_ | refine ⟨?_, ?_⟩)) ?_
  repeat (first | ((with_reducible refine k_move ?_); refine m_move rfl ?_) | ((with_reducible refine k_assign ?_); refine m_assign rfl ?_) | ((with_reducible refine k_bin ?_); refine m_binI rfl rfl rfl ?_)  | refine e_nrm ?_ | refine x_none rfl ?_ | with_reducible refine q_then ?_ | with_reducible refine awp_seq ?_ | ((with_reducible refine w_region ?_ ?_); kernel_rfl))
  refine w_cond rfl (fun h => ?_) (fun h => ?_)
  · rw [if_pos (by simpa using h)]
    repeat (first | ((with_reducible refine k_move ?_); refine m_move rfl ?_) | ((with_reducible refine k_assign ?_); refine m_assign rfl ?_)  | refine e_nrm ?_ | refine x_none rfl ?_ | with_reducible refine q_then ?_ | with_reducible refine q_then_ret ?_ | with_reducible refine awp_seq ?_ | with_reducible refine awp_ret ?_ | ((with_reducible refine w_region ?_ ?_); kernel_rfl))
    refine ret_v (by first | exact .inr rfl | exact .inl rfl) rfl rfl ?_
    rfl
  rw [if_neg (by simpa using h)]
  repeat (first | ((with_reducible refine k_fieldAddr ?_); refine x_fieldAddr_ptr tbOk rfl rfl rfl rfl ?_) | ((with_reducible refine k_load ?_); refine x_load_one tbOk rfl rfl rfl rfl rfl ?_)  | refine x_none rfl ?_ | with_reducible refine q_then ?_ | with_reducible refine awp_seq ?_ | with_reducible refine awp_block ?_ | with_reducible refine awp_skip ?_ | ((with_reducible refine w_region ?_ ?_); kernel_rfl))
  refine x_call0 (name_A M.cr hG hc) (by repeat' (first | exact trivial | exact Ren.v _ | exact Ren.sl _ _ | exact Ren.ep _ | exact Ren.ptr _ _ _ _ rfl | exact Ren.bs _ _ _ _ _ rfl | exact Ren.nil _ | exact Ren.own _ _ _ _ ⟨_, rfl⟩ | refine ren_ag ?_ | refine ren_tu ?_ | refine ren_fn ?_ | refine ⟨?_, ?_⟩)) (by repeat' (first | exact trivial | exact RenB.v _ | exact RenB.sl _ _ | exact RenB.ep _ | exact RenB.ptr _ _ _ _ rfl | refine renb_ag ?_ | refine renb_tu ?_ | refine ⟨?_, ?_⟩)) ?_
  repeat (first | ((with_reducible refine k_assign ?_); refine m_assign rfl ?_) | ((with_reducible refine k_un ?_); refine x_not rfl ?_)  | refine e_nrm ?_ | refine x_none rfl ?_ | with_reducible refine q_then ?_ )
  refine w_cond rfl (fun h => ?_) (fun h => ?_)
  · rw [if_pos (by simpa using h)]
    repeat (first | ((with_reducible refine k_assign ?_); refine m_assign rfl ?_)  | refine e_nrm ?_ | refine x_none rfl ?_ | with_reducible refine q_then ?_ | with_reducible refine q_then_ret ?_ | with_reducible refine q_block_ret ?_ | with_reducible refine awp_seq ?_ | with_reducible refine awp_ret ?_ | ((with_reducible refine w_region ?_ ?_); kernel_rfl))
    refine ret_v (by first | exact .inr rfl | exact .inl rfl) rfl rfl ?_
    rfl
  rw [if_neg (by simpa using h)]
  repeat (first | ((with_reducible refine k_move ?_); refine m_move rfl ?_) | ((with_reducible refine k_fieldAddr ?_); refine x_fieldAddr_ptr tbOk rfl rfl rfl rfl ?_) | ((with_reducible refine k_load ?_); refine x_load_one tbOk rfl rfl rfl rfl rfl ?_) | ((with_reducible refine k_bin ?_); refine m_binI rfl rfl rfl ?_)  | refine x_none rfl ?_ | with_reducible refine awp_seq ?_ | ((with_reducible refine w_region ?_ ?_); kernel_rfl))
  refine x_split rfl rfl (fun b1 => ?_) (fun b1 => ?_)
  · repeat (first | ((with_reducible refine k_assign ?_); refine m_assign rfl ?_) | ((with_reducible refine k_pick ?_); refine m_pickt rfl (by first | rfl | assumption) rfl ?_)  | refine e_nrm ?_ | refine x_none rfl ?_ | refine x_skip_f rfl rfl (by first | rfl | assumption) ?_ | with_reducible refine q_then ?_ | with_reducible refine q_then_ret ?_ | with_reducible refine q_block_ret ?_ | with_reducible refine awp_seq ?_ | with_reducible refine awp_ret ?_ | ((with_reducible refine w_region ?_ ?_); kernel_rfl) | refine w_cond_t rfl (by first | rfl | assumption) ?_)
    rw [if_pos (.inl (by simpa using b1))]
    refine ret_v (by first | exact .inr rfl | exact .inl rfl) rfl rfl ?_
    rfl
  repeat (first | ((with_reducible refine k_assign ?_); refine m_assign rfl ?_) | ((with_reducible refine k_fieldAddr ?_); refine x_fieldAddr_ptr tbOk rfl rfl rfl rfl ?_) | ((with_reducible refine k_load ?_); refine x_load_one tbOk rfl rfl rfl rfl rfl ?_) | ((with_reducible refine k_pick ?_); refine m_pickf rfl (by first | rfl | assumption) rfl ?_) | ((with_reducible refine k_bin ?_); refine m_binI rfl rfl rfl ?_)  | refine e_nrm ?_ | refine x_none rfl ?_ | refine x_run_f rfl rfl (by first | rfl | assumption) ?_ | with_reducible refine q_then ?_ )
  refine w_cond rfl (fun h => ?_) (fun h => ?_)
  · repeat (first | ((with_reducible refine k_assign ?_); refine m_assign rfl ?_)  | refine e_nrm ?_ | refine x_none rfl ?_ | with_reducible refine q_then ?_ | with_reducible refine q_then_ret ?_ | with_reducible refine q_block_ret ?_ | with_reducible refine awp_seq ?_ | with_reducible refine awp_ret ?_ | ((with_reducible refine w_region ?_ ?_); kernel_rfl))
    rw [if_pos (.inr (by simpa using h))]
    refine ret_v (by first | exact .inr rfl | exact .inl rfl) rfl rfl ?_
    rfl
  rw [if_neg (by simp at b1 h; omega)]
  repeat (first | ((with_reducible refine k_assign ?_); refine m_assign rfl ?_) | ((with_reducible refine k_fieldAddr ?_); refine x_fieldAddr_ptr tbOk rfl rfl rfl rfl ?_) | ((with_reducible refine k_load ?_); refine x_load_one tbOk rfl rfl rfl rfl rfl ?_) | ((with_reducible refine k_call ?_); refine x_len tbOk rfl rfl ?_) | ((with_reducible refine k_bin ?_); refine m_binI rfl rfl rfl ?_)  | refine e_nrm ?_ | refine x_none rfl ?_ | with_reducible refine q_then ?_ | with_reducible refine awp_seq ?_ | ((with_reducible refine w_region ?_ ?_); kernel_rfl))
  refine w_cond rfl (fun h => ?_) (fun h => ?_)
  · rw [if_pos (by first | (simp at h; omega) | simpa using h | (simp at h; simp [h]))]
    repeat (first | ((with_reducible refine k_assign ?_); refine m_assign rfl ?_)  | refine e_nrm ?_ | refine x_none rfl ?_ | with_reducible refine q_then ?_ | with_reducible refine q_then_ret ?_ | with_reducible refine q_block_ret ?_ | with_reducible refine awp_seq ?_ | with_reducible refine awp_ret ?_ | ((with_reducible refine w_region ?_ ?_); kernel_rfl))
    refine ret_v (by first | exact .inr rfl | exact .inl rfl) rfl rfl ?_
    rfl
  rw [if_neg (by first | (simp at h; omega) | simpa using h | (simp at h; simp [h]))]
  repeat (first | ((with_reducible refine k_assign ?_); refine m_assign rfl ?_) | ((with_reducible refine k_fieldAddr ?_); refine x_fieldAddr_ptr tbOk rfl rfl rfl rfl ?_) | ((with_reducible refine k_load ?_); refine x_load_one tbOk rfl rfl rfl rfl rfl ?_) | ((with_reducible refine k_call ?_); refine x_len tbOk rfl rfl ?_) | ((with_reducible refine k_bin ?_); refine m_binI rfl rfl rfl ?_)  | refine e_nrm ?_ | refine x_none rfl ?_ | with_reducible refine q_then ?_ | with_reducible refine awp_seq ?_ | ((with_reducible refine w_region ?_ ?_); kernel_rfl))
  refine w_cond rfl (fun h => ?_) (fun h => ?_)
  · rw [if_pos (by first | (simp at h; omega) | simpa using h | (simp at h; simp [h]))]
    repeat (first | ((with_reducible refine k_assign ?_); refine m_assign rfl ?_)  | refine e_nrm ?_ | refine x_none rfl ?_ | with_reducible refine q_then ?_ | with_reducible refine q_then_ret ?_ | with_reducible refine q_block_ret ?_ | with_reducible refine awp_seq ?_ | with_reducible refine awp_ret ?_ | ((with_reducible refine w_region ?_ ?_); kernel_rfl))
    refine ret_v (by first | exact .inr rfl | exact .inl rfl) rfl rfl ?_
    rfl
  rw [if_neg (by first | (simp at h; omega) | simpa using h | (simp at h; simp [h]))]
  repeat (first | ((with_reducible refine k_move ?_); refine m_move rfl ?_) | ((with_reducible refine k_fieldAddr ?_); refine x_fieldAddr_ptr tbOk rfl rfl rfl rfl ?_) | ((with_reducible refine k_load ?_); refine x_load_one tbOk rfl rfl rfl rfl rfl ?_) | ((with_reducible refine k_call ?_); refine x_len tbOk rfl rfl ?_)  | refine e_nrm ?_ | refine x_none rfl ?_ | with_reducible refine q_then ?_ | with_reducible refine q_block ?_ | with_reducible refine awp_seq ?_ | with_reducible refine awp_block ?_ | with_reducible refine awp_skip ?_ | ((with_reducible refine w_region ?_ ?_); kernel_rfl))
  refine awp_loop (ι := Nat) (fun k => k ≤ M.rs.length ∧ repE V.length M.t (M.rs.drop k) = repE V.length M.t M.rs) (fun k => M.rs.length - k) (fun v k => [(2, .ptr 2 (v 2) 0), (3, .ptr 3 (v 3) 0), (38, .sl 5 (M.rs.map Rp.av)), (39, .v (.int .i64 (M.rs.map Rp.av).length)), (40, .v (.int .i64 (k : Nat)))]) (fun v k => [(2, .box [.sl 3 (N.map Nd.av), .sl 5 (V.map Dv.av)]), (3, .box [.v (.string M.cr), .v (.int .i64 M.t), .sl 5 (M.rs.map Rp.av)])]) ?_ ?_
  · exact ⟨0, ⟨Nat.zero_le _, rfl⟩, trivial, ⟨rfl, rfl, rfl, rfl, rfl, trivial⟩, ⟨rfl, rfl, trivial⟩⟩
  rintro v k ⟨hk, hf⟩
  repeat (first | ((with_reducible refine k_bin ?_); refine m_binI rfl rfl rfl ?_)  | refine e_nrm ?_ | refine x_none rfl ?_ | with_reducible refine q_then ?_ | with_reducible refine awp_seq ?_ | ((with_reducible refine w_region ?_ ?_); kernel_rfl))
  refine w_cond rfl (fun h => ?_) (fun h => ?_)
  · have hlt : k < M.rs.length := by simpa using h
    obtain ⟨r, hr⟩ := some_at hlt
    have hy := rp_at hr
    rw [repE_at hr] at hf
    repeat (first | ((with_reducible refine k_move ?_); refine m_move rfl ?_) | ((with_reducible refine k_fieldAddr ?_); refine x_fieldAddr_ptr tbOk rfl rfl rfl rfl ?_) | ((with_reducible refine k_load ?_); refine x_load_one tbOk rfl rfl rfl rfl rfl ?_) | ((with_reducible refine k_load ?_); refine x_load_ep_agg tbOk rfl rfl (Nat.le_of_ble_eq_true rfl) ?_) | ((with_reducible refine k_store ?_); refine m_store tbOk rfl rfl rfl rfl rfl rfl rfl (Nat.le_of_ble_eq_true rfl) rfl ?_) | ((with_reducible refine k_alloc ?_); refine x_alloc tbOk rfl rfl ?_) | ((with_reducible refine k_indexAddr ?_); refine x_indexAddr_n tbOk rfl rfl rfl rfl (by assumption) ?_) | ((with_reducible refine k_bin ?_); refine m_binI rfl rfl rfl ?_)  | refine e_nrm ?_ | refine x_none rfl ?_ | with_reducible refine q_then ?_ | with_reducible refine awp_seq ?_ | with_reducible refine awp_block ?_ | with_reducible refine awp_skip ?_ | ((with_reducible refine w_region ?_ ?_); kernel_rfl))
    refine x_split rfl rfl (fun b1 => ?_) (fun b1 => ?_)
    · repeat (first | ((with_reducible refine k_assign ?_); refine m_assign rfl ?_) | ((with_reducible refine k_pick ?_); refine m_pickt rfl (by first | rfl | assumption) rfl ?_)  | refine e_nrm ?_ | refine x_none rfl ?_ | refine x_skip_f rfl rfl (by first | rfl | assumption) ?_ | with_reducible refine q_then ?_ | with_reducible refine q_then_ret ?_ | with_reducible refine q_block_ret ?_ | with_reducible refine awp_seq ?_ | with_reducible refine awp_ret ?_ | ((with_reducible refine w_region ?_ ?_); kernel_rfl) | refine w_cond_t rfl (by first | rfl | assumption) ?_)
      refine ret_v (by first | exact .inr rfl | exact .inl rfl) rfl rfl ?_
      rw [if_pos (.inl (by simpa using b1))] at hf
      rw [← hf]
    repeat (first | ((with_reducible refine k_assign ?_); refine m_assign rfl ?_) | ((with_reducible refine k_fieldAddr ?_); refine x_fieldAddr_ptr tbOk rfl rfl rfl rfl ?_) | ((with_reducible refine k_load ?_); refine x_load_one tbOk rfl rfl rfl rfl rfl ?_) | ((with_reducible refine k_pick ?_); refine m_pickf rfl (by first | rfl | assumption) rfl ?_) | ((with_reducible refine k_call ?_); refine x_len tbOk rfl rfl ?_) | ((with_reducible refine k_bin ?_); refine m_binI rfl rfl rfl ?_)  | refine e_nrm ?_ | refine x_none rfl ?_ | refine x_run_f rfl rfl (by first | rfl | assumption) ?_ | with_reducible refine q_then ?_ )
    refine w_cond rfl (fun h => ?_) (fun h => ?_)
    · repeat (first | ((with_reducible refine k_assign ?_); refine m_assign rfl ?_)  | refine e_nrm ?_ | refine x_none rfl ?_ | with_reducible refine q_then ?_ | with_reducible refine q_then_ret ?_ | with_reducible refine q_block_ret ?_ | with_reducible refine awp_seq ?_ | with_reducible refine awp_ret ?_ | ((with_reducible refine w_region ?_ ?_); kernel_rfl))
      refine ret_v (by first | exact .inr rfl | exact .inl rfl) rfl rfl ?_
      rw [if_pos (.inr (by simpa using h))] at hf
      rw [← hf]
    rw [if_neg (by simp at b1 h; omega)] at hf
    repeat (first | ((with_reducible refine k_move ?_); refine m_move rfl ?_) | ((with_reducible refine k_fieldAddr ?_); refine x_fieldAddr_ptr tbOk rfl rfl rfl rfl ?_) | ((with_reducible refine k_load ?_); refine x_load_one tbOk rfl rfl rfl rfl rfl ?_) | ((with_reducible refine k_bin ?_); refine m_binI rfl rfl rfl ?_)  | refine x_none rfl ?_ | with_reducible refine awp_seq ?_ | ((with_reducible refine w_region ?_ ?_); kernel_rfl))
    refine x_split rfl rfl (fun b1 => ?_) (fun b1 => ?_)
    · repeat (first | ((with_reducible refine k_assign ?_); refine m_assign rfl ?_) | ((with_reducible refine k_fieldAddr ?_); refine x_fieldAddr_ptr tbOk rfl rfl rfl rfl ?_) | ((with_reducible refine k_load ?_); refine x_load_one tbOk rfl rfl rfl rfl rfl ?_) | ((with_reducible refine k_pick ?_); refine m_pickt rfl (by first | rfl | assumption) rfl ?_) | ((with_reducible refine k_bin ?_); refine m_binI rfl rfl rfl ?_)  | refine e_nrm ?_ | refine x_none rfl ?_ | refine x_run_t rfl rfl (by first | rfl | assumption) ?_ | with_reducible refine q_then ?_ )
      refine w_cond rfl (fun h => ?_) (fun h => ?_)
      · repeat (first | ((with_reducible refine k_assign ?_); refine m_assign rfl ?_)  | refine e_nrm ?_ | refine x_none rfl ?_ | with_reducible refine q_then ?_ | with_reducible refine q_then_ret ?_ | with_reducible refine q_block_ret ?_ | with_reducible refine awp_seq ?_ | with_reducible refine awp_ret ?_ | ((with_reducible refine w_region ?_ ?_); kernel_rfl))
        refine ret_v (by first | exact .inr rfl | exact .inl rfl) rfl rfl ?_
        rw [if_pos ⟨by simpa using b1, by simpa using h⟩] at hf
        rw [← hf]
      rw [if_neg (fun e => e.2 (by simpa using h))] at hf
      repeat (first | ((with_reducible refine k_assign ?_); refine m_assign rfl ?_) | ((with_reducible refine k_fieldAddr ?_); refine x_fieldAddr_ptr tbOk rfl rfl rfl rfl ?_) | ((with_reducible refine k_load ?_); refine x_load_one tbOk rfl rfl rfl rfl rfl ?_) | ((with_reducible refine k_bin ?_); refine m_binI rfl rfl rfl ?_)  | refine e_nrm ?_ | refine x_none rfl ?_ | with_reducible refine q_then ?_ | with_reducible refine awp_seq ?_ | ((with_reducible refine w_region ?_ ?_); kernel_rfl))
      refine w_cond rfl (fun h => ?_) (fun h => ?_)
      · repeat (first | ((with_reducible refine k_assign ?_); refine m_assign rfl ?_)  | refine e_nrm ?_ | refine x_none rfl ?_ | with_reducible refine q_then ?_ | with_reducible refine q_then_ret ?_ | with_reducible refine q_block_ret ?_ | with_reducible refine awp_seq ?_ | with_reducible refine awp_ret ?_ | ((with_reducible refine w_region ?_ ?_); kernel_rfl))
        refine ret_v (by first | exact .inr rfl | exact .inl rfl) rfl rfl ?_
        rw [if_pos (by simpa using h)] at hf
        rw [← hf]
      rw [if_neg (by simpa using h)] at hf
      repeat (first | ((with_reducible refine k_assign ?_); refine m_assign rfl ?_) | ((with_reducible refine k_fieldAddr ?_); refine x_fieldAddr_ptr tbOk rfl rfl rfl rfl ?_) | ((with_reducible refine k_load ?_); refine x_load_one tbOk rfl rfl rfl rfl rfl ?_) | ((with_reducible refine k_bin ?_); refine m_binI rfl rfl rfl ?_)  | refine e_nrm ?_ | refine x_none rfl ?_ | with_reducible refine q_then ?_ | with_reducible refine awp_seq ?_ | ((with_reducible refine w_region ?_ ?_); kernel_rfl))
      refine w_cond rfl (fun h => ?_) (fun h => ?_)
      · repeat (first | ((with_reducible refine k_assign ?_); refine m_assign rfl ?_)  | refine e_nrm ?_ | refine x_none rfl ?_ | with_reducible refine q_then ?_ | with_reducible refine q_then_ret ?_ | with_reducible refine q_block_ret ?_ | with_reducible refine awp_seq ?_ | with_reducible refine awp_ret ?_ | ((with_reducible refine w_region ?_ ?_); kernel_rfl))
        refine ret_v (by first | exact .inr rfl | exact .inl rfl) rfl rfl ?_
        rw [if_pos (by simpa using h)] at hf
        rw [← hf]
      rw [if_neg (by simpa using h)] at hf
      repeat (first | ((with_reducible refine k_move ?_); refine m_move rfl ?_) | ((with_reducible refine k_bin ?_); refine x_add_in rfl rfl (by omega) ?_)  | refine e_nrm ?_ | refine x_none rfl ?_ | with_reducible refine q_then ?_ | with_reducible refine q_block ?_ | with_reducible refine awp_skip ?_ | ((with_reducible refine w_region ?_ ?_); kernel_rfl))
      exact ⟨k + 1, ⟨by omega, hf⟩, by omega, ⟨rfl, rfl, rfl, rfl, rfl, trivial⟩, ⟨rfl, rfl, trivial⟩⟩
    rw [if_neg (fun e => e.1 (by simpa using b1))] at hf
    repeat (first | ((with_reducible refine k_assign ?_); refine m_assign rfl ?_) | ((with_reducible refine k_fieldAddr ?_); refine x_fieldAddr_ptr tbOk rfl rfl rfl rfl ?_) | ((with_reducible refine k_load ?_); refine x_load_one tbOk rfl rfl rfl rfl rfl ?_) | ((with_reducible refine k_pick ?_); refine m_pickf rfl (by first | rfl | assumption) rfl ?_) | ((with_reducible refine k_bin ?_); refine m_binI rfl rfl rfl ?_)  | refine e_nrm ?_ | refine x_none rfl ?_ | refine x_skip_t rfl rfl (by first | rfl | assumption) ?_ | with_reducible refine q_then ?_ | with_reducible refine awp_seq ?_ | ((with_reducible refine w_region ?_ ?_); kernel_rfl) | refine w_cond_f rfl (by first | rfl | assumption) ?_)
    refine w_cond rfl (fun h => ?_) (fun h => ?_)
    · repeat (first | ((with_reducible refine k_assign ?_); refine m_assign rfl ?_)  | refine e_nrm ?_ | refine x_none rfl ?_ | with_reducible refine q_then ?_ | with_reducible refine q_then_ret ?_ | with_reducible refine q_block_ret ?_ | with_reducible refine awp_seq ?_ | with_reducible refine awp_ret ?_ | ((with_reducible refine w_region ?_ ?_); kernel_rfl))
      refine ret_v (by first | exact .inr rfl | exact .inl rfl) rfl rfl ?_
      rw [if_pos (by simpa using h)] at hf
      rw [← hf]
    rw [if_neg (by simpa using h)] at hf
    repeat (first | ((with_reducible refine k_assign ?_); refine m_assign rfl ?_) | ((with_reducible refine k_fieldAddr ?_); refine x_fieldAddr_ptr tbOk rfl rfl rfl rfl ?_) | ((with_reducible refine k_load ?_); refine x_load_one tbOk rfl rfl rfl rfl rfl ?_) | ((with_reducible refine k_bin ?_); refine m_binI rfl rfl rfl ?_)  | refine e_nrm ?_ | refine x_none rfl ?_ | with_reducible refine q_then ?_ | with_reducible refine awp_seq ?_ | ((with_reducible refine w_region ?_ ?_); kernel_rfl))
    refine w_cond rfl (fun h => ?_) (fun h => ?_)
    · repeat (first | ((with_reducible refine k_assign ?_); refine m_assign rfl ?_)  | refine e_nrm ?_ | refine x_none rfl ?_ | with_reducible refine q_then ?_ | with_reducible refine q_then_ret ?_ | with_reducible refine q_block_ret ?_ | with_reducible refine awp_seq ?_ | with_reducible refine awp_ret ?_ | ((with_reducible refine w_region ?_ ?_); kernel_rfl))
      refine ret_v (by first | exact .inr rfl | exact .inl rfl) rfl rfl ?_
      rw [if_pos (by simpa using h)] at hf
      rw [← hf]
    rw [if_neg (by simpa using h)] at hf
    repeat (first | ((with_reducible refine k_move ?_); refine m_move rfl ?_) | ((with_reducible refine k_bin ?_); refine x_add_in rfl rfl (by omega) ?_)  | refine e_nrm ?_ | refine x_none rfl ?_ | with_reducible refine q_then ?_ | with_reducible refine q_block ?_ | with_reducible refine awp_skip ?_ | ((with_reducible refine w_region ?_ ?_); kernel_rfl))
    exact ⟨k + 1, ⟨by omega, hf⟩, by omega, ⟨rfl, rfl, rfl, rfl, rfl, trivial⟩, ⟨rfl, rfl, trivial⟩⟩
  have hlt : ¬ k < M.rs.length := by simpa using h
  repeat (first | ((with_reducible refine k_assign ?_); refine m_assign rfl ?_)  | refine e_nrm ?_ | refine x_none rfl ?_ | with_reducible refine q_then ?_ | with_reducible refine q_then_exit ?_ | with_reducible refine awp_seq ?_ | with_reducible refine awp_exit ?_ | with_reducible refine awp_ret ?_ | ((with_reducible refine q_block_exit ?_ ?_); rfl) | ((with_reducible refine w_region ?_ ?_); kernel_rfl))
  refine ret_v (by first | exact .inr rfl | exact .inl rfl) rfl rfl ?_
  rw [List.drop_of_length_le (by omega)] at hf
  rw [← hf]; rfl
set_option maxHeartbeats 4000000 in
theorem frcheck_A (N : List Nd) (V : List Dv) (M : Ms) (hG : GCls G) (ok : NwOk N V) (hc : M.cr.size ≤ maxLen) (hl : M.rs.length ≤ maxLen) : ACalls Tryd.prog G 20 [nwAV N V, M.av] [] (.v (.int .i64 (msgE N V M))) [] := by
  have hl9 : M.rs.length ≤ 9223372036854775807 := by unfold maxLen at hl; omega
  have hvl9 : V.length ≤ 9223372036854775807 := by have := ok.l2; unfold maxLen at this; omega
  refine acalls_of tbOk (enter_of Tryd.func20 (by kernel_rfl) rfl) Tryd.func20 rfl _ Tryd.ntmps20 (Nat.le_of_ble_eq_true rfl) fun X hX => ?_
  subst hX
  unfold msgE
  repeat (first | ((with_reducible refine k_assign ?_); refine m_assign rfl ?_) | ((with_reducible refine k_load ?_); refine x_load_agg tbOk rfl rfl rfl rfl (Nat.le_of_ble_eq_true rfl) ?_) | ((with_reducible refine k_box ?_); refine m_box rfl rfl rfl ?_)  | refine e_nrm ?_ | refine x_none rfl ?_ | with_reducible refine q_then ?_ | with_reducible refine awp_seq ?_ | ((with_reducible refine w_region ?_ ?_); kernel_rfl))
  refine x_call0 (rnet_A N V ok.n ok.v ok.l1 ok.l2) (by repeat' (first | exact trivial | exact Ren.v _ | exact Ren.sl _ _ | exact Ren.ep _ | exact Ren.ptr _ _ _ _ rfl | exact Ren.bs _ _ _ _ _ rfl | exact Ren.nil _ | exact Ren.own _ _ _ _ ⟨_, rfl⟩ | refine ren_ag ?_ | refine ren_tu ?_ | refine ren_fn ?_ | refine ⟨?_, ?_⟩)) (by repeat' (first | exact trivial | exact RenB.v _ | exact RenB.sl _ _ | exact RenB.ep _ | exact RenB.ptr _ _ _ _ rfl | refine renb_ag ?_ | refine renb_tu ?_ | refine ⟨?_, ?_⟩)) ?_
  repeat (first | ((with_reducible refine k_move ?_); refine m_move rfl ?_) | ((with_reducible refine k_assign ?_); refine m_assign rfl ?_) | ((with_reducible refine k_bin ?_); refine m_binI rfl rfl rfl ?_)  | refine e_nrm ?_ | refine x_none rfl ?_ | with_reducible refine q_then ?_ | with_reducible refine awp_seq ?_ | ((with_reducible refine w_region ?_ ?_); kernel_rfl))
  refine w_cond rfl (fun h => ?_) (fun h => ?_)
  · rw [if_pos (by simpa using h)]
    repeat (first | ((with_reducible refine k_move ?_); refine m_move rfl ?_) | ((with_reducible refine k_assign ?_); refine m_assign rfl ?_)  | refine e_nrm ?_ | refine x_none rfl ?_ | with_reducible refine q_then ?_ | with_reducible refine q_then_ret ?_ | with_reducible refine awp_seq ?_ | with_reducible refine awp_ret ?_ | ((with_reducible refine w_region ?_ ?_); kernel_rfl))
    refine ret_v (by first | exact .inr rfl | exact .inl rfl) rfl rfl ?_
    rfl
  rw [if_neg (by simpa using h)]
  repeat (first | ((with_reducible refine k_fieldAddr ?_); refine x_fieldAddr_ptr tbOk rfl rfl rfl rfl ?_) | ((with_reducible refine k_load ?_); refine x_load_one tbOk rfl rfl rfl rfl rfl ?_)  | refine x_none rfl ?_ | with_reducible refine q_then ?_ | with_reducible refine awp_seq ?_ | with_reducible refine awp_skip ?_ | ((with_reducible refine w_region ?_ ?_); kernel_rfl))
  refine x_call0 (rname_A M.cr hc) (by repeat' (first | exact trivial | exact Ren.v _ | exact Ren.sl _ _ | exact Ren.ep _ | exact Ren.ptr _ _ _ _ rfl | exact Ren.bs _ _ _ _ _ rfl | exact Ren.nil _ | exact Ren.own _ _ _ _ ⟨_, rfl⟩ | refine ren_ag ?_ | refine ren_tu ?_ | refine ren_fn ?_ | refine ⟨?_, ?_⟩)) (by repeat' (first | exact trivial | exact RenB.v _ | exact RenB.sl _ _ | exact RenB.ep _ | exact RenB.ptr _ _ _ _ rfl | refine renb_ag ?_ | refine renb_tu ?_ | refine ⟨?_, ?_⟩)) ?_
  repeat (first | ((with_reducible refine k_un ?_); refine x_not rfl ?_)  | refine e_nrm ?_ | refine x_none rfl ?_ | with_reducible refine q_then ?_ )
  refine w_cond rfl (fun h => ?_) (fun h => ?_)
  · rw [if_pos (by simpa using h)]
    repeat (first | ((with_reducible refine k_assign ?_); refine m_assign rfl ?_)  | refine e_nrm ?_ | refine x_none rfl ?_ | with_reducible refine q_then ?_ | with_reducible refine q_then_ret ?_ | with_reducible refine awp_seq ?_ | with_reducible refine awp_ret ?_ | ((with_reducible refine w_region ?_ ?_); kernel_rfl))
    refine ret_v (by first | exact .inr rfl | exact .inl rfl) rfl rfl ?_
    rfl
  rw [if_neg (by simpa using h)]
  repeat (first | ((with_reducible refine k_move ?_); refine m_move rfl ?_) | ((with_reducible refine k_fieldAddr ?_); refine x_fieldAddr_ptr tbOk rfl rfl rfl rfl ?_) | ((with_reducible refine k_load ?_); refine x_load_one tbOk rfl rfl rfl rfl rfl ?_) | ((with_reducible refine k_bin ?_); refine m_binI rfl rfl rfl ?_)  | refine x_none rfl ?_ | with_reducible refine q_then ?_ | with_reducible refine awp_seq ?_ | with_reducible refine awp_skip ?_ | ((with_reducible refine w_region ?_ ?_); kernel_rfl))
  refine x_split rfl rfl (fun b1 => ?_) (fun b1 => ?_)
  · repeat (first | ((with_reducible refine k_assign ?_); refine m_assign rfl ?_) | ((with_reducible refine k_pick ?_); refine m_pickt rfl (by first | rfl | assumption) rfl ?_)  | refine e_nrm ?_ | refine x_none rfl ?_ | refine x_skip_f rfl rfl (by first | rfl | assumption) ?_ | with_reducible refine q_then ?_ | with_reducible refine q_then_ret ?_ | with_reducible refine awp_seq ?_ | with_reducible refine awp_ret ?_ | ((with_reducible refine w_region ?_ ?_); kernel_rfl) | refine w_cond_t rfl (by first | rfl | assumption) ?_)
    rw [if_pos (.inl (by simpa using b1))]
    refine ret_v (by first | exact .inr rfl | exact .inl rfl) rfl rfl ?_
    rfl
  repeat (first | ((with_reducible refine k_fieldAddr ?_); refine x_fieldAddr_ptr tbOk rfl rfl rfl rfl ?_) | ((with_reducible refine k_load ?_); refine x_load_one tbOk rfl rfl rfl rfl rfl ?_) | ((with_reducible refine k_pick ?_); refine m_pickf rfl (by first | rfl | assumption) rfl ?_) | ((with_reducible refine k_bin ?_); refine m_binI rfl rfl rfl ?_)  | refine e_nrm ?_ | refine x_none rfl ?_ | refine x_run_f rfl rfl (by first | rfl | assumption) ?_ | with_reducible refine q_then ?_ )
  refine w_cond rfl (fun h => ?_) (fun h => ?_)
  · repeat (first | ((with_reducible refine k_assign ?_); refine m_assign rfl ?_)  | refine e_nrm ?_ | refine x_none rfl ?_ | with_reducible refine q_then ?_ | with_reducible refine q_then_ret ?_ | with_reducible refine awp_seq ?_ | with_reducible refine awp_ret ?_ | ((with_reducible refine w_region ?_ ?_); kernel_rfl))
    rw [if_pos (.inr (by simpa using h))]
    refine ret_v (by first | exact .inr rfl | exact .inl rfl) rfl rfl ?_
    rfl
  rw [if_neg (by simp at b1 h; omega)]
  repeat (first | ((with_reducible refine k_fieldAddr ?_); refine x_fieldAddr_ptr tbOk rfl rfl rfl rfl ?_) | ((with_reducible refine k_load ?_); refine x_load_one tbOk rfl rfl rfl rfl rfl ?_) | ((with_reducible refine k_call ?_); refine x_len tbOk rfl rfl ?_) | ((with_reducible refine k_bin ?_); refine m_binI rfl rfl rfl ?_)  | refine e_nrm ?_ | refine x_none rfl ?_ | with_reducible refine q_then ?_ | with_reducible refine awp_seq ?_ | with_reducible refine awp_skip ?_ | ((with_reducible refine w_region ?_ ?_); kernel_rfl))
  refine w_cond rfl (fun h => ?_) (fun h => ?_)
  · rw [if_pos (by first | (simp at h; omega) | simpa using h | (simp at h; simp [h]))]
    repeat (first | ((with_reducible refine k_assign ?_); refine m_assign rfl ?_)  | refine e_nrm ?_ | refine x_none rfl ?_ | with_reducible refine q_then ?_ | with_reducible refine q_then_ret ?_ | with_reducible refine awp_seq ?_ | with_reducible refine awp_ret ?_ | ((with_reducible refine w_region ?_ ?_); kernel_rfl))
    refine ret_v (by first | exact .inr rfl | exact .inl rfl) rfl rfl ?_
    rfl
  rw [if_neg (by first | (simp at h; omega) | simpa using h | (simp at h; simp [h]))]
  repeat (first | ((with_reducible refine k_fieldAddr ?_); refine x_fieldAddr_ptr tbOk rfl rfl rfl rfl ?_) | ((with_reducible refine k_load ?_); refine x_load_one tbOk rfl rfl rfl rfl rfl ?_) | ((with_reducible refine k_call ?_); refine x_len tbOk rfl rfl ?_) | ((with_reducible refine k_bin ?_); refine m_binI rfl rfl rfl ?_)  | refine e_nrm ?_ | refine x_none rfl ?_ | with_reducible refine q_then ?_ | with_reducible refine awp_seq ?_ | with_reducible refine awp_skip ?_ | ((with_reducible refine w_region ?_ ?_); kernel_rfl))
  refine w_cond rfl (fun h => ?_) (fun h => ?_)
  · rw [if_pos (by first | (simp at h; omega) | simpa using h | (simp at h; simp [h]))]
    repeat (first | ((with_reducible refine k_assign ?_); refine m_assign rfl ?_)  | refine e_nrm ?_ | refine x_none rfl ?_ | with_reducible refine q_then ?_ | with_reducible refine q_then_ret ?_ | with_reducible refine awp_seq ?_ | with_reducible refine awp_ret ?_ | ((with_reducible refine w_region ?_ ?_); kernel_rfl))
    refine ret_v (by first | exact .inr rfl | exact .inl rfl) rfl rfl ?_
    rfl
  rw [if_neg (by first | (simp at h; omega) | simpa using h | (simp at h; simp [h]))]
  repeat (first | ((with_reducible refine k_assign ?_); refine m_assign rfl ?_)  | refine e_nrm ?_ | refine x_none rfl ?_ | with_reducible refine q_then ?_ | with_reducible refine awp_seq ?_ | with_reducible refine awp_block ?_ | with_reducible refine awp_skip ?_ | ((with_reducible refine w_region ?_ ?_); kernel_rfl))
  refine awp_loop (ι := Nat) (fun k => k ≤ M.rs.length ∧ repE V.length M.t (M.rs.drop k) = repE V.length M.t M.rs) (fun k => M.rs.length - k) (fun v k => [(2, .ptr 2 (v 2) 0), (3, .ptr 3 (v 3) 0), (6, .v (.int .i64 (k : Nat)))]) (fun v k => [(2, .box [.sl 3 (N.map Nd.av), .sl 5 (V.map Dv.av)]), (3, .box [.v (.string M.cr), .v (.int .i64 M.t), .sl 5 (M.rs.map Rp.av)])]) ?_ ?_
  · exact ⟨0, ⟨Nat.zero_le _, rfl⟩, trivial, ⟨rfl, rfl, rfl, trivial⟩, ⟨rfl, rfl, trivial⟩⟩
  rintro v k ⟨hk, hf⟩
  repeat (first | ((with_reducible refine k_move ?_); refine m_move rfl ?_) | ((with_reducible refine k_fieldAddr ?_); refine x_fieldAddr_ptr tbOk rfl rfl rfl rfl ?_) | ((with_reducible refine k_load ?_); refine x_load_one tbOk rfl rfl rfl rfl rfl ?_) | ((with_reducible refine k_call ?_); refine x_len tbOk rfl rfl ?_) | ((with_reducible refine k_bin ?_); refine m_binI rfl rfl rfl ?_)  | refine e_nrm ?_ | refine x_none rfl ?_ | with_reducible refine q_then ?_ | with_reducible refine awp_seq ?_ | ((with_reducible refine w_region ?_ ?_); kernel_rfl))
  refine w_cond rfl (fun h => ?_) (fun h => ?_)
  · have hlt : k < M.rs.length := by simpa using h
    obtain ⟨r, hr⟩ := some_at hlt
    have hy := rp_at hr
    rw [repE_at hr] at hf
    repeat (first | ((with_reducible refine k_move ?_); refine m_move rfl ?_) | ((with_reducible refine k_fieldAddr ?_); refine x_fieldAddr_ptr tbOk rfl rfl rfl rfl ?_) | ((with_reducible refine k_load ?_); refine x_load_one tbOk rfl rfl rfl rfl rfl ?_) | ((with_reducible refine k_load ?_); refine x_load_ep_agg tbOk rfl rfl (Nat.le_of_ble_eq_true rfl) ?_) | ((with_reducible refine k_store ?_); refine m_store tbOk rfl rfl rfl rfl rfl rfl rfl (Nat.le_of_ble_eq_true rfl) rfl ?_) | ((with_reducible refine k_alloc ?_); refine x_alloc tbOk rfl rfl ?_) | ((with_reducible refine k_indexAddr ?_); refine x_indexAddr_n tbOk rfl rfl rfl rfl (by assumption) ?_) | ((with_reducible refine k_bin ?_); refine m_binI rfl rfl rfl ?_)  | refine e_nrm ?_ | refine x_none rfl ?_ | with_reducible refine q_then ?_ | with_reducible refine awp_seq ?_ | with_reducible refine awp_block ?_ | with_reducible refine awp_skip ?_ | ((with_reducible refine w_region ?_ ?_); kernel_rfl))
    refine x_split rfl rfl (fun b1 => ?_) (fun b1 => ?_)
    · repeat (first | ((with_reducible refine k_assign ?_); refine m_assign rfl ?_) | ((with_reducible refine k_pick ?_); refine m_pickt rfl (by first | rfl | assumption) rfl ?_)  | refine e_nrm ?_ | refine x_none rfl ?_ | refine x_skip_f rfl rfl (by first | rfl | assumption) ?_ | with_reducible refine q_then ?_ | with_reducible refine q_then_ret ?_ | with_reducible refine q_block_ret ?_ | with_reducible refine awp_seq ?_ | with_reducible refine awp_ret ?_ | ((with_reducible refine w_region ?_ ?_); kernel_rfl) | refine w_cond_t rfl (by first | rfl | assumption) ?_)
      refine ret_v (by first | exact .inr rfl | exact .inl rfl) rfl rfl ?_
      rw [if_pos (.inl (by simpa using b1))] at hf
      rw [← hf]
    repeat (first | ((with_reducible refine k_fieldAddr ?_); refine x_fieldAddr_ptr tbOk rfl rfl rfl rfl ?_) | ((with_reducible refine k_load ?_); refine x_load_one tbOk rfl rfl rfl rfl rfl ?_) | ((with_reducible refine k_pick ?_); refine m_pickf rfl (by first | rfl | assumption) rfl ?_) | ((with_reducible refine k_call ?_); refine x_len tbOk rfl rfl ?_) | ((with_reducible refine k_bin ?_); refine m_binI rfl rfl rfl ?_)  | refine e_nrm ?_ | refine x_none rfl ?_ | refine x_run_f rfl rfl (by first | rfl | assumption) ?_ | with_reducible refine q_then ?_ )
    refine w_cond rfl (fun h => ?_) (fun h => ?_)
    · repeat (first | ((with_reducible refine k_assign ?_); refine m_assign rfl ?_)  | refine e_nrm ?_ | refine x_none rfl ?_ | with_reducible refine q_then ?_ | with_reducible refine q_then_ret ?_ | with_reducible refine q_block_ret ?_ | with_reducible refine awp_seq ?_ | with_reducible refine awp_ret ?_ | ((with_reducible refine w_region ?_ ?_); kernel_rfl))
      refine ret_v (by first | exact .inr rfl | exact .inl rfl) rfl rfl ?_
      rw [if_pos (.inr (by simpa using h))] at hf
      rw [← hf]
    rw [if_neg (by simp at b1 h; omega)] at hf
    repeat (first | ((with_reducible refine k_move ?_); refine m_move rfl ?_) | ((with_reducible refine k_fieldAddr ?_); refine x_fieldAddr_ptr tbOk rfl rfl rfl rfl ?_) | ((with_reducible refine k_load ?_); refine x_load_one tbOk rfl rfl rfl rfl rfl ?_) | ((with_reducible refine k_bin ?_); refine m_binI rfl rfl rfl ?_)  | refine x_none rfl ?_ | with_reducible refine q_then ?_ | with_reducible refine awp_seq ?_ | with_reducible refine awp_skip ?_ | ((with_reducible refine w_region ?_ ?_); kernel_rfl))
    refine x_split rfl rfl (fun b1 => ?_) (fun b1 => ?_)
    · repeat (first | ((with_reducible refine k_fieldAddr ?_); refine x_fieldAddr_ptr tbOk rfl rfl rfl rfl ?_) | ((with_reducible refine k_load ?_); refine x_load_one tbOk rfl rfl rfl rfl rfl ?_) | ((with_reducible refine k_pick ?_); refine m_pickt rfl (by first | rfl | assumption) rfl ?_) | ((with_reducible refine k_bin ?_); refine m_binI rfl rfl rfl ?_)  | refine e_nrm ?_ | refine x_none rfl ?_ | refine x_run_t rfl rfl (by first | rfl | assumption) ?_ | with_reducible refine q_then ?_ )
      refine w_cond rfl (fun h => ?_) (fun h => ?_)
      · repeat (first | ((with_reducible refine k_assign ?_); refine m_assign rfl ?_)  | refine e_nrm ?_ | refine x_none rfl ?_ | with_reducible refine q_then ?_ | with_reducible refine q_then_ret ?_ | with_reducible refine q_block_ret ?_ | with_reducible refine awp_seq ?_ | with_reducible refine awp_ret ?_ | ((with_reducible refine w_region ?_ ?_); kernel_rfl))
        refine ret_v (by first | exact .inr rfl | exact .inl rfl) rfl rfl ?_
        rw [if_pos ⟨by simpa using b1, by simpa using h⟩] at hf
        rw [← hf]
      rw [if_neg (fun e => e.2 (by simpa using h))] at hf
      repeat (first | ((with_reducible refine k_fieldAddr ?_); refine x_fieldAddr_ptr tbOk rfl rfl rfl rfl ?_) | ((with_reducible refine k_load ?_); refine x_load_one tbOk rfl rfl rfl rfl rfl ?_) | ((with_reducible refine k_bin ?_); refine m_binI rfl rfl rfl ?_)  | refine e_nrm ?_ | refine x_none rfl ?_ | with_reducible refine q_then ?_ | with_reducible refine awp_seq ?_ | with_reducible refine awp_skip ?_ | ((with_reducible refine w_region ?_ ?_); kernel_rfl))
      refine w_cond rfl (fun h => ?_) (fun h => ?_)
      · repeat (first | ((with_reducible refine k_assign ?_); refine m_assign rfl ?_)  | refine e_nrm ?_ | refine x_none rfl ?_ | with_reducible refine q_then ?_ | with_reducible refine q_then_ret ?_ | with_reducible refine q_block_ret ?_ | with_reducible refine awp_seq ?_ | with_reducible refine awp_ret ?_ | ((with_reducible refine w_region ?_ ?_); kernel_rfl))
        refine ret_v (by first | exact .inr rfl | exact .inl rfl) rfl rfl ?_
        rw [if_pos (by simpa using h)] at hf
        rw [← hf]
      rw [if_neg (by simpa using h)] at hf
      repeat (first | ((with_reducible refine k_fieldAddr ?_); refine x_fieldAddr_ptr tbOk rfl rfl rfl rfl ?_) | ((with_reducible refine k_load ?_); refine x_load_one tbOk rfl rfl rfl rfl rfl ?_) | ((with_reducible refine k_bin ?_); refine m_binI rfl rfl rfl ?_)  | refine e_nrm ?_ | refine x_none rfl ?_ | with_reducible refine q_then ?_ | with_reducible refine awp_seq ?_ | with_reducible refine awp_skip ?_ | ((with_reducible refine w_region ?_ ?_); kernel_rfl))
      refine w_cond rfl (fun h => ?_) (fun h => ?_)
      · repeat (first | ((with_reducible refine k_assign ?_); refine m_assign rfl ?_)  | refine e_nrm ?_ | refine x_none rfl ?_ | with_reducible refine q_then ?_ | with_reducible refine q_then_ret ?_ | with_reducible refine q_block_ret ?_ | with_reducible refine awp_seq ?_ | with_reducible refine awp_ret ?_ | ((with_reducible refine w_region ?_ ?_); kernel_rfl))
        refine ret_v (by first | exact .inr rfl | exact .inl rfl) rfl rfl ?_
        rw [if_pos (by simpa using h)] at hf
        rw [← hf]
      rw [if_neg (by simpa using h)] at hf
      repeat (first | ((with_reducible refine k_move ?_); refine m_move rfl ?_) | ((with_reducible refine k_assign ?_); refine m_assign rfl ?_) | ((with_reducible refine k_bin ?_); refine x_add_in rfl rfl (by omega) ?_)  | refine e_nrm ?_ | refine x_none rfl ?_ | with_reducible refine q_then ?_ | with_reducible refine q_block ?_ | with_reducible refine awp_skip ?_ | ((with_reducible refine w_region ?_ ?_); kernel_rfl))
      exact ⟨k + 1, ⟨by omega, hf⟩, by omega, ⟨rfl, rfl, rfl, trivial⟩, ⟨rfl, rfl, trivial⟩⟩
    rw [if_neg (fun e => e.1 (by simpa using b1))] at hf
    repeat (first | ((with_reducible refine k_fieldAddr ?_); refine x_fieldAddr_ptr tbOk rfl rfl rfl rfl ?_) | ((with_reducible refine k_load ?_); refine x_load_one tbOk rfl rfl rfl rfl rfl ?_) | ((with_reducible refine k_pick ?_); refine m_pickf rfl (by first | rfl | assumption) rfl ?_) | ((with_reducible refine k_bin ?_); refine m_binI rfl rfl rfl ?_)  | refine e_nrm ?_ | refine x_none rfl ?_ | refine x_skip_t rfl rfl (by first | rfl | assumption) ?_ | with_reducible refine q_then ?_ | with_reducible refine awp_seq ?_ | with_reducible refine awp_skip ?_ | ((with_reducible refine w_region ?_ ?_); kernel_rfl) | refine w_cond_f rfl (by first | rfl | assumption) ?_)
    refine w_cond rfl (fun h => ?_) (fun h => ?_)
    · repeat (first | ((with_reducible refine k_assign ?_); refine m_assign rfl ?_)  | refine e_nrm ?_ | refine x_none rfl ?_ | with_reducible refine q_then ?_ | with_reducible refine q_then_ret ?_ | with_reducible refine q_block_ret ?_ | with_reducible refine awp_seq ?_ | with_reducible refine awp_ret ?_ | ((with_reducible refine w_region ?_ ?_); kernel_rfl))
      refine ret_v (by first | exact .inr rfl | exact .inl rfl) rfl rfl ?_
      rw [if_pos (by simpa using h)] at hf
      rw [← hf]
    rw [if_neg (by simpa using h)] at hf
    repeat (first | ((with_reducible refine k_fieldAddr ?_); refine x_fieldAddr_ptr tbOk rfl rfl rfl rfl ?_) | ((with_reducible refine k_load ?_); refine x_load_one tbOk rfl rfl rfl rfl rfl ?_) | ((with_reducible refine k_bin ?_); refine m_binI rfl rfl rfl ?_)  | refine e_nrm ?_ | refine x_none rfl ?_ | with_reducible refine q_then ?_ | with_reducible refine awp_seq ?_ | with_reducible refine awp_skip ?_ | ((with_reducible refine w_region ?_ ?_); kernel_rfl))
    refine w_cond rfl (fun h => ?_) (fun h => ?_)
    · repeat (first | ((with_reducible refine k_assign ?_); refine m_assign rfl ?_)  | refine e_nrm ?_ | refine x_none rfl ?_ | with_reducible refine q_then ?_ | with_reducible refine q_then_ret ?_ | with_reducible refine q_block_ret ?_ | with_reducible refine awp_seq ?_ | with_reducible refine awp_ret ?_ | ((with_reducible refine w_region ?_ ?_); kernel_rfl))
      refine ret_v (by first | exact .inr rfl | exact .inl rfl) rfl rfl ?_
      rw [if_pos (by simpa using h)] at hf
      rw [← hf]
    rw [if_neg (by simpa using h)] at hf
    repeat (first | ((with_reducible refine k_move ?_); refine m_move rfl ?_) | ((with_reducible refine k_assign ?_); refine m_assign rfl ?_) | ((with_reducible refine k_bin ?_); refine x_add_in rfl rfl (by omega) ?_)  | refine e_nrm ?_ | refine x_none rfl ?_ | with_reducible refine q_then ?_ | with_reducible refine q_block ?_ | with_reducible refine awp_skip ?_ | ((with_reducible refine w_region ?_ ?_); kernel_rfl))
    exact ⟨k + 1, ⟨by omega, hf⟩, by omega, ⟨rfl, rfl, rfl, trivial⟩, ⟨rfl, rfl, trivial⟩⟩
  have hlt : ¬ k < M.rs.length := by simpa using h
  repeat (first | ((with_reducible refine k_assign ?_); refine m_assign rfl ?_)  | refine e_nrm ?_ | refine x_none rfl ?_ | with_reducible refine q_then ?_ | with_reducible refine q_then_exit ?_ | with_reducible refine awp_seq ?_ | with_reducible refine awp_exit ?_ | with_reducible refine awp_ret ?_ | ((with_reducible refine q_block_exit ?_ ?_); rfl) | ((with_reducible refine w_region ?_ ?_); kernel_rfl))
  refine ret_v (by first | exact .inr rfl | exact .inl rfl) rfl rfl ?_
  rw [List.drop_of_length_le (by omega)] at hf
  rw [← hf]; rfl
end Go.Proofs.YtgpglcccjkpmdaaDoor
namespace Go.Proofs.YtgpglcccjkpmdaaDoor
open Go Go.RowKit
set_option maxRecDepth 10000
variable {G : Nat → Option (List Value)}
def Rp.vals (k : Rp) : List Value := [.int .i64 k.d, .int .i64 k.p, .int .i64 k.s, .int .i64 k.t, .bool k.b]
theorem held_Rp : Tryd.prog.stoodInHeld 36 = false := by kernel_rfl
theorem rpEq (a b : Rp) (w : World) (d : Nat) : (Op.equalIn (d + 2) 36 (.agg ⟨a.vals⟩) (.agg ⟨b.vals⟩)).run Tryd.prog w = .ok (decide (a = b)) w := by
  obtain ⟨k, i, n, t, c⟩ := a
  obtain ⟨k', i', n', t', c'⟩ := b
  rw [run_equalIn_struct w (d + 1) 36 _ _ (by kernel_rfl) held_Rp]
  simp only [Rp.mk.injEq]
  by_cases h1 : k = k' <;> by_cases h2 : i = i' <;> by_cases h3 : n = n' <;> by_cases h4 : t = t' <;> by_cases h5 : c = c' <;> simp [Rp.vals, Program.fieldsOf, Tryd.underlying36, Op.eqFields, go_sem, Tryd.underlying3, Tryd.underlying4, h1, h2, h3, h4, h5]
theorem rpNeq (x y : Operand) (a b : Rp) (w : World) : (do eqGuard .neq 36 x y (.agg ⟨a.vals⟩) (.agg ⟨b.vals⟩); binOp .neq 36 (.agg ⟨a.vals⟩) (.agg ⟨b.vals⟩) : Sem Value).run Tryd.prog w = .ok (.bool (!decide (a = b))) w := by
  have hg : (eqGuard .neq 36 x y (.agg ⟨a.vals⟩) (.agg ⟨b.vals⟩)).run Tryd.prog w = .ok () w := by
    unfold eqGuard
    simp [show Tryd.prog.eqGuardType Tryd.prog.depth 36 = false by kernel_rfl]
  rw [Sem.run_bind, hg]
  simp only [Result.andThen_ok, binOp]
  simp [Op.equal, Op.maxDepth, rpEq a b w 9998]
theorem req_A (L M : List Rp) (hl : L.length ≤ maxLen) : ACalls Tryd.prog G 39 [.sl 5 (L.map Rp.av), .sl 5 (M.map Rp.av)] [] (.v (.bool (decide (L = M)))) [] := by
  have hml : L.length ≤ 9223372036854775807 := by unfold maxLen at hl; omega
  refine acalls_of tbOk (enter_of Tryd.func39 (by kernel_rfl) rfl) Tryd.func39 rfl _ Tryd.ntmps39 (Nat.le_of_ble_eq_true rfl) fun X hX => ?_
  subst hX
  repeat (first | ((with_reducible refine k_move ?_); refine m_move rfl ?_) | ((with_reducible refine k_assign ?_); refine m_assign rfl ?_) | ((with_reducible refine k_call ?_); refine x_len tbOk rfl rfl ?_) | ((with_reducible refine k_bin ?_); refine m_binI rfl rfl rfl ?_)  | refine e_nrm ?_ | refine x_none rfl ?_ | with_reducible refine q_then ?_ | with_reducible refine awp_seq ?_ | ((with_reducible refine w_region ?_ ?_); kernel_rfl))
  refine w_cond rfl (fun h => ?_) (fun h => ?_)
  · repeat (first | ((with_reducible refine k_assign ?_); refine m_assign rfl ?_)  | refine e_nrm ?_ | refine x_none rfl ?_ | with_reducible refine q_then ?_ | with_reducible refine q_then_ret ?_ | with_reducible refine awp_seq ?_ | with_reducible refine awp_ret ?_ | ((with_reducible refine w_region ?_ ?_); kernel_rfl))
    refine ret_v (by first | exact .inr rfl | exact .inl rfl) rfl rfl ?_
    have : ¬ L.length = M.length := by simp at h; omega
    rw [decide_eq_false (fun e => this (by rw [e]))]
  · have hlm : L.length = M.length := by simp at h; omega
    repeat (first | ((with_reducible refine k_move ?_); refine m_move rfl ?_) | ((with_reducible refine k_call ?_); refine x_len tbOk rfl rfl ?_)  | refine e_nrm ?_ | refine x_none rfl ?_ | with_reducible refine q_then ?_ | with_reducible refine awp_seq ?_ | with_reducible refine awp_block ?_ | with_reducible refine awp_skip ?_ | ((with_reducible refine w_region ?_ ?_); kernel_rfl))
    refine awp_loop (ι := Nat) (fun k => k ≤ L.length ∧ (L = M ↔ L.drop k = M.drop k)) (fun k => L.length - k) (fun v k => [(0, .sl 5 (L.map Rp.av)), (1, .sl 5 (M.map Rp.av)), (12, .v (.int .i64 (L.map Rp.av).length)), (13, .v (.int .i64 k))]) (fun v k => []) ?_ ?_
    · exact ⟨0, ⟨Nat.zero_le _, Iff.rfl⟩, trivial, ⟨rfl, rfl, rfl, rfl, trivial⟩, trivial⟩
    · rintro v k ⟨hk, hf⟩
      repeat (first | ((with_reducible refine k_bin ?_); refine m_binI rfl rfl rfl ?_)  | refine e_nrm ?_ | refine x_none rfl ?_ | with_reducible refine q_then ?_ | with_reducible refine awp_seq ?_ | ((with_reducible refine w_region ?_ ?_); kernel_rfl))
      refine w_cond rfl (fun h => ?_) (fun h => ?_)
      · have hlt : k < L.length := by simpa using h
        obtain ⟨r, hx⟩ := some_at hlt
        obtain ⟨q, hq⟩ := some_at (L := M) (k := k) (by omega)
        have hy := rp_at hx
        have hz := rp_at hq
        rw [drop_at hx, drop_at hq, List.cons.injEq] at hf
        repeat (first | ((with_reducible refine k_move ?_); refine m_move rfl ?_) | ((with_reducible refine k_assign ?_); refine m_assign rfl ?_) | ((with_reducible refine k_load ?_); refine x_load_ep_agg tbOk rfl rfl (Nat.le_of_ble_eq_true rfl) ?_) | ((with_reducible refine k_indexAddr ?_); refine x_indexAddr_n tbOk rfl rfl rfl rfl (by assumption) ?_)  | refine e_nrm ?_ | refine x_none rfl ?_ | with_reducible refine q_then ?_ | with_reducible refine awp_seq ?_ | with_reducible refine awp_block ?_ | with_reducible refine awp_skip ?_ | ((with_reducible refine w_region ?_ ?_); kernel_rfl) | ((with_reducible refine w_draw mixd ?_ ?_); kernel_rfl))
        with_reducible refine k_bin ?_
        refine x_bin_ag rfl rfl (rfl : concL _ = some r.vals) (rfl : concL _ = some q.vals) (fun w => rpNeq _ _ _ _ w) ?_
        repeat (first   | refine e_drw (by kernel_rfl) ?_ | with_reducible refine q_then ?_ )
        refine w_cond rfl (fun he => ?_) (fun he => ?_)
        · have he' : ¬ r = q := by simpa using he
          repeat (first | ((with_reducible refine k_assign ?_); refine m_assign rfl ?_)  | refine e_nrm ?_ | refine x_none rfl ?_ | with_reducible refine q_then ?_ | with_reducible refine q_then_ret ?_ | with_reducible refine q_block_ret ?_ | with_reducible refine awp_seq ?_ | with_reducible refine awp_ret ?_ | ((with_reducible refine w_region ?_ ?_); kernel_rfl))
          refine ret_v (by first | exact .inr rfl | exact .inl rfl) rfl rfl ?_
          rw [decide_eq_false (fun e => he' (hf.1 e).1)]
        · have he' : r = q := by simpa using he
          repeat (first | ((with_reducible refine k_move ?_); refine m_move rfl ?_) | ((with_reducible refine k_bin ?_); refine x_add_in rfl rfl (by omega) ?_)  | refine e_nrm ?_ | refine x_none rfl ?_ | with_reducible refine q_then ?_ | with_reducible refine q_block ?_ | with_reducible refine awp_skip ?_ | ((with_reducible refine w_region ?_ ?_); kernel_rfl))
          exact ⟨k + 1, ⟨by omega, ⟨fun e => (hf.1 e).2, fun e => hf.2 ⟨he', e⟩⟩⟩, by omega, ⟨rfl, rfl, rfl, rfl, trivial⟩, trivial⟩
      · have hlt : ¬ k < L.length := by simpa using h
        repeat (first | ((with_reducible refine k_assign ?_); refine m_assign rfl ?_)  | refine e_nrm ?_ | refine x_none rfl ?_ | with_reducible refine q_then ?_ | with_reducible refine q_then_exit ?_ | with_reducible refine awp_seq ?_ | with_reducible refine awp_exit ?_ | with_reducible refine awp_ret ?_ | ((with_reducible refine q_block_exit ?_ ?_); rfl) | ((with_reducible refine w_region ?_ ?_); kernel_rfl))
        refine ret_v (by first | exact .inr rfl | exact .inl rfl) rfl rfl ?_
        rw [decide_eq_true (hf.2 (by rw [List.drop_of_length_le (by omega), List.drop_of_length_le (by omega)]))]
def sameB (a b : Ms) : Bool := strEq a.cr b.cr && decide (a.t = b.t) && decide (a.rs = b.rs)
theorem fsame_A (a b : Ms) (hl : a.rs.length ≤ maxLen) : ACalls Tryd.prog G 21 [a.av, b.av] [] (.v (.bool (sameB a b))) [] := by
  refine acalls_of tbOk (enter_of Tryd.func21 (by kernel_rfl) rfl) Tryd.func21 rfl _ Tryd.ntmps21 (Nat.le_of_ble_eq_true rfl) fun X hX => ?_
  subst hX
  repeat (first | ((with_reducible refine k_move ?_); refine m_move rfl ?_) | ((with_reducible refine k_assign ?_); refine m_assign rfl ?_) | ((with_reducible refine k_fieldAddr ?_); refine x_fieldAddr_ptr tbOk rfl rfl rfl rfl ?_) | ((with_reducible refine k_load ?_); refine x_load_one tbOk rfl rfl rfl rfl rfl ?_) | ((with_reducible refine k_box ?_); refine m_box rfl rfl rfl ?_) | ((with_reducible refine k_bin ?_); refine m_binS rfl rfl rfl ?_)  | refine e_nrm ?_ | refine x_none rfl ?_ | with_reducible refine q_then ?_ | with_reducible refine awp_seq ?_ | ((with_reducible refine w_region ?_ ?_); kernel_rfl))
  refine x_split rfl rfl (fun b1 => ?_) (fun b1 => ?_)
  · repeat (first | ((with_reducible refine k_move ?_); refine m_move rfl ?_) | ((with_reducible refine k_fieldAddr ?_); refine x_fieldAddr_ptr tbOk rfl rfl rfl rfl ?_) | ((with_reducible refine k_load ?_); refine x_load_one tbOk rfl rfl rfl rfl rfl ?_) | ((with_reducible refine k_pick ?_); refine m_pickt rfl (by first | rfl | assumption) rfl ?_) | ((with_reducible refine k_bin ?_); refine m_binI rfl rfl rfl ?_)  | refine x_none rfl ?_ | refine x_run_t rfl rfl (by first | rfl | assumption) ?_  )
    refine x_split rfl rfl (fun b2 => ?_) (fun b2 => ?_)
    · repeat (first | ((with_reducible refine k_fieldAddr ?_); refine x_fieldAddr_ptr tbOk rfl rfl rfl rfl ?_) | ((with_reducible refine k_load ?_); refine x_load_one tbOk rfl rfl rfl rfl rfl ?_)  | refine x_run_t rfl rfl (by first | rfl | assumption) ?_  )
      refine x_call0 (req_A a.rs b.rs hl) (by repeat' (first | exact trivial | exact Ren.v _ | exact Ren.sl _ _ | exact Ren.ep _ | exact Ren.ptr _ _ _ _ rfl | exact Ren.bs _ _ _ _ _ rfl | exact Ren.nil _ | exact Ren.own _ _ _ _ ⟨_, rfl⟩ | refine ren_ag ?_ | refine ren_tu ?_ | refine ren_fn ?_ | refine ⟨?_, ?_⟩)) (by repeat' (first | exact trivial | exact RenB.v _ | exact RenB.sl _ _ | exact RenB.ep _ | exact RenB.ptr _ _ _ _ rfl | refine renb_ag ?_ | refine renb_tu ?_ | refine ⟨?_, ?_⟩)) ?_
      repeat (first | ((with_reducible refine k_assign ?_); refine m_assign rfl ?_) | ((with_reducible refine k_pick ?_); refine m_pickt rfl (by first | rfl | assumption) rfl ?_)  | refine e_nrm ?_ | refine x_none rfl ?_ | with_reducible refine q_then ?_ | with_reducible refine awp_ret ?_ )
      refine ret_v (by first | exact .inr rfl | exact .inl rfl) rfl rfl ?_
      have e1 : strEq a.cr b.cr = true := b1
      have e2 : a.t = b.t := by simpa using b2
      unfold sameB
      rw [e1, decide_eq_true e2]; rfl
    · repeat (first | ((with_reducible refine k_assign ?_); refine m_assign rfl ?_) | ((with_reducible refine k_pick ?_); refine m_pickf rfl (by first | rfl | assumption) rfl ?_)  | refine e_nrm ?_ | refine x_none rfl ?_ | refine x_skip_t rfl rfl (by first | rfl | assumption) ?_ | with_reducible refine q_then ?_ | with_reducible refine awp_ret ?_ )
      refine ret_v (by first | exact .inr rfl | exact .inl rfl) rfl rfl ?_
      have e2 : ¬ a.t = b.t := by simpa using b2
      unfold sameB
      rw [decide_eq_false e2]; simp
  · repeat (first | ((with_reducible refine k_move ?_); refine m_move rfl ?_) | ((with_reducible refine k_assign ?_); refine m_assign rfl ?_) | ((with_reducible refine k_pick ?_); refine m_pickf rfl (by first | rfl | assumption) rfl ?_)  | refine e_nrm ?_ | refine x_none rfl ?_ | refine x_skip_t rfl rfl (by first | rfl | assumption) ?_ | with_reducible refine q_then ?_ | with_reducible refine awp_ret ?_ )
    refine ret_v (by first | exact .inr rfl | exact .inl rfl) rfl rfl ?_
    have e1 : strEq a.cr b.cr = false := b1
    unfold sameB
    rw [e1]; rfl
set_option maxHeartbeats 1000000 in
theorem frsame_A (a b : Ms) (hl : a.rs.length ≤ maxLen) (hl2 : b.rs.length ≤ maxLen) : ACalls Tryd.prog G 13 [a.av, b.av] [] (.v (.bool (sameB a b))) [] := by
  have hml : a.rs.length ≤ 9223372036854775807 := by unfold maxLen at hl; omega
  refine acalls_of tbOk (enter_of Tryd.func13 (by kernel_rfl) rfl) Tryd.func13 rfl _ Tryd.ntmps13 (Nat.le_of_ble_eq_true rfl) fun X hX => ?_
  subst hX
  unfold sameB
  repeat (first | ((with_reducible refine k_move ?_); refine m_move rfl ?_) | ((with_reducible refine k_assign ?_); refine m_assign rfl ?_) | ((with_reducible refine k_fieldAddr ?_); refine x_fieldAddr_ptr tbOk rfl rfl rfl rfl ?_) | ((with_reducible refine k_load ?_); refine x_load_one tbOk rfl rfl rfl rfl rfl ?_) | ((with_reducible refine k_box ?_); refine m_box rfl rfl rfl ?_) | ((with_reducible refine k_bin ?_); refine m_binS rfl rfl rfl ?_)  | refine e_nrm ?_ | refine x_none rfl ?_ | with_reducible refine q_then ?_ | with_reducible refine awp_seq ?_ | ((with_reducible refine w_region ?_ ?_); kernel_rfl))
  refine x_split rfl rfl (fun b1 => ?_) (fun b1 => ?_)
  · repeat (first | ((with_reducible refine k_move ?_); refine m_move rfl ?_) | ((with_reducible refine k_assign ?_); refine m_assign rfl ?_) | ((with_reducible refine k_pick ?_); refine m_pickt rfl (by first | rfl | assumption) rfl ?_)  | refine e_nrm ?_ | refine x_none rfl ?_ | refine x_skip_f rfl rfl (by first | rfl | assumption) ?_ | with_reducible refine q_then ?_ | with_reducible refine q_then_ret ?_ | with_reducible refine awp_seq ?_ | with_reducible refine awp_ret ?_ | ((with_reducible refine w_region ?_ ?_); kernel_rfl) | refine w_cond_t rfl (by first | rfl | assumption) ?_)
    refine ret_v (by first | exact .inr rfl | exact .inl rfl) rfl rfl ?_
    have e1 : strEq a.cr b.cr = false := by simpa using b1
    rw [e1]; rfl
  have e1 : strEq a.cr b.cr = true := by simpa using b1
  rw [e1]
  repeat (first | ((with_reducible refine k_move ?_); refine m_move rfl ?_) | ((with_reducible refine k_fieldAddr ?_); refine x_fieldAddr_ptr tbOk rfl rfl rfl rfl ?_) | ((with_reducible refine k_load ?_); refine x_load_one tbOk rfl rfl rfl rfl rfl ?_) | ((with_reducible refine k_pick ?_); refine m_pickf rfl (by first | rfl | assumption) rfl ?_) | ((with_reducible refine k_bin ?_); refine m_binI rfl rfl rfl ?_)  | refine x_none rfl ?_ | refine x_run_f rfl rfl (by first | rfl | assumption) ?_  )
  refine x_split rfl rfl (fun b2 => ?_) (fun b2 => ?_)
  · repeat (first | ((with_reducible refine k_assign ?_); refine m_assign rfl ?_) | ((with_reducible refine k_pick ?_); refine m_pickt rfl (by first | rfl | assumption) rfl ?_)  | refine e_nrm ?_ | refine x_none rfl ?_ | refine x_skip_f rfl rfl (by first | rfl | assumption) ?_ | with_reducible refine q_then ?_ | with_reducible refine q_then_ret ?_ | with_reducible refine awp_seq ?_ | with_reducible refine awp_ret ?_ | ((with_reducible refine w_region ?_ ?_); kernel_rfl) | refine w_cond_t rfl (by first | rfl | assumption) ?_)
    refine ret_v (by first | exact .inr rfl | exact .inl rfl) rfl rfl ?_
    have e2 : ¬ a.t = b.t := by simpa using b2
    rw [decide_eq_false e2]; rfl
  have e2 : a.t = b.t := by simpa using b2
  rw [decide_eq_true e2]
  repeat (first | ((with_reducible refine k_fieldAddr ?_); refine x_fieldAddr_ptr tbOk rfl rfl rfl rfl ?_) | ((with_reducible refine k_load ?_); refine x_load_one tbOk rfl rfl rfl rfl rfl ?_) | ((with_reducible refine k_pick ?_); refine m_pickf rfl (by first | rfl | assumption) rfl ?_) | ((with_reducible refine k_call ?_); refine x_len tbOk rfl rfl ?_) | ((with_reducible refine k_bin ?_); refine m_binI rfl rfl rfl ?_)  | refine e_nrm ?_ | refine x_none rfl ?_ | refine x_run_f rfl rfl (by first | rfl | assumption) ?_ | with_reducible refine q_then ?_ )
  refine w_cond rfl (fun h => ?_) (fun h => ?_)
  · repeat (first | ((with_reducible refine k_assign ?_); refine m_assign rfl ?_)  | refine e_nrm ?_ | refine x_none rfl ?_ | with_reducible refine q_then ?_ | with_reducible refine q_then_ret ?_ | with_reducible refine awp_seq ?_ | with_reducible refine awp_ret ?_ | ((with_reducible refine w_region ?_ ?_); kernel_rfl))
    refine ret_v (by first | exact .inr rfl | exact .inl rfl) rfl rfl ?_
    have : ¬ a.rs.length = b.rs.length := by simp at h; omega
    rw [decide_eq_false (fun e => this (by rw [e]))]; rfl
  have hlm : a.rs.length = b.rs.length := by simp at h; omega
  repeat (first | ((with_reducible refine k_assign ?_); refine m_assign rfl ?_)  | refine e_nrm ?_ | refine x_none rfl ?_ | with_reducible refine q_then ?_ | with_reducible refine awp_seq ?_ | with_reducible refine awp_block ?_ | with_reducible refine awp_skip ?_ | ((with_reducible refine w_region ?_ ?_); kernel_rfl))
  refine awp_loop (ι := Nat) (fun k => k ≤ a.rs.length ∧ (a.rs = b.rs ↔ a.rs.drop k = b.rs.drop k)) (fun k => a.rs.length - k) (fun v k => [(2, .ptr 2 (v 2) 0), (3, .ptr 3 (v 3) 0), (5, .v (.int .i64 (k : Nat)))]) (fun v k => [(2, .box [.v (.string a.cr), .v (.int .i64 a.t), .sl 5 (a.rs.map Rp.av)]), (3, .box [.v (.string b.cr), .v (.int .i64 b.t), .sl 5 (b.rs.map Rp.av)])]) ?_ ?_
  · exact ⟨0, ⟨Nat.zero_le _, Iff.rfl⟩, trivial, ⟨rfl, rfl, rfl, trivial⟩, ⟨rfl, rfl, trivial⟩⟩
  rintro v k ⟨hk, hf⟩
  repeat (first | ((with_reducible refine k_move ?_); refine m_move rfl ?_) | ((with_reducible refine k_fieldAddr ?_); refine x_fieldAddr_ptr tbOk rfl rfl rfl rfl ?_) | ((with_reducible refine k_load ?_); refine x_load_one tbOk rfl rfl rfl rfl rfl ?_) | ((with_reducible refine k_call ?_); refine x_len tbOk rfl rfl ?_) | ((with_reducible refine k_bin ?_); refine m_binI rfl rfl rfl ?_)  | refine e_nrm ?_ | refine x_none rfl ?_ | with_reducible refine q_then ?_ | with_reducible refine awp_seq ?_ | ((with_reducible refine w_region ?_ ?_); kernel_rfl))
  refine w_cond rfl (fun h => ?_) (fun h => ?_)
  · have hlt : k < a.rs.length := by simpa using h
    obtain ⟨r, hx⟩ := some_at hlt
    obtain ⟨q, hq⟩ := some_at (L := b.rs) (k := k) (by omega)
    have hy := rp_at hx
    have hz := rp_at hq
    rw [drop_at hx, drop_at hq, List.cons.injEq] at hf
    repeat (first | ((with_reducible refine k_move ?_); refine m_move rfl ?_) | ((with_reducible refine k_fieldAddr ?_); refine x_fieldAddr_ptr tbOk rfl rfl rfl rfl ?_) | ((with_reducible refine k_load ?_); refine x_load_one tbOk rfl rfl rfl rfl rfl ?_) | ((with_reducible refine k_load ?_); refine x_load_ep_agg tbOk rfl rfl (Nat.le_of_ble_eq_true rfl) ?_) | ((with_reducible refine k_indexAddr ?_); refine x_indexAddr_n tbOk rfl rfl rfl rfl (by assumption) ?_)  | refine x_none rfl ?_ | with_reducible refine q_then ?_ | with_reducible refine awp_seq ?_ | with_reducible refine awp_block ?_ | with_reducible refine awp_skip ?_ | ((with_reducible refine w_draw mixd ?_ ?_); kernel_rfl))
    with_reducible refine k_bin ?_
    refine x_bin_ag rfl rfl (rfl : concL _ = some r.vals) (rfl : concL _ = some q.vals) (fun w => rpNeq _ _ _ _ w) ?_
    repeat (first   | refine e_drw (by kernel_rfl) ?_ | with_reducible refine q_then ?_ )
    refine w_cond rfl (fun he => ?_) (fun he => ?_)
    · have he' : ¬ r = q := by simpa using he
      repeat (first | ((with_reducible refine k_assign ?_); refine m_assign rfl ?_)  | refine e_nrm ?_ | refine x_none rfl ?_ | with_reducible refine q_then ?_ | with_reducible refine q_then_ret ?_ | with_reducible refine q_block_ret ?_ | with_reducible refine awp_seq ?_ | with_reducible refine awp_ret ?_ | ((with_reducible refine w_region ?_ ?_); kernel_rfl))
      refine ret_v (by first | exact .inr rfl | exact .inl rfl) rfl rfl ?_
      rw [decide_eq_false (fun e => he' (hf.1 e).1)]; rfl
    · have he' : r = q := by simpa using he
      repeat (first | ((with_reducible refine k_move ?_); refine m_move rfl ?_) | ((with_reducible refine k_assign ?_); refine m_assign rfl ?_) | ((with_reducible refine k_bin ?_); refine x_add_in rfl rfl (by omega) ?_)  | refine e_nrm ?_ | refine x_none rfl ?_ | with_reducible refine q_then ?_ | with_reducible refine q_block ?_ | with_reducible refine awp_skip ?_ | ((with_reducible refine w_region ?_ ?_); kernel_rfl))
      exact ⟨k + 1, ⟨by omega, ⟨fun e => (hf.1 e).2, fun e => hf.2 ⟨he', e⟩⟩⟩, by omega, ⟨rfl, rfl, rfl, trivial⟩, ⟨rfl, rfl, trivial⟩⟩
  · have hlt : ¬ k < a.rs.length := by simpa using h
    repeat (first | ((with_reducible refine k_assign ?_); refine m_assign rfl ?_)  | refine e_nrm ?_ | refine x_none rfl ?_ | with_reducible refine q_then ?_ | with_reducible refine q_then_exit ?_ | with_reducible refine awp_seq ?_ | with_reducible refine awp_exit ?_ | with_reducible refine awp_ret ?_ | ((with_reducible refine q_block_exit ?_ ?_); rfl) | ((with_reducible refine w_region ?_ ?_); kernel_rfl))
    refine ret_v (by first | exact .inr rfl | exact .inl rfl) rfl rfl ?_
    rw [decide_eq_true (hf.2 (by rw [List.drop_of_length_le (by omega), List.drop_of_length_le (by omega)]))]; rfl
theorem sameB_refl (a : Ms) : sameB a a = true := by
  unfold sameB
  rw [strEq_iff.2 rfl]; simp
end Go.Proofs.YtgpglcccjkpmdaaDoor
namespace Go.Proofs.YtgpglcccjkpmdaaDoor
open Go Go.RowKit
set_option maxRecDepth 10000
variable {G : Nat → Option (List Value)}
theorem nsz (s : ByteArray) : s.size = s.data.toList.length := by simp
theorem pre_len {N : List Nd} {V : List Dv} {M : Ms} (hn : netE N V = 0) (h : MsOk V M) (k : Nat) : (joinW (headW M.cr M.t ++ (M.rs.take k).flatMap (repW V))).length ≤ 20000 := by
  have h1 := joinW_len2 (headW M.cr M.t ++ (M.rs.take k).flatMap (repW V)) 101 (fun w hw => by
    refine (msg_words hn h w ?_).2
    unfold msgW
    rcases List.mem_append.1 hw with hw | hw
    · exact List.mem_append_left _ hw
    · obtain ⟨r, hr, hw⟩ := List.mem_flatMap.1 hw
      exact List.mem_append_right _ (List.mem_flatMap.2 ⟨r, List.mem_of_mem_take hr, hw⟩))
  have hl : (headW M.cr M.t ++ (M.rs.take k).flatMap (repW V)).length = 3 + 3 * (M.rs.take k).length := by rw [List.length_append, flat3]; rfl
  have := h.l2
  have : (M.rs.take k).length ≤ M.rs.length := by rw [List.length_take]; omega
  omega
theorem join3 {W : List (List UInt8)} (hW : W ≠ []) (a b c : List UInt8) : strL (joinW (W ++ [a, b, c])) = ((strL (joinW W) ++ ((⟨#[32]⟩ : ByteArray) ++ strL a)) ++ strL (32 :: b)) ++ strL (32 :: c) := by
  refine ba_ext2 ?_
  have e : W ++ [a, b, c] = ((W ++ [a]) ++ [b]) ++ [c] := by simp
  rw [e, joinW_snoc, if_neg (by simp), joinW_snoc, if_neg (by simp), joinW_snoc, if_neg hW]
  simp [strL]
theorem head_join (cr : ByteArray) (t : Int) : strL (joinW (headW cr t)) = ((cr ++ (⟨#[32, 97, 116, 32]⟩ : ByteArray)) ++ printP t) ++ (⟨#[58]⟩ : ByteArray) := by
  refine ba_ext2 ?_
  unfold headW
  rw [joinW_cons, joinW_cons, joinW_one]
  simp [strL, atL]
theorem head_ne (cr : ByteArray) (t : Int) (L : List (List UInt8)) : headW cr t ++ L ≠ [] := by unfold headW; simp
set_option maxHeartbeats 4000000 in
theorem fprint_A (N : List Nd) (V : List Dv) (M : Ms) (hG : GCls G) (hP : GPow G) (ok : NwOk N V) (hc : M.cr.size ≤ maxLen) (hl : M.rs.length ≤ maxLen) : ACalls Tryd.prog G 11 [nwAV N V, M.av] [] (.tu [.v (.string (printM N V M).1), .v (.int .i64 (printM N V M).2)]) [] := by
  have hl9 : M.rs.length ≤ 9223372036854775807 := by unfold maxLen at hl; omega
  have hvl9 : V.length ≤ 9223372036854775807 := by have := ok.l2; unfold maxLen at this; omega
  refine acalls_of tbOk (enter_of Tryd.func11 (by kernel_rfl) rfl) Tryd.func11 rfl _ Tryd.ntmps11 (Nat.le_of_ble_eq_true rfl) fun X hX => ?_
  subst hX
  unfold printM
  repeat (first | ((with_reducible refine k_assign ?_); refine m_assign rfl ?_) | ((with_reducible refine k_load ?_); refine x_load_agg tbOk rfl rfl rfl rfl (Nat.le_of_ble_eq_true rfl) ?_) | ((with_reducible refine k_box ?_); refine m_box rfl rfl rfl ?_)  | refine e_nrm ?_ | refine x_none rfl ?_ | with_reducible refine q_then ?_ | with_reducible refine awp_seq ?_ | ((with_reducible refine w_region ?_ ?_); kernel_rfl))
  refine x_call0 (fcheck_A N V M hG ok hc hl) (by repeat' (first | exact trivial | exact Ren.v _ | exact Ren.sl _ _ | exact Ren.ep _ | exact Ren.ptr _ _ _ _ rfl | exact Ren.bs _ _ _ _ _ rfl | exact Ren.nil _ | exact Ren.own _ _ _ _ ⟨_, rfl⟩ | refine ren_ag ?_ | refine ren_tu ?_ | refine ren_fn ?_ | refine ⟨?_, ?_⟩)) (by repeat' (first | exact trivial | exact RenB.v _ | exact RenB.sl _ _ | exact RenB.ep _ | exact RenB.ptr _ _ _ _ rfl | refine renb_ag ?_ | refine renb_tu ?_ | refine ⟨?_, ?_⟩)) ?_
  repeat (first | ((with_reducible refine k_move ?_); refine m_move rfl ?_) | ((with_reducible refine k_assign ?_); refine m_assign rfl ?_) | ((with_reducible refine k_bin ?_); refine m_binI rfl rfl rfl ?_)  | refine e_nrm ?_ | refine x_none rfl ?_ | with_reducible refine q_then ?_ | with_reducible refine awp_seq ?_ | ((with_reducible refine w_region ?_ ?_); kernel_rfl))
  refine w_cond rfl (fun h => ?_) (fun h => ?_)
  · rw [if_pos (by simpa using h)]
    repeat (first | ((with_reducible refine k_move ?_); refine m_move rfl ?_) | ((with_reducible refine k_assign ?_); refine m_assign rfl ?_)  | refine e_nrm ?_ | refine x_none rfl ?_ | with_reducible refine q_then ?_ | with_reducible refine q_then_ret ?_ | with_reducible refine awp_seq ?_ | with_reducible refine awp_ret ?_ | ((with_reducible refine w_region ?_ ?_); kernel_rfl))
    refine ret0_2 (by first | exact .inr rfl | exact .inl rfl) rfl rfl rfl ?_
    repeat' (first | exact trivial | exact Ren.v _ | exact Ren.sl _ _ | exact Ren.ep _ | exact Ren.ptr _ _ _ _ rfl | exact Ren.bs _ _ _ _ _ rfl | exact Ren.nil _ | exact Ren.own _ _ _ _ ⟨_, rfl⟩ | refine ren_ag ?_ | refine ren_tu ?_ | refine ren_fn ?_ | refine ⟨?_, ?_⟩)
  have h0 : msgE N V M = 0 := by simpa using h
  rw [if_neg (by simp [h0])]
  obtain ⟨hn, mo⟩ := msgE_iff.1 h0
  have hps := (print_parse mo.t).2.2.2
  repeat (first | ((with_reducible refine k_fieldAddr ?_); refine x_fieldAddr_ptr tbOk rfl rfl rfl rfl ?_) | ((with_reducible refine k_load ?_); refine x_load_one tbOk rfl rfl rfl rfl rfl ?_)  | refine x_none rfl ?_ | with_reducible refine q_then ?_ | with_reducible refine awp_seq ?_ | with_reducible refine awp_skip ?_ | ((with_reducible refine w_region ?_ ?_); kernel_rfl))
  refine x_call0 (print_A M.t hP) (by repeat' (first | exact trivial | exact Ren.v _ | exact Ren.sl _ _ | exact Ren.ep _ | exact Ren.ptr _ _ _ _ rfl | exact Ren.bs _ _ _ _ _ rfl | exact Ren.nil _ | exact Ren.own _ _ _ _ ⟨_, rfl⟩ | refine ren_ag ?_ | refine ren_tu ?_ | refine ren_fn ?_ | refine ⟨?_, ?_⟩)) (by repeat' (first | exact trivial | exact RenB.v _ | exact RenB.sl _ _ | exact RenB.ep _ | exact RenB.ptr _ _ _ _ rfl | refine renb_ag ?_ | refine renb_tu ?_ | refine ⟨?_, ?_⟩)) ?_
  repeat (first | ((with_reducible refine k_move ?_); refine m_move rfl ?_) | ((with_reducible refine k_assign ?_); refine m_assign rfl ?_) | ((with_reducible refine k_fieldAddr ?_); refine x_fieldAddr_ptr tbOk rfl rfl rfl rfl ?_) | ((with_reducible refine k_load ?_); refine x_load_one tbOk rfl rfl rfl rfl rfl ?_) | ((with_reducible refine k_extract ?_); refine x_extract rfl rfl ?_)  | refine e_nrm ?_ | refine x_none rfl ?_ | with_reducible refine q_then ?_ | with_reducible refine awp_seq ?_ | ((with_reducible refine w_region ?_ ?_); kernel_rfl))
  with_reducible refine k_bin ?_
  refine x_add_s rfl rfl (by show (printP M.t).size + 1 ≤ _; omega) ?_
  repeat (first  | refine x_none rfl ?_  )
  (with_reducible refine k_buildSlice ?_)
  refine x_buildSlice_own tbOk rfl rfl rfl rfl rfl (by omega) rfl rfl rfl rfl ?_
  repeat (first | ((with_reducible refine k_move ?_); refine m_move rfl ?_) | ((with_reducible refine k_assign ?_); refine m_assign rfl ?_) | ((with_reducible refine k_fieldAddr ?_); refine x_fieldAddr_ptr tbOk rfl rfl rfl rfl ?_) | ((with_reducible refine k_load ?_); refine x_load_one tbOk rfl rfl rfl rfl rfl ?_) | ((with_reducible refine k_call ?_); refine x_len tbOk rfl rfl ?_)  | refine e_nrm ?_ | refine x_none rfl ?_ | with_reducible refine q_then ?_ | with_reducible refine awp_seq ?_ | with_reducible refine awp_block ?_ | ((with_reducible refine w_region ?_ ?_); kernel_rfl))
  refine awp_reown (t := 9) (s := 30) (d := 54) rfl rfl rfl (by decide) ?_
  refine awp_loop (ι := Nat) (fun k => k ≤ M.rs.length) (fun k => M.rs.length - k) (fun v k => [(2, .ptr 2 (v 2) 0), (9, .own 54 (v 54)), (32, .sl 5 (M.rs.map Rp.av)), (33, .v (.int .i64 (M.rs.map Rp.av).length)), (34, .v (.int .i64 (k : Nat)))]) (fun v k => [(2, .box [.sl 3 (N.map Nd.av), .sl 5 (V.map Dv.av)]), (54, .buf 9 1 ((headW M.cr M.t ++ (M.rs.take k).flatMap (repW V)).map svL))]) ?_ ?_
  · refine ⟨0, Nat.zero_le _, trivial, ⟨rfl, rfl, rfl, rfl, rfl, trivial⟩, ⟨rfl, hc_buf ?_, trivial⟩⟩
    have e : svL ((printP M.t).data.toList ++ [58]) = .v (.string (printP M.t ++ (⟨#[58]⟩ : ByteArray))) := by
      unfold svL
      refine congrArg (fun s => AV.v (.string s)) (ba_ext2 ?_)
      simp [strL]
    simp only [headW, List.take_zero, List.flatMap_nil, List.append_nil, List.map_cons, List.map_nil, e]
    rfl
  rintro v k hk
  repeat (first | ((with_reducible refine k_bin ?_); refine m_binI rfl rfl rfl ?_)  | refine e_nrm ?_ | refine x_none rfl ?_ | with_reducible refine q_then ?_ | with_reducible refine awp_seq ?_ | ((with_reducible refine w_region ?_ ?_); kernel_rfl))
  refine w_cond rfl (fun h => ?_) (fun h => ?_)
  · have hlt : k < M.rs.length := by simpa using h
    obtain ⟨r, hr⟩ := some_at hlt
    have hy := rp_at hr
    obtain ⟨d1, d2, d3, d4⟩ := mo.rs r (List.mem_of_getElem? hr)
    obtain ⟨x, hx, ex⟩ := devN_at d1
    have hz := dv_at' hx
    have hmlen : ((headW M.cr M.t ++ (M.rs.take k).flatMap (repW V)).map svL).length = 3 + 3 * k := by
      rw [List.length_map, List.length_append, flat3, List.length_take, Nat.min_eq_left (by omega)]; rfl
    have h32 := mo.l2
    have fin : ∀ (p q : List UInt8), posW r.p = p → howW r.b = q → ((headW M.cr M.t ++ (M.rs.take k).flatMap (repW V)).map svL) ++ [AV.v (.string x.n), svL p, svL q] = (headW M.cr M.t ++ (M.rs.take (k + 1)).flatMap (repW V)).map svL := fun p q e1 e2 => by
      rw [take_at hr, List.flatMap_append, ← List.append_assoc, List.map_append (l₁ := headW M.cr M.t ++ (M.rs.take k).flatMap (repW V))]
      congr 1
      rw [List.flatMap_cons, List.flatMap_nil, List.append_nil]
      unfold repW
      rw [ex, e1, e2]; rfl
    repeat (first | ((with_reducible refine k_assign ?_); refine m_assign rfl ?_) | ((with_reducible refine k_fieldAddr ?_); refine x_fieldAddr_ptr tbOk rfl rfl rfl rfl ?_) | ((with_reducible refine k_load ?_); refine x_load_one tbOk rfl rfl rfl rfl rfl ?_) | ((with_reducible refine k_load ?_); refine x_load_ep_agg tbOk rfl rfl (Nat.le_of_ble_eq_true rfl) ?_) | ((with_reducible refine k_store ?_); refine m_store tbOk rfl rfl rfl rfl rfl rfl rfl (Nat.le_of_ble_eq_true rfl) rfl ?_) | ((with_reducible refine k_alloc ?_); refine x_alloc tbOk rfl rfl ?_) | ((with_reducible refine k_indexAddr ?_); refine x_indexAddr_n tbOk rfl rfl rfl rfl (by assumption) ?_) | ((with_reducible refine k_bin ?_); refine m_binI rfl rfl rfl ?_)  | refine e_nrm ?_ | refine x_none rfl ?_ | with_reducible refine q_then ?_ | with_reducible refine awp_seq ?_ | with_reducible refine awp_block ?_ | with_reducible refine awp_skip ?_ | ((with_reducible refine w_region ?_ ?_); kernel_rfl))
    refine w_cond rfl (fun h => ?_) (fun h => ?_)
    · have hp : posW r.p = closedL := by unfold posW; rw [if_pos (by simpa using h)]
      repeat (first | ((with_reducible refine k_assign ?_); refine m_assign rfl ?_) | ((with_reducible refine k_fieldAddr ?_); refine x_fieldAddr_ptr tbOk rfl rfl rfl rfl ?_) | ((with_reducible refine k_load ?_); refine x_load_one tbOk rfl rfl rfl rfl rfl ?_)  | refine e_nrm ?_ | refine x_none rfl ?_ | with_reducible refine q_then ?_ | with_reducible refine awp_seq ?_ | ((with_reducible refine w_region ?_ ?_); kernel_rfl))
      refine w_cond rfl (fun h => ?_) (fun h => ?_)
      · have hb : howW r.b = toldL := by unfold howW; rw [if_pos h]
        repeat (first | ((with_reducible refine k_move ?_); refine m_move rfl ?_) | ((with_reducible refine k_assign ?_); refine m_assign rfl ?_) | ((with_reducible refine k_fieldAddr ?_); refine x_fieldAddr_ptr tbOk rfl rfl rfl rfl ?_) | ((with_reducible refine k_fieldAddr ?_); refine x_fieldAddr_ep tbOk rfl rfl rfl rfl ?_) | ((with_reducible refine k_load ?_); refine x_load_one tbOk rfl rfl rfl rfl rfl ?_) | ((with_reducible refine k_load ?_); refine x_load_ep_one tbOk rfl rfl rfl ?_) | ((with_reducible refine k_indexAddr ?_); refine x_indexAddr tbOk rfl rfl rfl rfl (by omega) (by assumption) ?_) | ((with_reducible refine k_buildSlice ?_); refine m_buildSlice tbOk rfl rfl rfl rfl rfl (by omega) rfl rfl rfl ?_) | refine e_nrm ?_ | refine x_none rfl ?_ | with_reducible refine q_then ?_ | ((with_reducible refine w_region ?_ ?_); kernel_rfl))
        refine x_append_own tbOk rfl rfl rfl rfl rfl (by decide) rfl rfl rfl rfl rfl (fun x hx => by simp at hx; rcases hx with rfl | rfl | rfl <;> rfl) (by rw [hmlen]; simp only [List.length_map, List.length_cons, List.length_nil]; omega) (by rw [hmlen]; simp only [List.length_map, List.length_cons, List.length_nil]; omega) ?_
        repeat (first | ((with_reducible refine k_move ?_); refine m_move rfl ?_) | ((with_reducible refine k_assign ?_); refine m_assign rfl ?_) | ((with_reducible refine k_bin ?_); refine x_add_in rfl rfl (by omega) ?_)  | refine e_nrm ?_ | refine x_none rfl ?_ | with_reducible refine q_then ?_ | with_reducible refine q_block ?_ | ((with_reducible refine w_region ?_ ?_); kernel_rfl))
        exact ⟨k + 1, by omega, by omega, ⟨rfl, rfl, rfl, rfl, rfl, trivial⟩, ⟨rfl, hc_buf (fin _ _ hp hb), trivial⟩⟩
      · have hb : howW r.b = seenL := by unfold howW; rw [if_neg (by rw [h]; decide)]
        repeat (first | ((with_reducible refine k_move ?_); refine m_move rfl ?_) | ((with_reducible refine k_fieldAddr ?_); refine x_fieldAddr_ptr tbOk rfl rfl rfl rfl ?_) | ((with_reducible refine k_fieldAddr ?_); refine x_fieldAddr_ep tbOk rfl rfl rfl rfl ?_) | ((with_reducible refine k_load ?_); refine x_load_one tbOk rfl rfl rfl rfl rfl ?_) | ((with_reducible refine k_load ?_); refine x_load_ep_one tbOk rfl rfl rfl ?_) | ((with_reducible refine k_indexAddr ?_); refine x_indexAddr tbOk rfl rfl rfl rfl (by omega) (by assumption) ?_) | ((with_reducible refine k_buildSlice ?_); refine m_buildSlice tbOk rfl rfl rfl rfl rfl (by omega) rfl rfl rfl ?_) | refine x_none rfl ?_ | with_reducible refine q_then ?_ | with_reducible refine awp_skip ?_ | ((with_reducible refine w_region ?_ ?_); kernel_rfl))
        refine x_append_own tbOk rfl rfl rfl rfl rfl (by decide) rfl rfl rfl rfl rfl (fun x hx => by simp at hx; rcases hx with rfl | rfl | rfl <;> rfl) (by rw [hmlen]; simp only [List.length_map, List.length_cons, List.length_nil]; omega) (by rw [hmlen]; simp only [List.length_map, List.length_cons, List.length_nil]; omega) ?_
        repeat (first | ((with_reducible refine k_move ?_); refine m_move rfl ?_) | ((with_reducible refine k_assign ?_); refine m_assign rfl ?_) | ((with_reducible refine k_bin ?_); refine x_add_in rfl rfl (by omega) ?_)  | refine e_nrm ?_ | refine x_none rfl ?_ | with_reducible refine q_then ?_ | with_reducible refine q_block ?_ | ((with_reducible refine w_region ?_ ?_); kernel_rfl))
        exact ⟨k + 1, by omega, by omega, ⟨rfl, rfl, rfl, rfl, rfl, trivial⟩, ⟨rfl, hc_buf (fin _ _ hp hb), trivial⟩⟩
    · have hp : posW r.p = openL := by unfold posW; rw [if_neg (by simpa using h)]
      repeat (first | ((with_reducible refine k_fieldAddr ?_); refine x_fieldAddr_ptr tbOk rfl rfl rfl rfl ?_) | ((with_reducible refine k_load ?_); refine x_load_one tbOk rfl rfl rfl rfl rfl ?_)  | refine e_nrm ?_ | refine x_none rfl ?_ | with_reducible refine q_then ?_ | with_reducible refine awp_seq ?_ | with_reducible refine awp_skip ?_ | ((with_reducible refine w_region ?_ ?_); kernel_rfl))
      refine w_cond rfl (fun h => ?_) (fun h => ?_)
      · have hb : howW r.b = toldL := by unfold howW; rw [if_pos h]
        repeat (first | ((with_reducible refine k_move ?_); refine m_move rfl ?_) | ((with_reducible refine k_assign ?_); refine m_assign rfl ?_) | ((with_reducible refine k_fieldAddr ?_); refine x_fieldAddr_ptr tbOk rfl rfl rfl rfl ?_) | ((with_reducible refine k_fieldAddr ?_); refine x_fieldAddr_ep tbOk rfl rfl rfl rfl ?_) | ((with_reducible refine k_load ?_); refine x_load_one tbOk rfl rfl rfl rfl rfl ?_) | ((with_reducible refine k_load ?_); refine x_load_ep_one tbOk rfl rfl rfl ?_) | ((with_reducible refine k_indexAddr ?_); refine x_indexAddr tbOk rfl rfl rfl rfl (by omega) (by assumption) ?_) | ((with_reducible refine k_buildSlice ?_); refine m_buildSlice tbOk rfl rfl rfl rfl rfl (by omega) rfl rfl rfl ?_) | refine e_nrm ?_ | refine x_none rfl ?_ | with_reducible refine q_then ?_ | ((with_reducible refine w_region ?_ ?_); kernel_rfl))
        refine x_append_own tbOk rfl rfl rfl rfl rfl (by decide) rfl rfl rfl rfl rfl (fun x hx => by simp at hx; rcases hx with rfl | rfl | rfl <;> rfl) (by rw [hmlen]; simp only [List.length_map, List.length_cons, List.length_nil]; omega) (by rw [hmlen]; simp only [List.length_map, List.length_cons, List.length_nil]; omega) ?_
        repeat (first | ((with_reducible refine k_move ?_); refine m_move rfl ?_) | ((with_reducible refine k_assign ?_); refine m_assign rfl ?_) | ((with_reducible refine k_bin ?_); refine x_add_in rfl rfl (by omega) ?_)  | refine e_nrm ?_ | refine x_none rfl ?_ | with_reducible refine q_then ?_ | with_reducible refine q_block ?_ | ((with_reducible refine w_region ?_ ?_); kernel_rfl))
        exact ⟨k + 1, by omega, by omega, ⟨rfl, rfl, rfl, rfl, rfl, trivial⟩, ⟨rfl, hc_buf (fin _ _ hp hb), trivial⟩⟩
      · have hb : howW r.b = seenL := by unfold howW; rw [if_neg (by rw [h]; decide)]
        repeat (first | ((with_reducible refine k_move ?_); refine m_move rfl ?_) | ((with_reducible refine k_fieldAddr ?_); refine x_fieldAddr_ptr tbOk rfl rfl rfl rfl ?_) | ((with_reducible refine k_fieldAddr ?_); refine x_fieldAddr_ep tbOk rfl rfl rfl rfl ?_) | ((with_reducible refine k_load ?_); refine x_load_one tbOk rfl rfl rfl rfl rfl ?_) | ((with_reducible refine k_load ?_); refine x_load_ep_one tbOk rfl rfl rfl ?_) | ((with_reducible refine k_indexAddr ?_); refine x_indexAddr tbOk rfl rfl rfl rfl (by omega) (by assumption) ?_) | ((with_reducible refine k_buildSlice ?_); refine m_buildSlice tbOk rfl rfl rfl rfl rfl (by omega) rfl rfl rfl ?_) | refine x_none rfl ?_ | with_reducible refine q_then ?_ | with_reducible refine awp_skip ?_ | ((with_reducible refine w_region ?_ ?_); kernel_rfl))
        refine x_append_own tbOk rfl rfl rfl rfl rfl (by decide) rfl rfl rfl rfl rfl (fun x hx => by simp at hx; rcases hx with rfl | rfl | rfl <;> rfl) (by rw [hmlen]; simp only [List.length_map, List.length_cons, List.length_nil]; omega) (by rw [hmlen]; simp only [List.length_map, List.length_cons, List.length_nil]; omega) ?_
        repeat (first | ((with_reducible refine k_move ?_); refine m_move rfl ?_) | ((with_reducible refine k_assign ?_); refine m_assign rfl ?_) | ((with_reducible refine k_bin ?_); refine x_add_in rfl rfl (by omega) ?_)  | refine e_nrm ?_ | refine x_none rfl ?_ | with_reducible refine q_then ?_ | with_reducible refine q_block ?_ | ((with_reducible refine w_region ?_ ?_); kernel_rfl))
        exact ⟨k + 1, by omega, by omega, ⟨rfl, rfl, rfl, rfl, rfl, trivial⟩, ⟨rfl, hc_buf (fin _ _ hp hb), trivial⟩⟩
  have hge : k = M.rs.length := by simp at h; omega
  have hJ := msg_len hn mo
  have hWl : (msgW V M).length = 3 + 3 * M.rs.length := by unfold msgW headW; rw [List.length_append, flat3]; rfl
  have h32 := mo.l2
  rw [hge, List.take_length]
  refine awp_freeze (t := 9) (s := 54) rfl rfl ?_
  repeat (first | ((with_reducible refine k_move ?_); refine m_move rfl ?_)  | refine x_none rfl ?_ | with_reducible refine q_then ?_ | with_reducible refine q_then_exit ?_ | with_reducible refine awp_seq ?_ | with_reducible refine awp_exit ?_ | ((with_reducible refine q_block_exit ?_ ?_); rfl) | ((with_reducible refine w_region ?_ ?_); kernel_rfl))
  refine x_call0 (jn_A (msgW V M) (by omega) (by omega)) (by repeat' (first | exact trivial | exact Ren.v _ | exact Ren.sl _ _ | exact Ren.ep _ | exact Ren.ptr _ _ _ _ rfl | exact Ren.bs _ _ _ _ _ rfl | exact Ren.nil _ | exact Ren.own _ _ _ _ ⟨_, rfl⟩ | refine ren_ag ?_ | refine ren_tu ?_ | refine ren_fn ?_ | refine ⟨?_, ?_⟩)) (by repeat' (first | exact trivial | exact RenB.v _ | exact RenB.sl _ _ | exact RenB.ep _ | exact RenB.ptr _ _ _ _ rfl | refine renb_ag ?_ | refine renb_tu ?_ | refine ⟨?_, ?_⟩)) ?_
  repeat (first | ((with_reducible refine k_assign ?_); refine m_assign rfl ?_)  | refine e_nrm ?_ | refine x_none rfl ?_ | with_reducible refine q_then ?_ | with_reducible refine awp_ret ?_ )
  refine ret0_2 (by first | exact .inr rfl | exact .inl rfl) rfl rfl rfl ?_
  repeat' (first | exact trivial | exact Ren.v _ | exact Ren.sl _ _ | exact Ren.ep _ | exact Ren.ptr _ _ _ _ rfl | exact Ren.bs _ _ _ _ _ rfl | exact Ren.nil _ | exact Ren.own _ _ _ _ ⟨_, rfl⟩ | refine ren_ag ?_ | refine ren_tu ?_ | refine ren_fn ?_ | refine ⟨?_, ?_⟩)
set_option maxHeartbeats 4000000 in
theorem frprint_A (N : List Nd) (V : List Dv) (M : Ms) (hG : GCls G) (hP : GPow G) (ok : NwOk N V) (hc : M.cr.size ≤ maxLen) (hl : M.rs.length ≤ maxLen) : ACalls Tryd.prog G 18 [nwAV N V, M.av] [] (.tu [.v (.string (printM N V M).1), .v (.int .i64 (printM N V M).2)]) [] := by
  have hl9 : M.rs.length ≤ 9223372036854775807 := by unfold maxLen at hl; omega
  have hvl9 : V.length ≤ 9223372036854775807 := by have := ok.l2; unfold maxLen at this; omega
  refine acalls_of tbOk (enter_of Tryd.func18 (by kernel_rfl) rfl) Tryd.func18 rfl _ Tryd.ntmps18 (Nat.le_of_ble_eq_true rfl) fun X hX => ?_
  subst hX
  unfold printM
  repeat (first | ((with_reducible refine k_assign ?_); refine m_assign rfl ?_) | ((with_reducible refine k_load ?_); refine x_load_agg tbOk rfl rfl rfl rfl (Nat.le_of_ble_eq_true rfl) ?_) | ((with_reducible refine k_box ?_); refine m_box rfl rfl rfl ?_)  | refine e_nrm ?_ | refine x_none rfl ?_ | with_reducible refine q_then ?_ | with_reducible refine awp_seq ?_ | ((with_reducible refine w_region ?_ ?_); kernel_rfl))
  refine x_call0 (frcheck_A N V M hG ok hc hl) (by repeat' (first | exact trivial | exact Ren.v _ | exact Ren.sl _ _ | exact Ren.ep _ | exact Ren.ptr _ _ _ _ rfl | exact Ren.bs _ _ _ _ _ rfl | exact Ren.nil _ | exact Ren.own _ _ _ _ ⟨_, rfl⟩ | refine ren_ag ?_ | refine ren_tu ?_ | refine ren_fn ?_ | refine ⟨?_, ?_⟩)) (by repeat' (first | exact trivial | exact RenB.v _ | exact RenB.sl _ _ | exact RenB.ep _ | exact RenB.ptr _ _ _ _ rfl | refine renb_ag ?_ | refine renb_tu ?_ | refine ⟨?_, ?_⟩)) ?_
  repeat (first | ((with_reducible refine k_move ?_); refine m_move rfl ?_) | ((with_reducible refine k_assign ?_); refine m_assign rfl ?_) | ((with_reducible refine k_bin ?_); refine m_binI rfl rfl rfl ?_)  | refine e_nrm ?_ | refine x_none rfl ?_ | with_reducible refine q_then ?_ | with_reducible refine awp_seq ?_ | ((with_reducible refine w_region ?_ ?_); kernel_rfl))
  refine w_cond rfl (fun h => ?_) (fun h => ?_)
  · rw [if_pos (by simpa using h)]
    repeat (first | ((with_reducible refine k_move ?_); refine m_move rfl ?_) | ((with_reducible refine k_assign ?_); refine m_assign rfl ?_)  | refine e_nrm ?_ | refine x_none rfl ?_ | with_reducible refine q_then ?_ | with_reducible refine q_then_ret ?_ | with_reducible refine awp_seq ?_ | with_reducible refine awp_ret ?_ | ((with_reducible refine w_region ?_ ?_); kernel_rfl))
    refine ret0_2 (by first | exact .inr rfl | exact .inl rfl) rfl rfl rfl ?_
    repeat' (first | exact trivial | exact Ren.v _ | exact Ren.sl _ _ | exact Ren.ep _ | exact Ren.ptr _ _ _ _ rfl | exact Ren.bs _ _ _ _ _ rfl | exact Ren.nil _ | exact Ren.own _ _ _ _ ⟨_, rfl⟩ | refine ren_ag ?_ | refine ren_tu ?_ | refine ren_fn ?_ | refine ⟨?_, ?_⟩)
  have h0 : msgE N V M = 0 := by simpa using h
  rw [if_neg (by simp [h0])]
  obtain ⟨hn, mo⟩ := msgE_iff.1 h0
  have hps := (print_parse mo.t).2.2.2
  have hcs := (name_sp mo.cr).2.2
  rw [← nsz] at hcs
  repeat (first | ((with_reducible refine k_fieldAddr ?_); refine x_fieldAddr_ptr tbOk rfl rfl rfl rfl ?_) | ((with_reducible refine k_load ?_); refine x_load_one tbOk rfl rfl rfl rfl rfl ?_)  | refine x_none rfl ?_ | with_reducible refine q_then ?_ | with_reducible refine awp_seq ?_ | with_reducible refine awp_skip ?_ | ((with_reducible refine w_region ?_ ?_); kernel_rfl))
  refine x_call0 (rprint_A M.t hP) (by repeat' (first | exact trivial | exact Ren.v _ | exact Ren.sl _ _ | exact Ren.ep _ | exact Ren.ptr _ _ _ _ rfl | exact Ren.bs _ _ _ _ _ rfl | exact Ren.nil _ | exact Ren.own _ _ _ _ ⟨_, rfl⟩ | refine ren_ag ?_ | refine ren_tu ?_ | refine ren_fn ?_ | refine ⟨?_, ?_⟩)) (by repeat' (first | exact trivial | exact RenB.v _ | exact RenB.sl _ _ | exact RenB.ep _ | exact RenB.ptr _ _ _ _ rfl | refine renb_ag ?_ | refine renb_tu ?_ | refine ⟨?_, ?_⟩)) ?_
  repeat (first | ((with_reducible refine k_move ?_); refine m_move rfl ?_) | ((with_reducible refine k_assign ?_); refine m_assign rfl ?_) | ((with_reducible refine k_fieldAddr ?_); refine x_fieldAddr_ptr tbOk rfl rfl rfl rfl ?_) | ((with_reducible refine k_load ?_); refine x_load_one tbOk rfl rfl rfl rfl rfl ?_) | ((with_reducible refine k_extract ?_); refine x_extract rfl rfl ?_)  | refine e_nrm ?_ | refine x_none rfl ?_ | with_reducible refine q_then ?_ | with_reducible refine awp_seq ?_ | ((with_reducible refine w_region ?_ ?_); kernel_rfl))
  with_reducible refine k_bin ?_
  refine x_add_s rfl rfl (by show M.cr.size + 4 ≤ _; omega) ?_
  repeat (first | ((with_reducible refine k_move ?_); refine m_move rfl ?_)  | refine x_none rfl ?_  )
  with_reducible refine k_bin ?_
  refine x_add_s rfl rfl (by rw [ByteArray.size_append]; show M.cr.size + 4 + (printP M.t).size ≤ _; omega) ?_
  repeat (first   | refine x_none rfl ?_  )
  with_reducible refine k_bin ?_
  refine x_add_s rfl rfl (by rw [ByteArray.size_append, ByteArray.size_append]; show M.cr.size + 4 + (printP M.t).size + 1 ≤ _; omega) ?_
  repeat (first | ((with_reducible refine k_assign ?_); refine m_assign rfl ?_)  | refine e_nrm ?_ | refine x_none rfl ?_ | with_reducible refine q_then ?_ | with_reducible refine awp_seq ?_ | with_reducible refine awp_block ?_ | ((with_reducible refine w_region ?_ ?_); kernel_rfl))
  refine awp_loop (ι := Nat) (fun k => k ≤ M.rs.length) (fun k => M.rs.length - k) (fun v k => [(2, .ptr 2 (v 2) 0), (3, .ptr 3 (v 3) 0), (9, .v (.string (strL (joinW (headW M.cr M.t ++ (M.rs.take k).flatMap (repW V)))))), (10, .v (.int .i64 (k : Nat)))]) (fun v k => [(2, .box [.sl 3 (N.map Nd.av), .sl 5 (V.map Dv.av)]), (3, .box [.v (.string M.cr), .v (.int .i64 M.t), .sl 5 (M.rs.map Rp.av)])]) ?_ ?_
  · refine ⟨0, Nat.zero_le _, trivial, ⟨rfl, rfl, congrArg (fun s => AV.v (.string s)) ?_, rfl, trivial⟩, ⟨rfl, rfl, trivial⟩⟩
    rw [List.take_zero, List.flatMap_nil, List.append_nil, head_join]
  rintro v k hk
  repeat (first | ((with_reducible refine k_move ?_); refine m_move rfl ?_) | ((with_reducible refine k_fieldAddr ?_); refine x_fieldAddr_ptr tbOk rfl rfl rfl rfl ?_) | ((with_reducible refine k_load ?_); refine x_load_one tbOk rfl rfl rfl rfl rfl ?_) | ((with_reducible refine k_call ?_); refine x_len tbOk rfl rfl ?_) | ((with_reducible refine k_bin ?_); refine m_binI rfl rfl rfl ?_)  | refine e_nrm ?_ | refine x_none rfl ?_ | with_reducible refine q_then ?_ | with_reducible refine awp_seq ?_ | ((with_reducible refine w_region ?_ ?_); kernel_rfl))
  refine w_cond rfl (fun h => ?_) (fun h => ?_)
  · have hlt : k < M.rs.length := by simpa using h
    obtain ⟨r, hr⟩ := some_at hlt
    have hy := rp_at hr
    obtain ⟨d1, d2, d3, d4⟩ := mo.rs r (List.mem_of_getElem? hr)
    obtain ⟨x, hx, ex⟩ := devN_at d1
    have hz := dv_at' hx
    have hxs := (name_sp ((net_names hn).1 x (List.mem_of_getElem? hx))).2.2
    rw [← nsz] at hxs
    have hpl := pre_len hn mo k
    rw [← strL_size] at hpl
    have fin : ∀ (p q : List UInt8), posW r.p = p → howW r.b = q → ((strL (joinW (headW M.cr M.t ++ (M.rs.take k).flatMap (repW V))) ++ ((⟨#[32]⟩ : ByteArray) ++ x.n)) ++ strL (32 :: p)) ++ strL (32 :: q) = strL (joinW (headW M.cr M.t ++ (M.rs.take (k + 1)).flatMap (repW V))) := fun p q e1 e2 => by
      rw [take_at hr, List.flatMap_append, ← List.append_assoc, List.flatMap_cons, List.flatMap_nil, List.append_nil]
      unfold repW
      rw [ex, e1, e2, join3 (head_ne _ _ _)]; rfl
    obtain ⟨S, hS⟩ : ∃ S, S = strL (joinW (headW M.cr M.t ++ (M.rs.take k).flatMap (repW V))) := ⟨_, rfl⟩
    rw [← hS] at hpl fin ⊢
    repeat (first | ((with_reducible refine k_move ?_); refine m_move rfl ?_) | ((with_reducible refine k_fieldAddr ?_); refine x_fieldAddr_ptr tbOk rfl rfl rfl rfl ?_) | ((with_reducible refine k_fieldAddr ?_); refine x_fieldAddr_ep tbOk rfl rfl rfl rfl ?_) | ((with_reducible refine k_load ?_); refine x_load_one tbOk rfl rfl rfl rfl rfl ?_) | ((with_reducible refine k_load ?_); refine x_load_ep_one tbOk rfl rfl rfl ?_) | ((with_reducible refine k_load ?_); refine x_load_ep_agg tbOk rfl rfl (Nat.le_of_ble_eq_true rfl) ?_) | ((with_reducible refine k_store ?_); refine m_store tbOk rfl rfl rfl rfl rfl rfl rfl (Nat.le_of_ble_eq_true rfl) rfl ?_) | ((with_reducible refine k_alloc ?_); refine x_alloc tbOk rfl rfl ?_) | ((with_reducible refine k_indexAddr ?_); refine x_indexAddr_n tbOk rfl rfl rfl rfl (by assumption) ?_) | ((with_reducible refine k_indexAddr ?_); refine x_indexAddr tbOk rfl rfl rfl rfl (by omega) (by assumption) ?_)  | refine e_nrm ?_ | refine x_none rfl ?_ | with_reducible refine q_then ?_ | with_reducible refine awp_seq ?_ | with_reducible refine awp_block ?_ | with_reducible refine awp_skip ?_ | ((with_reducible refine w_region ?_ ?_); kernel_rfl))
    with_reducible refine k_bin ?_
    refine x_add_s rfl rfl (by show 1 + x.n.size ≤ _; omega) ?_
    repeat (first   | refine x_none rfl ?_  )
    with_reducible refine k_bin ?_
    refine x_add_s rfl rfl (by rw [ByteArray.size_append]; show S.size + (1 + x.n.size) ≤ _; omega) ?_
    repeat (first | ((with_reducible refine k_assign ?_); refine m_assign rfl ?_) | ((with_reducible refine k_fieldAddr ?_); refine x_fieldAddr_ptr tbOk rfl rfl rfl rfl ?_) | ((with_reducible refine k_load ?_); refine x_load_one tbOk rfl rfl rfl rfl rfl ?_) | ((with_reducible refine k_bin ?_); refine m_binI rfl rfl rfl ?_)  | refine e_nrm ?_ | refine x_none rfl ?_ | with_reducible refine q_then ?_ | with_reducible refine awp_seq ?_ | ((with_reducible refine w_region ?_ ?_); kernel_rfl))
    refine w_cond rfl (fun h => ?_) (fun h => ?_)
    · have hp : posW r.p = openL := by unfold posW; rw [if_neg (fun e => by have h1 : r.p = 1 := (by simpa using h); omega)]
      repeat (first | ((with_reducible refine k_move ?_); refine m_move rfl ?_)  | refine x_none rfl ?_  | ((with_reducible refine w_region ?_ ?_); kernel_rfl))
      with_reducible refine k_bin ?_
      refine x_add_s rfl rfl (by rw [ByteArray.size_append, ByteArray.size_append]; show S.size + (1 + x.n.size) + 5 ≤ _; omega) ?_
      repeat (first | ((with_reducible refine k_assign ?_); refine m_assign rfl ?_) | ((with_reducible refine k_fieldAddr ?_); refine x_fieldAddr_ptr tbOk rfl rfl rfl rfl ?_) | ((with_reducible refine k_load ?_); refine x_load_one tbOk rfl rfl rfl rfl rfl ?_)  | refine e_nrm ?_ | refine x_none rfl ?_ | with_reducible refine q_then ?_ | with_reducible refine awp_seq ?_ | ((with_reducible refine w_region ?_ ?_); kernel_rfl))
      refine w_cond rfl (fun h => ?_) (fun h => ?_)
      · have hb : howW r.b = toldL := by unfold howW; rw [if_pos h]
        repeat (first | ((with_reducible refine k_move ?_); refine m_move rfl ?_)  | refine x_none rfl ?_  | ((with_reducible refine w_region ?_ ?_); kernel_rfl))
        with_reducible refine k_bin ?_
        refine x_add_s rfl rfl (by rw [ByteArray.size_append, ByteArray.size_append, ByteArray.size_append]; show S.size + (1 + x.n.size) + 5 + 6 ≤ _; omega) ?_
        repeat (first | ((with_reducible refine k_move ?_); refine m_move rfl ?_) | ((with_reducible refine k_assign ?_); refine m_assign rfl ?_) | ((with_reducible refine k_bin ?_); refine x_add_in rfl rfl (by omega) ?_)  | refine e_nrm ?_ | refine x_none rfl ?_ | with_reducible refine q_then ?_ | with_reducible refine q_block ?_ | ((with_reducible refine w_region ?_ ?_); kernel_rfl))
        exact ⟨k + 1, by omega, by omega, ⟨rfl, rfl, congrArg (fun s => AV.v (.string s)) (fin _ _ hp hb), rfl, trivial⟩, ⟨rfl, rfl, trivial⟩⟩
      · have hb : howW r.b = seenL := by unfold howW; rw [if_neg (by rw [h]; decide)]
        repeat (first | ((with_reducible refine k_move ?_); refine m_move rfl ?_)  | refine x_none rfl ?_  | ((with_reducible refine w_region ?_ ?_); kernel_rfl))
        with_reducible refine k_bin ?_
        refine x_add_s rfl rfl (by rw [ByteArray.size_append, ByteArray.size_append, ByteArray.size_append]; show S.size + (1 + x.n.size) + 5 + 6 ≤ _; omega) ?_
        repeat (first | ((with_reducible refine k_move ?_); refine m_move rfl ?_) | ((with_reducible refine k_assign ?_); refine m_assign rfl ?_) | ((with_reducible refine k_bin ?_); refine x_add_in rfl rfl (by omega) ?_)  | refine e_nrm ?_ | refine x_none rfl ?_ | with_reducible refine q_then ?_ | with_reducible refine q_block ?_ | ((with_reducible refine w_region ?_ ?_); kernel_rfl))
        exact ⟨k + 1, by omega, by omega, ⟨rfl, rfl, congrArg (fun s => AV.v (.string s)) (fin _ _ hp hb), rfl, trivial⟩, ⟨rfl, rfl, trivial⟩⟩
    · have hp : posW r.p = closedL := by unfold posW; have h1 : ¬ r.p = 1 := (by simpa using h); rw [if_pos (by omega)]
      repeat (first | ((with_reducible refine k_move ?_); refine m_move rfl ?_)  | refine x_none rfl ?_  | ((with_reducible refine w_region ?_ ?_); kernel_rfl))
      with_reducible refine k_bin ?_
      refine x_add_s rfl rfl (by rw [ByteArray.size_append, ByteArray.size_append]; show S.size + (1 + x.n.size) + 7 ≤ _; omega) ?_
      repeat (first | ((with_reducible refine k_assign ?_); refine m_assign rfl ?_) | ((with_reducible refine k_fieldAddr ?_); refine x_fieldAddr_ptr tbOk rfl rfl rfl rfl ?_) | ((with_reducible refine k_load ?_); refine x_load_one tbOk rfl rfl rfl rfl rfl ?_)  | refine e_nrm ?_ | refine x_none rfl ?_ | with_reducible refine q_then ?_ | with_reducible refine awp_seq ?_ | ((with_reducible refine w_region ?_ ?_); kernel_rfl))
      refine w_cond rfl (fun h => ?_) (fun h => ?_)
      · have hb : howW r.b = toldL := by unfold howW; rw [if_pos h]
        repeat (first | ((with_reducible refine k_move ?_); refine m_move rfl ?_)  | refine x_none rfl ?_  | ((with_reducible refine w_region ?_ ?_); kernel_rfl))
        with_reducible refine k_bin ?_
        refine x_add_s rfl rfl (by rw [ByteArray.size_append, ByteArray.size_append, ByteArray.size_append]; show S.size + (1 + x.n.size) + 7 + 6 ≤ _; omega) ?_
        repeat (first | ((with_reducible refine k_move ?_); refine m_move rfl ?_) | ((with_reducible refine k_assign ?_); refine m_assign rfl ?_) | ((with_reducible refine k_bin ?_); refine x_add_in rfl rfl (by omega) ?_)  | refine e_nrm ?_ | refine x_none rfl ?_ | with_reducible refine q_then ?_ | with_reducible refine q_block ?_ | ((with_reducible refine w_region ?_ ?_); kernel_rfl))
        exact ⟨k + 1, by omega, by omega, ⟨rfl, rfl, congrArg (fun s => AV.v (.string s)) (fin _ _ hp hb), rfl, trivial⟩, ⟨rfl, rfl, trivial⟩⟩
      · have hb : howW r.b = seenL := by unfold howW; rw [if_neg (by rw [h]; decide)]
        repeat (first | ((with_reducible refine k_move ?_); refine m_move rfl ?_)  | refine x_none rfl ?_  | ((with_reducible refine w_region ?_ ?_); kernel_rfl))
        with_reducible refine k_bin ?_
        refine x_add_s rfl rfl (by rw [ByteArray.size_append, ByteArray.size_append, ByteArray.size_append]; show S.size + (1 + x.n.size) + 7 + 6 ≤ _; omega) ?_
        repeat (first | ((with_reducible refine k_move ?_); refine m_move rfl ?_) | ((with_reducible refine k_assign ?_); refine m_assign rfl ?_) | ((with_reducible refine k_bin ?_); refine x_add_in rfl rfl (by omega) ?_)  | refine e_nrm ?_ | refine x_none rfl ?_ | with_reducible refine q_then ?_ | with_reducible refine q_block ?_ | ((with_reducible refine w_region ?_ ?_); kernel_rfl))
        exact ⟨k + 1, by omega, by omega, ⟨rfl, rfl, congrArg (fun s => AV.v (.string s)) (fin _ _ hp hb), rfl, trivial⟩, ⟨rfl, rfl, trivial⟩⟩
  have hge : k = M.rs.length := by simp at h; omega
  rw [hge, List.take_length]
  repeat (first | ((with_reducible refine k_move ?_); refine m_move rfl ?_) | ((with_reducible refine k_assign ?_); refine m_assign rfl ?_)  | refine e_nrm ?_ | refine x_none rfl ?_ | with_reducible refine q_then ?_ | with_reducible refine q_then_exit ?_ | with_reducible refine awp_seq ?_ | with_reducible refine awp_exit ?_ | with_reducible refine awp_ret ?_ | ((with_reducible refine q_block_exit ?_ ?_); rfl) | ((with_reducible refine w_region ?_ ?_); kernel_rfl))
  refine ret0_2 (by first | exact .inr rfl | exact .inl rfl) rfl rfl rfl ?_
  repeat' (first | exact trivial | exact Ren.v _ | exact Ren.sl _ _ | exact Ren.ep _ | exact Ren.ptr _ _ _ _ rfl | exact Ren.bs _ _ _ _ _ rfl | exact Ren.nil _ | exact Ren.own _ _ _ _ ⟨_, rfl⟩ | refine ren_ag ?_ | refine ren_tu ?_ | refine ren_fn ?_ | refine ⟨?_, ?_⟩)
end Go.Proofs.YtgpglcccjkpmdaaDoor
