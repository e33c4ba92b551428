/- CertificateTable, by the abstract machine: for every list the law returns true; conditions: the tables of classes and powers stand. -/
import Derived.Test.YthhhpnbnkolgmaaDoorCeF
import Derived.Test.YthhhpnbnkolgmaaDoorCeE
import Derived.Test.YthhhpnbnkolgmaaDoorCeT
import Derived.Test.YthhhpnbnkolgmaaDoorTiQ
import Derived.Test.YthhhpnbnkolgmaaDoorTieA
set_option linter.unusedVariables false
set_option linter.unusedSimpArgs false
namespace Go.Proofs.YthhhpnbnkolgmaaDoor
open Go Go.RowKit
set_option maxRecDepth 10000
variable {G : Nat → Option (List Value)}
set_option maxRecDepth 100000 in
set_option maxHeartbeats 8000000 in
theorem table_law (l : List Int) (hG : GCls G) (hP : GPow G) : ACalls Tryd.prog G 3 [.sl 1 (l.map iv)] [] (.v (.bool true)) [] := by
  refine acalls_of tbOk (enter_of Tryd.func3 (by kernel_rfl) rfl) Tryd.func3 rfl _ Tryd.ntmps3 (Nat.le_of_ble_eq_true rfl) fun X hX => ?_
  subst hX
  repeat (first | ((with_reducible refine k_assign ?_); refine m_assign rfl ?_)  | refine e_nrm ?_ | refine x_none rfl ?_ | with_reducible refine q_then ?_ | with_reducible refine awp_seq ?_ | ((with_reducible refine w_region ?_ ?_); kernel_rfl))
  refine x_call0 (awake_A hG hP) (by repeat' (first | exact trivial | exact Ren.v _ | exact Ren.sl _ _ | exact Ren.ep _ | exact Ren.ptr _ _ _ _ rfl | exact Ren.bs _ _ _ _ _ rfl | exact Ren.nil _ | exact Ren.own _ _ _ _ ⟨_, rfl⟩ | refine ren_ag ?_ | refine ren_tu ?_ | refine ren_fn ?_ | refine ⟨?_, ?_⟩)) (by repeat' (first | exact trivial | exact RenB.v _ | exact RenB.sl _ _ | exact RenB.ep _ | exact RenB.ptr _ _ _ _ rfl | refine renb_ag ?_ | refine renb_tu ?_ | refine ⟨?_, ?_⟩)) ?_
  repeat (first | ((with_reducible refine k_move ?_); refine m_move rfl ?_) | ((with_reducible refine k_un ?_); refine x_not rfl ?_)  | refine x_none rfl ?_ | refine x_run_f rfl rfl (by first | rfl | assumption) ?_  )
  refine x_call0 (few_A (l.map iv)) (by repeat' (first | exact trivial | exact Ren.v _ | exact Ren.sl _ _ | exact Ren.ep _ | exact Ren.ptr _ _ _ _ rfl | exact Ren.bs _ _ _ _ _ rfl | exact Ren.nil _ | exact Ren.own _ _ _ _ ⟨_, rfl⟩ | refine ren_ag ?_ | refine ren_tu ?_ | refine ren_fn ?_ | refine ⟨?_, ?_⟩)) (by repeat' (first | exact trivial | exact RenB.v _ | exact RenB.sl _ _ | exact RenB.ep _ | exact RenB.ptr _ _ _ _ rfl | refine renb_ag ?_ | refine renb_tu ?_ | refine ⟨?_, ?_⟩)) ?_
  repeat (first | ((with_reducible refine k_un ?_); refine x_not rfl ?_) | ((with_reducible refine k_pick ?_); refine m_pickf rfl (by first | rfl | assumption) rfl ?_)  | refine e_nrm ?_ | refine x_none rfl ?_ | refine x_run_f rfl rfl (by first | rfl | assumption) ?_ | with_reducible refine q_then ?_ )
  refine w_cond rfl (fun h => ?_) (fun h => ?_)
  · repeat (first   | refine x_none rfl ?_ | with_reducible refine awp_seq ?_ | ((with_reducible refine w_region ?_ ?_); kernel_rfl))
    refine x_call0 (awake_A hG hP) (by repeat' (first | exact trivial | exact Ren.v _ | exact Ren.sl _ _ | exact Ren.ep _ | exact Ren.ptr _ _ _ _ rfl | exact Ren.bs _ _ _ _ _ rfl | exact Ren.nil _ | exact Ren.own _ _ _ _ ⟨_, rfl⟩ | refine ren_ag ?_ | refine ren_tu ?_ | refine ren_fn ?_ | refine ⟨?_, ?_⟩)) (by repeat' (first | exact trivial | exact RenB.v _ | exact RenB.sl _ _ | exact RenB.ep _ | exact RenB.ptr _ _ _ _ rfl | refine renb_ag ?_ | refine renb_tu ?_ | refine ⟨?_, ?_⟩)) ?_
    repeat (first | ((with_reducible refine k_assign ?_); refine m_assign rfl ?_)  | refine e_nrm ?_ | refine x_none rfl ?_ | with_reducible refine q_then ?_ | with_reducible refine q_then_ret ?_ | with_reducible refine awp_ret ?_ )
    refine ret_v (by first | exact .inr rfl | exact .inl rfl) rfl rfl ?_
    rfl
  have h400 : l.length ≤ 400 := by simp at h; omega
  have hD := DkOk.new h400
  obtain ⟨n1, n2, n3, n4⟩ := tie_names (dk0 l)
  obtain ⟨v0, v64⟩ := tie_vlen (dk0 l)
  have hT := tie_A (G := X.G) (dk0 l) hD
  have hC := cert_A (G := X.G) (tieD (dk0 l)) (tieNs (dk0 l)) (tieVs (dk0 l)) (tieD_ok hD) n1 n2 n3 v0 v64
  have hCl := (certP_ok (N := tieNs (dk0 l)) (V := tieVs (dk0 l)) (tieD_ok hD)).2
  generalize tieNs (dk0 l) = N at *
  generalize tieVs (dk0 l) = V at *
  generalize certP N V (tieD (dk0 l)) = Q at hC hCl
  obtain ⟨E, c⟩ := Q
  simp only at hC hCl
  repeat (first | ((with_reducible refine k_move ?_); refine m_move rfl ?_)  | refine x_none rfl ?_ | with_reducible refine q_then ?_ | with_reducible refine awp_seq ?_ | with_reducible refine awp_skip ?_ | ((with_reducible refine w_region ?_ ?_); kernel_rfl))
  refine x_call_new (new_A l) (by repeat' (first | exact trivial | exact Ren.v _ | exact Ren.sl _ _ | exact Ren.ep _ | exact Ren.ptr _ _ _ _ rfl | exact Ren.bs _ _ _ _ _ rfl | exact Ren.nil _ | exact Ren.own _ _ _ _ ⟨_, rfl⟩ | refine ren_ag ?_ | refine ren_tu ?_ | refine ren_fn ?_ | refine ⟨?_, ?_⟩)) (by repeat' (first | exact trivial | exact RenB.v _ | exact RenB.sl _ _ | exact RenB.ep _ | exact RenB.ptr _ _ _ _ rfl | refine renb_ag ?_ | refine renb_tu ?_ | refine ⟨?_, ?_⟩)) rfl ?_
  repeat (first | ((with_reducible refine k_move ?_); refine m_move rfl ?_) | ((with_reducible refine k_assign ?_); refine m_assign rfl ?_)  | refine e_nrm ?_ | refine x_none rfl ?_ | with_reducible refine q_then ?_ | with_reducible refine awp_seq ?_ | ((with_reducible refine w_region ?_ ?_); kernel_rfl))
  refine x_call (y := .tu [netAV N V, .sl 1 ((tieSs (dk0 l)).map iv)]) (ss := [(27, 1)]) (hT) (by repeat' (first | exact trivial | exact Ren.v _ | exact Ren.sl _ _ | exact Ren.ep _ | exact Ren.ptr _ _ _ _ rfl | exact Ren.bs _ _ _ _ _ rfl | exact Ren.nil _ | exact Ren.own _ _ _ _ ⟨_, rfl⟩ | refine ren_ag ?_ | refine ren_tu ?_ | refine ren_fn ?_ | refine ⟨?_, ?_⟩)) (by simp) (in1 rfl rfl) rfl (back1 rfl) (by repeat' (first | exact trivial | exact RenB.v _ | exact RenB.sl _ _ | exact RenB.ep _ | exact RenB.ptr _ _ _ _ rfl | refine renb_ag ?_ | refine renb_tu ?_ | refine ⟨?_, ?_⟩)) ?_
  repeat (first | ((with_reducible refine k_move ?_); refine m_move rfl ?_) | ((with_reducible refine k_assign ?_); refine m_assign rfl ?_) | ((with_reducible refine k_load ?_); refine x_load_agg tbOk rfl rfl rfl rfl (Nat.le_of_ble_eq_true rfl) ?_) | ((with_reducible refine k_store ?_); refine m_store tbOk rfl rfl rfl rfl rfl rfl rfl (Nat.le_of_ble_eq_true rfl) rfl ?_) | ((with_reducible refine k_alloc ?_); refine x_alloc tbOk rfl rfl ?_) | ((with_reducible refine k_extract ?_); refine x_extract rfl rfl ?_)  | refine e_nrm ?_ | refine x_none rfl ?_ | with_reducible refine q_then ?_ | with_reducible refine awp_seq ?_ | ((with_reducible refine w_region ?_ ?_); kernel_rfl))
  refine x_call (y := c.av) (ss := [(27, 1)]) (hC) (by repeat' (first | exact trivial | exact Ren.v _ | exact Ren.sl _ _ | exact Ren.ep _ | exact Ren.ptr _ _ _ _ rfl | exact Ren.bs _ _ _ _ _ rfl | exact Ren.nil _ | exact Ren.own _ _ _ _ ⟨_, rfl⟩ | refine ren_ag ?_ | refine ren_tu ?_ | refine ren_fn ?_ | refine ⟨?_, ?_⟩)) (by simp) (in1 rfl rfl) rfl (back1 rfl) (by repeat' (first | exact trivial | exact RenB.v _ | exact RenB.sl _ _ | exact RenB.ep _ | exact RenB.ptr _ _ _ _ rfl | refine renb_ag ?_ | refine renb_tu ?_ | refine ⟨?_, ?_⟩)) ?_
  repeat (first | ((with_reducible refine k_load ?_); refine x_load_agg tbOk rfl rfl rfl rfl (Nat.le_of_ble_eq_true rfl) ?_) | ((with_reducible refine k_store ?_); refine m_store tbOk rfl rfl rfl rfl rfl rfl rfl (Nat.le_of_ble_eq_true rfl) rfl ?_) | ((with_reducible refine k_alloc ?_); refine x_alloc tbOk rfl rfl ?_)  | refine e_nrm ?_ | refine x_none rfl ?_ | with_reducible refine q_then ?_ | with_reducible refine awp_seq ?_ | ((with_reducible refine w_region ?_ ?_); kernel_rfl))
  refine x_call0 (ccheck_A N V c hG n1 n2 n3 n4 (by omega)) (by repeat' (first | exact trivial | exact Ren.v _ | exact Ren.sl _ _ | exact Ren.ep _ | exact Ren.ptr _ _ _ _ rfl | exact Ren.bs _ _ _ _ _ rfl | exact Ren.nil _ | exact Ren.own _ _ _ _ ⟨_, rfl⟩ | refine ren_ag ?_ | refine ren_tu ?_ | refine ren_fn ?_ | refine ⟨?_, ?_⟩)) (by repeat' (first | exact trivial | exact RenB.v _ | exact RenB.sl _ _ | exact RenB.ep _ | exact RenB.ptr _ _ _ _ rfl | refine renb_ag ?_ | refine renb_tu ?_ | refine ⟨?_, ?_⟩)) ?_
  repeat (first | ((with_reducible refine k_bin ?_); refine m_binI rfl rfl rfl ?_)  | refine e_nrm ?_ | refine x_none rfl ?_ | with_reducible refine q_then ?_ )
  refine w_cond rfl (fun h => ?_) (fun h => ?_)
  · repeat (first | ((with_reducible refine k_assign ?_); refine m_assign rfl ?_)  | refine e_nrm ?_ | refine x_none rfl ?_ | with_reducible refine q_then ?_ | with_reducible refine q_then_ret ?_ | with_reducible refine awp_seq ?_ | with_reducible refine awp_ret ?_ | ((with_reducible refine w_region ?_ ?_); kernel_rfl))
    refine ret_v (by first | exact .inr rfl | exact .inl rfl) rfl rfl ?_
    rfl
  have hok : CeOk N V c := certE_iff.1 (by simpa using h)
  repeat (first | ((with_reducible refine k_assign ?_); refine m_assign rfl ?_)  | refine e_nrm ?_ | refine x_none rfl ?_ | with_reducible refine q_then ?_ | with_reducible refine awp_seq ?_ | with_reducible refine awp_block ?_ | with_reducible refine awp_skip ?_ | ((with_reducible refine w_region ?_ ?_); kernel_rfl))
  refine awp_loop (ι := Nat) (fun i => 1 ≤ i ∧ i ≤ 6) (fun i => 6 - i) (fun v i => [(4, .ptr 4 (v 4) 0), (6, .ptr 6 (v 6) 0), (7, .v (.int .i64 (i : Nat)))]) (fun v i => [(4, .box [.sl 3 (N.map Nd.av), .sl 5 (V.map Dv.av)]), (6, .box [.v (.int .i64 c.num), .v (.int .i64 c.ask), .v (.int .i64 c.giv), .v (.int .i64 c.st), .sl 3 (c.lk.map Lk.av)])]) ?_ ?_
  · exact ⟨1, ⟨Nat.le_refl _, by omega⟩, trivial, ⟨rfl, rfl, rfl, trivial⟩, ⟨rfl, rfl, trivial⟩⟩
  rintro v i ⟨hi1, hi6⟩
  repeat (first | ((with_reducible refine k_move ?_); refine m_move rfl ?_) | ((with_reducible refine k_bin ?_); refine m_binI rfl rfl rfl ?_)  | refine e_nrm ?_ | refine x_none rfl ?_ | with_reducible refine q_then ?_ | with_reducible refine awp_seq ?_ | ((with_reducible refine w_region ?_ ?_); kernel_rfl))
  refine w_cond rfl (fun h => ?_) (fun h => ?_)
  rotate_left
  · repeat (first | ((with_reducible refine k_assign ?_); refine m_assign rfl ?_)  | refine e_nrm ?_ | refine x_none rfl ?_ | with_reducible refine q_then ?_ | with_reducible refine q_then_exit ?_ | with_reducible refine awp_seq ?_ | with_reducible refine awp_exit ?_ | with_reducible refine awp_ret ?_ | ((with_reducible refine q_block_exit ?_ ?_); rfl) | ((with_reducible refine w_region ?_ ?_); kernel_rfl))
    refine ret_v (by first | exact .inr rfl | exact .inl rfl) rfl rfl ?_
    rfl
  have hi5 : i ≤ 5 := by simp at h; omega
  repeat (first | ((with_reducible refine k_assign ?_); refine m_assign rfl ?_)  | refine e_nrm ?_ | refine x_none rfl ?_ | with_reducible refine q_then ?_ | with_reducible refine awp_seq ?_ | with_reducible refine awp_block ?_ | with_reducible refine awp_skip ?_ | ((with_reducible refine w_region ?_ ?_); kernel_rfl))
  refine awp_loop (ι := Nat) (fun j => 1 ≤ j ∧ j ≤ 6) (fun j => 6 - j) (fun v j => [(4, .ptr 4 (v 4) 0), (6, .ptr 6 (v 6) 0), (7, .v (.int .i64 (i : Nat))), (8, .v (.int .i64 (j : Nat)))]) (fun v i => [(4, .box [.sl 3 (N.map Nd.av), .sl 5 (V.map Dv.av)]), (6, .box [.v (.int .i64 c.num), .v (.int .i64 c.ask), .v (.int .i64 c.giv), .v (.int .i64 c.st), .sl 3 (c.lk.map Lk.av)])]) ?_ ?_
  · exact ⟨1, ⟨Nat.le_refl _, by omega⟩, trivial, ⟨rfl, rfl, rfl, rfl, trivial⟩, ⟨rfl, rfl, trivial⟩⟩
  clear v
  rintro v j ⟨hj1, hj6⟩
  repeat (first | ((with_reducible refine k_move ?_); refine m_move rfl ?_) | ((with_reducible refine k_bin ?_); refine m_binI rfl rfl rfl ?_)  | refine e_nrm ?_ | refine x_none rfl ?_ | with_reducible refine q_then ?_ | with_reducible refine awp_seq ?_ | ((with_reducible refine w_region ?_ ?_); kernel_rfl))
  refine w_cond rfl (fun h => ?_) (fun h => ?_)
  rotate_left
  · repeat (first | ((with_reducible refine k_move ?_); refine m_move rfl ?_) | ((with_reducible refine k_assign ?_); refine m_assign rfl ?_) | ((with_reducible refine k_bin ?_); refine x_add_in rfl rfl (by omega) ?_)  | refine e_nrm ?_ | refine x_none rfl ?_ | with_reducible refine q_then ?_ | with_reducible refine q_then_exit ?_ | with_reducible refine q_block ?_ | with_reducible refine awp_exit ?_ | ((with_reducible refine q_block_exit ?_ ?_); rfl) | ((with_reducible refine w_region ?_ ?_); kernel_rfl))
    exact ⟨i + 1, ⟨by omega, by omega⟩, by omega, ⟨rfl, rfl, rfl, trivial⟩, ⟨rfl, rfl, trivial⟩⟩
  have hj5 : j ≤ 5 := by simp at h; omega
  repeat (first | ((with_reducible refine k_move ?_); refine m_move rfl ?_) | ((with_reducible refine k_fieldAddr ?_); refine x_fieldAddr_ptr tbOk rfl rfl rfl rfl ?_) | ((with_reducible refine k_load ?_); refine x_load_one tbOk rfl rfl rfl rfl rfl ?_) | ((with_reducible refine k_call ?_); refine x_len tbOk rfl rfl ?_) | ((with_reducible refine k_buildSlice ?_); refine m_buildSlice tbOk rfl rfl rfl rfl rfl (by omega) rfl rfl rfl ?_) | refine e_nrm ?_ | refine x_none rfl ?_ | with_reducible refine q_then ?_ | with_reducible refine awp_seq ?_ | with_reducible refine awp_block ?_ | with_reducible refine awp_skip ?_ | ((with_reducible refine w_region ?_ ?_); kernel_rfl))
  refine awp_loop (ι := Nat) (fun k => k ≤ 2) (fun k => 2 - k) (fun v k => [(4, .ptr 4 (v 4) 0), (6, .ptr 6 (v 6) 0), (7, .v (.int .i64 (i : Nat))), (8, .v (.int .i64 (j : Nat))), (52, .sl 1 [.v (.int .i64 c.ask), .v (.int .i64 c.giv)]), (53, .v (.int .i64 2)), (54, .v (.int .i64 (k : Nat)))]) (fun v i => [(4, .box [.sl 3 (N.map Nd.av), .sl 5 (V.map Dv.av)]), (6, .box [.v (.int .i64 c.num), .v (.int .i64 c.ask), .v (.int .i64 c.giv), .v (.int .i64 c.st), .sl 3 (c.lk.map Lk.av)])]) ?_ ?_
  · exact ⟨0, Nat.zero_le _, trivial, ⟨rfl, rfl, rfl, rfl, rfl, rfl, rfl, trivial⟩, ⟨rfl, rfl, trivial⟩⟩
  clear v
  rintro v k hk
  repeat (first | ((with_reducible refine k_bin ?_); refine m_binI rfl rfl rfl ?_)  | refine e_nrm ?_ | refine x_none rfl ?_ | with_reducible refine q_then ?_ | with_reducible refine awp_seq ?_ | ((with_reducible refine w_region ?_ ?_); kernel_rfl))
  refine w_cond rfl (fun h => ?_) (fun h => ?_)
  rotate_left
  · repeat (first | ((with_reducible refine k_move ?_); refine m_move rfl ?_) | ((with_reducible refine k_assign ?_); refine m_assign rfl ?_) | ((with_reducible refine k_bin ?_); refine x_add_in rfl rfl (by omega) ?_)  | refine e_nrm ?_ | refine x_none rfl ?_ | with_reducible refine q_then ?_ | with_reducible refine q_then_exit ?_ | with_reducible refine q_block ?_ | with_reducible refine awp_exit ?_ | ((with_reducible refine q_block_exit ?_ ?_); rfl) | ((with_reducible refine w_region ?_ ?_); kernel_rfl))
    exact ⟨j + 1, ⟨by omega, by omega⟩, by omega, ⟨rfl, rfl, rfl, rfl, trivial⟩, ⟨rfl, rfl, trivial⟩⟩
  have hk1 : k < 2 := by simp at h; omega
  obtain ⟨q, hq⟩ : ∃ q, ([.v (.int .i64 c.ask), .v (.int .i64 c.giv)] : List AV)[k]? = some (.v (.int .i64 q)) := by
    obtain rfl | rfl : k = 0 ∨ k = 1 := by omega
    · exact ⟨_, rfl⟩
    · exact ⟨_, rfl⟩
  have s1 : CeMax [stC c i] := fun x hx => by simp at hx; subst hx; show c.lk.length ≤ 900; omega
  have s0 : CeMax [] := fun x hx => by cases hx
  have hH := hear_A (G := X.G) N V [stC c i] q (stC c j) hG n1 n2 n3 n4 s1 (by show c.lk.length ≤ 900; omega) (by simp)
  have hH2 := hear_A (G := X.G) N V [] q (stC c j) hG n1 n2 n3 n4 s0 (by show c.lk.length ≤ 900; omega) (by simp)
  obtain ⟨t1, t2, t3⟩ := hear_tab hok i j q ⟨by omega, by omega⟩ ⟨by omega, by omega⟩
  obtain ⟨u1, u2⟩ := hear_nil hok j q ⟨by omega, by omega⟩
  generalize hearC N V [stC c i] q (stC c j) = R at hH t1 t2 t3
  generalize hearC N V [] q (stC c j) = R2 at hH2 u1 u2
  obtain ⟨Y, e⟩ := R
  obtain ⟨Y2, e2⟩ := R2
  simp only at hH t1 t2 t3 hH2 u1 u2
  have hwB : wantB c i j q = ((q == c.ask) && ((((i : Nat) : Int) == 1) && (((j : Nat) : Int) == 2) || (((i : Nat) : Int) == 4) && (((j : Nat) : Int) == 5)) || (q == c.giv) && (((i : Nat) : Int) == 2) && (((j : Nat) : Int) == 4)) := rfl
  generalize wantB c i j q = W at t1 t2 t3 hwB
  repeat (first | ((with_reducible refine k_move ?_); refine m_move rfl ?_) | ((with_reducible refine k_assign ?_); refine m_assign rfl ?_) | ((with_reducible refine k_fieldAddr ?_); refine x_fieldAddr_ptr tbOk rfl rfl rfl rfl ?_) | ((with_reducible refine k_load ?_); refine x_load_agg tbOk rfl rfl rfl rfl (Nat.le_of_ble_eq_true rfl) ?_) | ((with_reducible refine k_load ?_); refine x_load_ep_one tbOk rfl rfl rfl ?_) | ((with_reducible refine k_store ?_); refine m_store tbOk rfl rfl rfl rfl rfl rfl rfl (Nat.le_of_ble_eq_true rfl) rfl ?_) | ((with_reducible refine k_alloc ?_); refine x_alloc tbOk rfl rfl ?_) | ((with_reducible refine k_indexAddr ?_); refine x_indexAddr_n tbOk rfl rfl rfl rfl (by assumption) ?_) | ((with_reducible refine k_buildSlice ?_); refine m_buildSlice tbOk rfl rfl rfl rfl rfl (by omega) rfl rfl rfl ?_) | refine e_nrm ?_ | refine e_drw (by kernel_rfl) ?_ | refine x_none rfl ?_ | with_reducible refine q_then ?_ | with_reducible refine awp_seq ?_ | with_reducible refine awp_block ?_ | with_reducible refine awp_skip ?_ | ((with_reducible refine w_region ?_ ?_); kernel_rfl) | ((with_reducible refine w_draw mixd ?_ ?_); kernel_rfl))
  refine x_call0 (hH) (by repeat' (first | exact trivial | exact Ren.v _ | exact Ren.sl _ _ | exact Ren.ep _ | exact Ren.ptr _ _ _ _ rfl | exact Ren.bs _ _ _ _ _ rfl | exact Ren.nil _ | exact Ren.own _ _ _ _ ⟨_, rfl⟩ | refine ren_ag ?_ | refine ren_tu ?_ | refine ren_fn ?_ | refine ⟨?_, ?_⟩)) (by repeat' (first | exact trivial | exact RenB.v _ | exact RenB.sl _ _ | exact RenB.ep _ | exact RenB.ptr _ _ _ _ rfl | refine renb_ag ?_ | refine renb_tu ?_ | refine ⟨?_, ?_⟩)) ?_
  repeat (first | ((with_reducible refine k_move ?_); refine m_move rfl ?_) | ((with_reducible refine k_assign ?_); refine m_assign rfl ?_) | ((with_reducible refine k_extract ?_); refine x_extract rfl rfl ?_)  | refine e_nrm ?_ | refine x_none rfl ?_ | with_reducible refine q_then ?_ | with_reducible refine awp_seq ?_)
  refine awp_via (ι := Unit) (fun v i => True) (fun v _ => [(4, .ptr 4 (v 4) 0), (6, .ptr 6 (v 6) 0), (7, .v (.int .i64 (i : Nat))), (8, .v (.int .i64 (j : Nat))), (10, .v (.int .i64 q)), (12, .ptr 12 (v 12) 0), (13, .sl 5 (Y.map Ce.av)), (14, .v (.int .i64 e)), (15, .v (.bool W)), (52, .sl 1 [.v (.int .i64 c.ask), .v (.int .i64 c.giv)]), (53, .v (.int .i64 2)), (54, .v (.int .i64 (k : Nat)))]) (fun v _ => [(4, .box [.sl 3 (N.map Nd.av), .sl 5 (V.map Dv.av)]), (6, .box [.v (.int .i64 c.num), .v (.int .i64 c.ask), .v (.int .i64 c.giv), .v (.int .i64 c.st), .sl 3 (c.lk.map Lk.av)]), (12, .box [.v (.int .i64 c.num), .v (.int .i64 c.ask), .v (.int .i64 c.giv), .v (.int .i64 (j : Nat)), .sl 3 (c.lk.map Lk.av)])]) ?_ ?_
  · repeat' (first | ((with_reducible refine k_move ?_); refine m_move rfl ?_) | ((with_reducible refine k_assign ?_); refine m_assign rfl ?_) | ((with_reducible refine k_fieldAddr ?_); refine x_fieldAddr_ptr tbOk rfl rfl rfl rfl ?_) | ((with_reducible refine k_load ?_); refine x_load_one tbOk rfl rfl rfl rfl rfl ?_) | ((with_reducible refine k_pick ?_); refine m_pickt rfl (by first | rfl | assumption) rfl ?_) | ((with_reducible refine k_pick ?_); refine m_pickf rfl (by first | rfl | assumption) rfl ?_) | ((with_reducible refine k_bin ?_); refine m_binI rfl rfl rfl ?_)  | refine e_nrm ?_ | refine x_none rfl ?_ | refine x_run_t rfl rfl (by first | rfl | assumption) ?_ | refine x_skip_t rfl rfl (by first | rfl | assumption) ?_ | refine x_run_f rfl rfl (by first | rfl | assumption) ?_ | refine x_skip_f rfl rfl (by first | rfl | assumption) ?_ | refine x_skip' rfl rfl rfl ?_ | with_reducible refine q_then ?_ | ((with_reducible refine w_region ?_ ?_); kernel_rfl) | refine x_split rfl rfl (fun _ => ?_) (fun _ => ?_) | refine w_cond rfl (fun _ => ?_) (fun _ => ?_))
    all_goals refine ⟨(), trivial, trivial, ⟨rfl, rfl, rfl, rfl, rfl, rfl, rfl, rfl, ?_, rfl, rfl, rfl, trivial⟩, ⟨rfl, rfl, rfl, trivial⟩⟩
    all_goals refine congrArg (fun b => AV.v (.bool b)) ?_
    all_goals simp_all
  clear v
  rintro v - -
  repeat (first    | with_reducible refine awp_seq ?_)
  refine awp_via (ι := Unit) (fun v i => True) (fun v _ => [(4, .ptr 4 (v 4) 0), (6, .ptr 6 (v 6) 0), (7, .v (.int .i64 (i : Nat))), (8, .v (.int .i64 (j : Nat))), (10, .v (.int .i64 q)), (12, .ptr 12 (v 12) 0), (52, .sl 1 [.v (.int .i64 c.ask), .v (.int .i64 c.giv)]), (53, .v (.int .i64 2)), (54, .v (.int .i64 (k : Nat))), (141, .v (.bool false))]) (fun v _ => [(4, .box [.sl 3 (N.map Nd.av), .sl 5 (V.map Dv.av)]), (6, .box [.v (.int .i64 c.num), .v (.int .i64 c.ask), .v (.int .i64 c.giv), .v (.int .i64 c.st), .sl 3 (c.lk.map Lk.av)]), (12, .box [.v (.int .i64 c.num), .v (.int .i64 c.ask), .v (.int .i64 c.giv), .v (.int .i64 (j : Nat)), .sl 3 (c.lk.map Lk.av)])]) ?_ ?_
  · cases W with
    | false =>
      have f1 : ((e == 0) != false) = false := by rw [t1]; rfl
      repeat (first | ((with_reducible refine k_move ?_); refine m_move rfl ?_) | ((with_reducible refine k_pick ?_); refine m_pickf rfl (by first | rfl | assumption) rfl ?_) | ((with_reducible refine k_bin ?_); refine m_binI rfl rfl rfl ?_) | ((with_reducible refine k_bin ?_); refine x_neq_b (by exact Tryd.underlying4) rfl rfl ?_)  | refine e_nrm ?_ | refine x_none rfl ?_ | refine x_skip_t rfl rfl (by first | rfl | assumption) ?_ | refine x_run_f rfl rfl (by first | rfl | assumption) ?_ | refine x_skip' rfl rfl rfl ?_ | with_reducible refine q_then ?_ | ((with_reducible refine w_region ?_ ?_); kernel_rfl))
      exact ⟨(), trivial, trivial, ⟨rfl, rfl, rfl, rfl, rfl, rfl, rfl, rfl, rfl, rfl, trivial⟩, ⟨rfl, rfl, rfl, trivial⟩⟩
    | true =>
      have f1 : ((e == 0) != true) = false := by rw [t1]; rfl
      by_cases hj2 : ((j : Nat) : Int) = 2
      · have hY := t2 rfl hj2
        subst hY
        have f2 : (((j : Nat) : Int) == 2) = true := by simpa using hj2
        have f3 : (((j : Nat) : Int) != 2) = false := by simpa using hj2
        have h0 : ([stC c 3].map Ce.av)[0]? = some (stC c 3).av := rfl
        repeat (first | ((with_reducible refine k_move ?_); refine m_move rfl ?_) | ((with_reducible refine k_fieldAddr ?_); refine x_fieldAddr_ep tbOk rfl rfl rfl rfl ?_) | ((with_reducible refine k_load ?_); refine x_load_ep_one tbOk rfl rfl rfl ?_) | ((with_reducible refine k_pick ?_); refine m_pickt rfl (by first | rfl | assumption) rfl ?_) | ((with_reducible refine k_pick ?_); refine m_pickf rfl (by first | rfl | assumption) rfl ?_) | ((with_reducible refine k_indexAddr ?_); refine x_indexAddr_n tbOk rfl rfl rfl rfl (by assumption) ?_) | ((with_reducible refine k_call ?_); refine x_len tbOk rfl rfl ?_) | ((with_reducible refine k_bin ?_); refine m_binI rfl rfl rfl ?_) | ((with_reducible refine k_bin ?_); refine x_neq_b (by exact Tryd.underlying4) rfl rfl ?_)  | refine e_nrm ?_ | refine x_none rfl ?_ | refine x_run_t rfl rfl (by first | rfl | assumption) ?_ | refine x_skip_t rfl rfl (by first | rfl | assumption) ?_ | refine x_run_f rfl rfl (by first | rfl | assumption) ?_ | with_reducible refine q_then ?_ | ((with_reducible refine w_region ?_ ?_); kernel_rfl))
        exact ⟨(), trivial, trivial, ⟨rfl, rfl, rfl, rfl, rfl, rfl, rfl, rfl, rfl, rfl, trivial⟩, ⟨rfl, rfl, rfl, trivial⟩⟩
      · have hY := t3 rfl hj2
        subst hY
        have f2 : (((j : Nat) : Int) == 2) = false := by simpa using hj2
        have f3 : (((j : Nat) : Int) != 2) = true := by simpa using hj2
        repeat (first | ((with_reducible refine k_move ?_); refine m_move rfl ?_) | ((with_reducible refine k_pick ?_); refine m_pickt rfl (by first | rfl | assumption) rfl ?_) | ((with_reducible refine k_pick ?_); refine m_pickf rfl (by first | rfl | assumption) rfl ?_) | ((with_reducible refine k_call ?_); refine x_len tbOk rfl rfl ?_) | ((with_reducible refine k_bin ?_); refine m_binI rfl rfl rfl ?_) | ((with_reducible refine k_bin ?_); refine x_neq_b (by exact Tryd.underlying4) rfl rfl ?_)  | refine e_nrm ?_ | refine x_none rfl ?_ | refine x_run_t rfl rfl (by first | rfl | assumption) ?_ | refine x_skip_t rfl rfl (by first | rfl | assumption) ?_ | refine x_run_f rfl rfl (by first | rfl | assumption) ?_ | refine x_skip' rfl rfl rfl ?_ | with_reducible refine q_then ?_ | ((with_reducible refine w_region ?_ ?_); kernel_rfl))
        exact ⟨(), trivial, trivial, ⟨rfl, rfl, rfl, rfl, rfl, rfl, rfl, rfl, rfl, rfl, trivial⟩, ⟨rfl, rfl, rfl, trivial⟩⟩
  clear v
  rintro v - -
  repeat (first | ((with_reducible refine k_move ?_); refine m_move rfl ?_) | ((with_reducible refine k_load ?_); refine x_load_agg tbOk rfl rfl rfl rfl (Nat.le_of_ble_eq_true rfl) ?_)  | refine x_none rfl ?_ | with_reducible refine q_then ?_ | with_reducible refine awp_seq ?_ | with_reducible refine awp_skip ?_ | ((with_reducible refine w_region ?_ ?_); kernel_rfl) | refine w_cond_f rfl (by first | rfl | assumption) ?_)
  refine x_call0 (hH2) (by repeat' (first | exact trivial | exact Ren.v _ | exact Ren.sl _ _ | exact Ren.ep _ | exact Ren.ptr _ _ _ _ rfl | exact Ren.bs _ _ _ _ _ rfl | exact Ren.nil _ | exact Ren.own _ _ _ _ ⟨_, rfl⟩ | refine ren_ag ?_ | refine ren_tu ?_ | refine ren_fn ?_ | refine ⟨?_, ?_⟩)) (by repeat' (first | exact trivial | exact RenB.v _ | exact RenB.sl _ _ | exact RenB.ep _ | exact RenB.ptr _ _ _ _ rfl | refine renb_ag ?_ | refine renb_tu ?_ | refine ⟨?_, ?_⟩)) ?_
  repeat (first | ((with_reducible refine k_move ?_); refine m_move rfl ?_) | ((with_reducible refine k_assign ?_); refine m_assign rfl ?_) | ((with_reducible refine k_extract ?_); refine x_extract rfl rfl ?_)  | refine e_nrm ?_ | refine x_none rfl ?_ | with_reducible refine q_then ?_ | with_reducible refine awp_seq ?_)
  refine awp_via (ι := Unit) (fun v i => True) (fun v _ => [(4, .ptr 4 (v 4) 0), (6, .ptr 6 (v 6) 0), (7, .v (.int .i64 (i : Nat))), (8, .v (.int .i64 (j : Nat))), (52, .sl 1 [.v (.int .i64 c.ask), .v (.int .i64 c.giv)]), (53, .v (.int .i64 2)), (54, .v (.int .i64 (k : Nat))), (168, .v (.bool false))]) (fun v _ => [(4, .box [.sl 3 (N.map Nd.av), .sl 5 (V.map Dv.av)]), (6, .box [.v (.int .i64 c.num), .v (.int .i64 c.ask), .v (.int .i64 c.giv), .v (.int .i64 c.st), .sl 3 (c.lk.map Lk.av)])]) ?_ ?_
  · by_cases hqg : q = c.giv
    · have g1 : (q == c.giv) = true := by simpa using hqg
      by_cases hj1' : ((j : Nat) : Int) = 1
      · have g2 : (((j : Nat) : Int) == 1) = true := by simpa using hj1'
        rw [decide_eq_true hqg, decide_eq_true hj1'] at u1
        have he2 : e2 = 0 := by simpa using u1
        have f1 : ((e2 == 0) != (((j : Nat) : Int) == 1)) = false := by rw [u1, g2]; rfl
        have f2 : (e2 == 0) = true := u1
        have hl1 := u2 he2
        have f3 : (((Y2.map Ce.av).length : Int) != 1) = false := by rw [List.length_map, hl1]; rfl
        repeat (first | ((with_reducible refine k_move ?_); refine m_move rfl ?_) | ((with_reducible refine k_fieldAddr ?_); refine x_fieldAddr_ptr tbOk rfl rfl rfl rfl ?_) | ((with_reducible refine k_load ?_); refine x_load_one tbOk rfl rfl rfl rfl rfl ?_) | ((with_reducible refine k_pick ?_); refine m_pickt rfl (by first | rfl | assumption) rfl ?_) | ((with_reducible refine k_pick ?_); refine m_pickf rfl (by first | rfl | assumption) rfl ?_) | ((with_reducible refine k_call ?_); refine x_len tbOk rfl rfl ?_) | ((with_reducible refine k_bin ?_); refine m_binI rfl rfl rfl ?_) | ((with_reducible refine k_bin ?_); refine x_neq_b (by exact Tryd.underlying4) rfl rfl ?_)  | refine e_nrm ?_ | refine x_none rfl ?_ | refine x_run_t rfl rfl (by first | rfl | assumption) ?_ | refine x_run_f rfl rfl (by first | rfl | assumption) ?_ | with_reducible refine q_then ?_ | ((with_reducible refine w_region ?_ ?_); kernel_rfl))
        exact ⟨(), trivial, trivial, ⟨rfl, rfl, rfl, rfl, rfl, rfl, rfl, congrArg (fun b => AV.v (.bool b)) f3, trivial⟩, ⟨rfl, rfl, trivial⟩⟩
      · have g2 : (((j : Nat) : Int) == 1) = false := by simpa using hj1'
        rw [decide_eq_false hj1', Bool.and_false] at u1
        have f1 : ((e2 == 0) != (((j : Nat) : Int) == 1)) = false := by rw [u1, g2]; rfl
        have f2 : (e2 == 0) = false := u1
        repeat (first | ((with_reducible refine k_move ?_); refine m_move rfl ?_) | ((with_reducible refine k_fieldAddr ?_); refine x_fieldAddr_ptr tbOk rfl rfl rfl rfl ?_) | ((with_reducible refine k_load ?_); refine x_load_one tbOk rfl rfl rfl rfl rfl ?_) | ((with_reducible refine k_pick ?_); refine m_pickt rfl (by first | rfl | assumption) rfl ?_) | ((with_reducible refine k_pick ?_); refine m_pickf rfl (by first | rfl | assumption) rfl ?_) | ((with_reducible refine k_bin ?_); refine m_binI rfl rfl rfl ?_) | ((with_reducible refine k_bin ?_); refine x_neq_b (by exact Tryd.underlying4) rfl rfl ?_)  | refine e_nrm ?_ | refine x_none rfl ?_ | refine x_run_t rfl rfl (by first | rfl | assumption) ?_ | refine x_skip_t rfl rfl (by first | rfl | assumption) ?_ | refine x_run_f rfl rfl (by first | rfl | assumption) ?_ | with_reducible refine q_then ?_ | ((with_reducible refine w_region ?_ ?_); kernel_rfl))
        exact ⟨(), trivial, trivial, ⟨rfl, rfl, rfl, rfl, rfl, rfl, rfl, rfl, trivial⟩, ⟨rfl, rfl, trivial⟩⟩
    · have g1 : (q == c.giv) = false := by simpa using hqg
      rw [decide_eq_false hqg, Bool.false_and] at u1
      have f1 : ((e2 == 0) != false) = false := by rw [u1]; rfl
      have f2 : (e2 == 0) = false := u1
      repeat (first | ((with_reducible refine k_move ?_); refine m_move rfl ?_) | ((with_reducible refine k_fieldAddr ?_); refine x_fieldAddr_ptr tbOk rfl rfl rfl rfl ?_) | ((with_reducible refine k_load ?_); refine x_load_one tbOk rfl rfl rfl rfl rfl ?_) | ((with_reducible refine k_pick ?_); refine m_pickf rfl (by first | rfl | assumption) rfl ?_) | ((with_reducible refine k_bin ?_); refine m_binI rfl rfl rfl ?_) | ((with_reducible refine k_bin ?_); refine x_neq_b (by exact Tryd.underlying4) rfl rfl ?_)  | refine e_nrm ?_ | refine x_none rfl ?_ | refine x_skip_t rfl rfl (by first | rfl | assumption) ?_ | refine x_run_f rfl rfl (by first | rfl | assumption) ?_ | with_reducible refine q_then ?_ | ((with_reducible refine w_region ?_ ?_); kernel_rfl))
      exact ⟨(), trivial, trivial, ⟨rfl, rfl, rfl, rfl, rfl, rfl, rfl, rfl, trivial⟩, ⟨rfl, rfl, trivial⟩⟩
  clear v
  rintro v - -
  repeat (first | ((with_reducible refine k_move ?_); refine m_move rfl ?_) | ((with_reducible refine k_bin ?_); refine x_add_in rfl rfl (by omega) ?_)  | refine e_nrm ?_ | refine x_none rfl ?_ | with_reducible refine q_then ?_ | with_reducible refine q_block ?_ | with_reducible refine awp_skip ?_ | ((with_reducible refine w_region ?_ ?_); kernel_rfl) | refine w_cond_f rfl (by first | rfl | assumption) ?_)
  exact ⟨k + 1, by omega, by omega, ⟨rfl, rfl, rfl, rfl, rfl, rfl, rfl, trivial⟩, ⟨rfl, rfl, trivial⟩⟩
end Go.Proofs.YthhhpnbnkolgmaaDoor
