/- permitofficelaw24.awake and SafesOnce, by the abstract machine: they answer true; conditions: the table of classes stands. -/
import Derived.Test.YtlmkloghbgglkaaDoorSfQ
set_option linter.unusedVariables false
set_option linter.unusedSimpArgs false
namespace Go.Proofs.YtlmkloghbgglkaaDoor
open Go Go.RowKit
set_option maxRecDepth 10000
variable {G : Nat → Option (List Value)}


theorem hmS (L : List Sf) (h : ∀ x ∈ L, x.keys.length ≤ 16 ∧ x.locked.length ≤ 16 ∧ ∀ n ∈ x.locked, n.size ≤ 16) : ∀ x ∈ L, SfMax x := fun x hx => by
  obtain ⟨a, b, c⟩ := h x hx
  exact ⟨by omega, by omega, fun n hn => by have := c n hn; unfold maxLen; omega⟩
set_option maxRecDepth 100000 in
set_option maxHeartbeats 2000000 in
theorem sawake_A (hG : GCls G) : ACalls Tryd.prog G 8 [] [] (.v (.bool true)) [] := by
  have p1 := put_A (G := G) [⟨1, [], []⟩] 1 7 hG (hmS _ (by simp)) (by simp) (by unfold maxLen; simp)
  rw [aw1] at p1
  have p2 := fix_A (G := G) [⟨1, [7], []⟩] 1 nAda hG (hmS _ (by simp)) (by unfold maxLen; simp) (by decide)
  rw [aw2] at p2
  have p3 := take_A (G := G) [⟨1, [7], [nAda]⟩] 1 7 hG (hmS _ (by simp; decide)) (by unfold maxLen; simp)
  rw [aw3] at p3
  have p4 := in_A (G := G) [⟨1, [7], [nAda]⟩] 7 hG (hmS _ (by simp; decide)) (by unfold maxLen; simp)
  rw [aw4] at p4
  have p5 := lkd_A (G := G) [⟨1, [7], [nAda]⟩] 1 nAda hG (hmS _ (by simp; decide)) (by unfold maxLen; simp)
  rw [aw5] at p5
  refine acalls_of tbOk (enter_of Tryd.func8 (by kernel_rfl) rfl) Tryd.func8 rfl _ Tryd.ntmps8 (Nat.le_of_ble_eq_true rfl) fun X hX => ?_
  subst hX
  repeat (first | ((with_reducible refine k_assign ?_); refine m_assign rfl ?_) | refine e_nrm ?_ | refine x_none rfl ?_ | with_reducible refine q_then ?_ | with_reducible refine awp_seq ?_ | ((with_reducible refine w_region ?_ ?_); kernel_rfl))
  with_reducible refine k_build ?_; refine x_build_z tbOk (sf0 1) rfl rfl rfl rfl rfl (sf0_imp _) ?_
  repeat (first  | ((with_reducible refine k_buildSlice ?_); refine m_buildSlice tbOk rfl rfl rfl rfl rfl (by omega) rfl rfl rfl ?_) | refine x_none rfl ?_  )
  refine x_call0 (p1) (by repeat' (first | exact trivial | exact Ren.v _ | exact Ren.sl _ _ | exact Ren.ep _ | exact Ren.ptr _ _ _ _ rfl | exact Ren.nil _ | exact Ren.own _ _ _ _ ⟨_, rfl⟩ | refine ren_ag ?_ | refine ren_tu ?_ | refine ren_fn ?_ | refine ⟨?_, ?_⟩)) (by repeat' (first | exact trivial | exact RenB.v _ | exact RenB.sl _ _ | exact RenB.ep _ | exact RenB.ptr _ _ _ _ rfl | refine renb_ag ?_ | refine renb_tu ?_ | refine ⟨?_, ?_⟩)) ?_
  repeat (first | ((with_reducible refine k_move ?_); refine m_move rfl ?_) | ((with_reducible refine k_assign ?_); refine m_assign rfl ?_) | ((with_reducible refine k_extract ?_); refine x_extract rfl rfl ?_)  | refine e_nrm ?_ | refine x_none rfl ?_ | with_reducible refine q_then ?_ | with_reducible refine awp_seq ?_ | ((with_reducible refine w_region ?_ ?_); kernel_rfl))
  refine x_call0 (p2) (by repeat' (first | exact trivial | exact Ren.v _ | exact Ren.sl _ _ | exact Ren.ep _ | exact Ren.ptr _ _ _ _ rfl | exact Ren.nil _ | exact Ren.own _ _ _ _ ⟨_, rfl⟩ | refine ren_ag ?_ | refine ren_tu ?_ | refine ren_fn ?_ | refine ⟨?_, ?_⟩)) (by repeat' (first | exact trivial | exact RenB.v _ | exact RenB.sl _ _ | exact RenB.ep _ | exact RenB.ptr _ _ _ _ rfl | refine renb_ag ?_ | refine renb_tu ?_ | refine ⟨?_, ?_⟩)) ?_
  repeat (first | ((with_reducible refine k_move ?_); refine m_move rfl ?_) | ((with_reducible refine k_assign ?_); refine m_assign rfl ?_) | ((with_reducible refine k_extract ?_); refine x_extract rfl rfl ?_)  | refine e_nrm ?_ | refine x_none rfl ?_ | with_reducible refine q_then ?_ | with_reducible refine awp_seq ?_ | ((with_reducible refine w_region ?_ ?_); kernel_rfl))
  refine x_call0 (p3) (by repeat' (first | exact trivial | exact Ren.v _ | exact Ren.sl _ _ | exact Ren.ep _ | exact Ren.ptr _ _ _ _ rfl | exact Ren.nil _ | exact Ren.own _ _ _ _ ⟨_, rfl⟩ | refine ren_ag ?_ | refine ren_tu ?_ | refine ren_fn ?_ | refine ⟨?_, ?_⟩)) (by repeat' (first | exact trivial | exact RenB.v _ | exact RenB.sl _ _ | exact RenB.ep _ | exact RenB.ptr _ _ _ _ rfl | refine renb_ag ?_ | refine renb_tu ?_ | refine ⟨?_, ?_⟩)) ?_
  repeat (first | ((with_reducible refine k_move ?_); refine m_move rfl ?_) | ((with_reducible refine k_assign ?_); refine m_assign rfl ?_) | ((with_reducible refine k_extract ?_); refine x_extract rfl rfl ?_) | ((with_reducible refine k_pick ?_); refine m_pickt rfl (by first | rfl | assumption) rfl ?_) | ((with_reducible refine k_bin ?_); refine m_binI rfl rfl rfl ?_)  | refine e_nrm ?_ | refine x_none rfl ?_ | refine x_run_t rfl rfl (by first | rfl | assumption) ?_ | with_reducible refine q_then ?_ | with_reducible refine awp_seq ?_ | ((with_reducible refine w_region ?_ ?_); kernel_rfl))
  refine x_call0 (p4) (by repeat' (first | exact trivial | exact Ren.v _ | exact Ren.sl _ _ | exact Ren.ep _ | exact Ren.ptr _ _ _ _ rfl | exact Ren.nil _ | exact Ren.own _ _ _ _ ⟨_, rfl⟩ | refine ren_ag ?_ | refine ren_tu ?_ | refine ren_fn ?_ | refine ⟨?_, ?_⟩)) (by repeat' (first | exact trivial | exact RenB.v _ | exact RenB.sl _ _ | exact RenB.ep _ | exact RenB.ptr _ _ _ _ rfl | refine renb_ag ?_ | refine renb_tu ?_ | refine ⟨?_, ?_⟩)) ?_
  repeat (first | ((with_reducible refine k_move ?_); refine m_move rfl ?_) | ((with_reducible refine k_pick ?_); refine m_pickt rfl (by first | rfl | assumption) rfl ?_) | ((with_reducible refine k_bin ?_); refine m_binI rfl rfl rfl ?_)  | refine x_none rfl ?_ | refine x_run_t rfl rfl (by first | rfl | assumption) ?_  )
  refine x_call0 (p5) (by repeat' (first | exact trivial | exact Ren.v _ | exact Ren.sl _ _ | exact Ren.ep _ | exact Ren.ptr _ _ _ _ rfl | exact Ren.nil _ | exact Ren.own _ _ _ _ ⟨_, rfl⟩ | refine ren_ag ?_ | refine ren_tu ?_ | refine ren_fn ?_ | refine ⟨?_, ?_⟩)) (by repeat' (first | exact trivial | exact RenB.v _ | exact RenB.sl _ _ | exact RenB.ep _ | exact RenB.ptr _ _ _ _ rfl | refine renb_ag ?_ | refine renb_tu ?_ | refine ⟨?_, ?_⟩)) ?_
  repeat (first | ((with_reducible refine k_assign ?_); refine m_assign rfl ?_) | ((with_reducible refine k_pick ?_); refine m_pickt rfl (by first | rfl | assumption) rfl ?_)  | refine e_nrm ?_ | refine x_none rfl ?_ | with_reducible refine q_then ?_ | with_reducible refine awp_ret ?_ )
  refine ret_v (by first | exact .inr rfl | exact .inl rfl) rfl rfl ?_
  rfl
def uv (m : Int) : AV := .v (.int .u16 m)
theorem uv_at {L : List Int} {k : Nat} {x : Int} (h : L[k]? = some x) : (L.map uv)[k]? = some (uv x) := by rw [List.getElem?_map, h]; rfl
theorem pick125 {z : Int} (h0 : 0 ≤ z) (h3 : z < 3) : ∃ d : Int, ([.v (.int .i64 1), .v (.int .i64 2), .v (.int .i64 5)] : List AV)[z.toNat]? = some (.v (.int .i64 d)) := by
  obtain rfl | rfl | rfl : z = 0 ∨ z = 1 ∨ z = 2 := by omega
  · exact ⟨1, rfl⟩
  · exact ⟨2, rfl⟩
  · exact ⟨5, rfl⟩
theorem cntI_at {K : List Int} {k : Int} {i : Nat} {x : Int} (h : K[i]? = some x) : cntI (K.drop i) k = cntI (K.drop (i + 1)) k + if x = k then 1 else 0 := by
  unfold cntI
  rw [drop_at h, List.countP_cons]
  simp
theorem cntL_at {L : List Sf} {k : Int} {i : Nat} {x : Sf} (h : L[i]? = some x) : cntL (L.drop i) k = cntI x.keys k + cntL (L.drop (i + 1)) k := by
  rw [drop_at h]; rfl
theorem cntI_le (K : List Int) (k : Int) : cntI K k ≤ K.length := List.countP_le_length
structure InO (j : Nat) (L : List Sf) : Prop where
  chk : chkS L = 0
  mx : KeyMax L j
theorem InO.max {j : Nat} {L : List Sf} (h : InO j L) (hj : j ≤ 60) : ∀ x ∈ L, SfMax x := sfmax_of h.chk h.mx (by omega)
theorem InO.le {j j' : Nat} {L : List Sf} (h : InO j L) (hj : j ≤ j') : InO j' L := ⟨h.chk, fun s hs => by have := h.mx s hs; omega⟩
theorem InO.len {j : Nat} {L : List Sf} (h : InO j L) : L.length ≤ 16 := ((chkS_iff L).1 h.chk).1
theorem InO.put {j : Nat} {L : List Sf} (h : InO j L) (n k : Int) (e : (putS L n k).2 = 0) : InO (j + 1) (putS L n k).1 := by
  obtain ⟨-, -, -, -, -, -, -, hc⟩ := putS_ok e
  exact ⟨hc, putS_max e h.mx⟩
theorem InO.take {j : Nat} {L : List Sf} (h : InO j L) (n k : Int) (e : (takeS L n k).2 = 0) : InO j (takeS L n k).1 := by
  obtain ⟨-, -, -, -, -, -, -, hc⟩ := takeS_ok e
  exact ⟨hc, takeS_max e h.mx⟩
theorem once_in : InO 0 once0 := ⟨once_chk, by simp [KeyMax, once0]⟩
set_option maxRecDepth 100000 in
set_option maxHeartbeats 4000000 in
theorem once_law (l moves : List Int) (hmv : ∀ m ∈ moves, 0 ≤ m ∧ m ≤ 65535) (hG : GCls G) : ACalls Tryd.prog G 3 [.sl 1 (l.map iv), .sl 1 (moves.map uv)] [] (.v (.bool true)) [] := by
  have hml : (moves.map uv).length = moves.length := by simp
  refine acalls_of tbOk (enter_of Tryd.func3 (by kernel_rfl) rfl) Tryd.func3 rfl _ Tryd.ntmps3 (Nat.le_of_ble_eq_true rfl) fun X hX => ?_
  subst hX
  repeat (first | ((with_reducible refine k_assign ?_); refine m_assign rfl ?_)  | refine e_nrm ?_ | refine x_none rfl ?_ | with_reducible refine q_then ?_ | with_reducible refine awp_seq ?_ | ((with_reducible refine w_region ?_ ?_); kernel_rfl))
  refine x_call0 (sawake_A hG) (by repeat' (first | exact trivial | exact Ren.v _ | exact Ren.sl _ _ | exact Ren.ep _ | exact Ren.ptr _ _ _ _ rfl | exact Ren.nil _ | exact Ren.own _ _ _ _ ⟨_, rfl⟩ | refine ren_ag ?_ | refine ren_tu ?_ | refine ren_fn ?_ | refine ⟨?_, ?_⟩)) (by repeat' (first | exact trivial | exact RenB.v _ | exact RenB.sl _ _ | exact RenB.ep _ | exact RenB.ptr _ _ _ _ rfl | refine renb_ag ?_ | refine renb_tu ?_ | refine ⟨?_, ?_⟩)) ?_
  repeat (first | ((with_reducible refine k_move ?_); refine m_move rfl ?_) | ((with_reducible refine k_un ?_); refine x_not rfl ?_)  | refine x_none rfl ?_ | refine x_run_f rfl rfl (by first | rfl | assumption) ?_  )
  refine x_call0 (few_A (l.map iv)) (by repeat' (first | exact trivial | exact Ren.v _ | exact Ren.sl _ _ | exact Ren.ep _ | exact Ren.ptr _ _ _ _ rfl | exact Ren.nil _ | exact Ren.own _ _ _ _ ⟨_, rfl⟩ | refine ren_ag ?_ | refine ren_tu ?_ | refine ren_fn ?_ | refine ⟨?_, ?_⟩)) (by repeat' (first | exact trivial | exact RenB.v _ | exact RenB.sl _ _ | exact RenB.ep _ | exact RenB.ptr _ _ _ _ rfl | refine renb_ag ?_ | refine renb_tu ?_ | refine ⟨?_, ?_⟩)) ?_
  repeat (first | ((with_reducible refine k_move ?_); refine m_move rfl ?_) | ((with_reducible refine k_un ?_); refine x_not rfl ?_) | ((with_reducible refine k_pick ?_); refine m_pickf rfl (by first | rfl | assumption) rfl ?_)  | refine x_none rfl ?_ | refine x_run_f rfl rfl (by first | rfl | assumption) ?_  )
  refine x_split rfl rfl (fun h => ?_) (fun h => ?_)
  · repeat (first | ((with_reducible refine k_pick ?_); refine m_pickt rfl (by first | rfl | assumption) rfl ?_)  | refine e_nrm ?_ | refine x_none rfl ?_ | refine x_skip_f rfl rfl (by first | rfl | assumption) ?_ | with_reducible refine q_then ?_ | with_reducible refine awp_seq ?_ | ((with_reducible refine w_region ?_ ?_); kernel_rfl) | refine w_cond_t rfl (by first | rfl | assumption) ?_)
    refine x_call0 (sawake_A hG) (by repeat' (first | exact trivial | exact Ren.v _ | exact Ren.sl _ _ | exact Ren.ep _ | exact Ren.ptr _ _ _ _ rfl | exact Ren.nil _ | exact Ren.own _ _ _ _ ⟨_, rfl⟩ | refine ren_ag ?_ | refine ren_tu ?_ | refine ren_fn ?_ | refine ⟨?_, ?_⟩)) (by repeat' (first | exact trivial | exact RenB.v _ | exact RenB.sl _ _ | exact RenB.ep _ | exact RenB.ptr _ _ _ _ rfl | refine renb_ag ?_ | refine renb_tu ?_ | refine ⟨?_, ?_⟩)) ?_
    repeat (first | ((with_reducible refine k_assign ?_); refine m_assign rfl ?_)  | refine e_nrm ?_ | refine x_none rfl ?_ | with_reducible refine q_then ?_ | with_reducible refine q_then_ret ?_ | with_reducible refine awp_ret ?_ )
    refine ret_v (by first | exact .inr rfl | exact .inl rfl) rfl rfl ?_
    rfl
  repeat (first | ((with_reducible refine k_move ?_); refine m_move rfl ?_) | ((with_reducible refine k_pick ?_); refine m_pickf rfl (by first | rfl | assumption) rfl ?_) | ((with_reducible refine k_call ?_); refine x_len tbOk rfl rfl ?_) | ((with_reducible refine k_bin ?_); refine m_binI rfl rfl rfl ?_)  | refine e_nrm ?_ | refine x_none rfl ?_ | refine x_run_f rfl rfl (by first | rfl | assumption) ?_ | with_reducible refine q_then ?_ )
  refine w_cond rfl (fun h60 => ?_) (fun h60 => ?_)
  · repeat (first   | refine x_none rfl ?_ | with_reducible refine awp_seq ?_ | ((with_reducible refine w_region ?_ ?_); kernel_rfl))
    refine x_call0 (sawake_A hG) (by repeat' (first | exact trivial | exact Ren.v _ | exact Ren.sl _ _ | exact Ren.ep _ | exact Ren.ptr _ _ _ _ rfl | exact Ren.nil _ | exact Ren.own _ _ _ _ ⟨_, rfl⟩ | refine ren_ag ?_ | refine ren_tu ?_ | refine ren_fn ?_ | refine ⟨?_, ?_⟩)) (by repeat' (first | exact trivial | exact RenB.v _ | exact RenB.sl _ _ | exact RenB.ep _ | exact RenB.ptr _ _ _ _ rfl | refine renb_ag ?_ | refine renb_tu ?_ | refine ⟨?_, ?_⟩)) ?_
    repeat (first | ((with_reducible refine k_assign ?_); refine m_assign rfl ?_)  | refine e_nrm ?_ | refine x_none rfl ?_ | with_reducible refine q_then ?_ | with_reducible refine q_then_ret ?_ | with_reducible refine awp_seq ?_ | with_reducible refine awp_skip ?_ | with_reducible refine awp_ret ?_ | ((with_reducible refine w_region ?_ ?_); kernel_rfl))
    refine ret_v (by first | exact .inr rfl | exact .inl rfl) rfl rfl ?_
    rfl
  have hm60 : moves.length ≤ 60 := by simp at h60; omega
  repeat (first | ((with_reducible refine k_assign ?_); refine m_assign rfl ?_) | refine e_nrm ?_ | refine x_none rfl ?_ | with_reducible refine q_then ?_ | with_reducible refine q_then_ret ?_ | with_reducible refine awp_seq ?_ | with_reducible refine awp_skip ?_ | with_reducible refine awp_ret ?_ | ((with_reducible refine w_region ?_ ?_); kernel_rfl))
  with_reducible refine k_build ?_; refine x_build_z tbOk (sf0 1) rfl rfl rfl rfl rfl (sf0_imp _) ?_
  repeat (first | ((with_reducible refine k_assign ?_); refine m_assign rfl ?_) | refine e_nrm ?_ | refine x_none rfl ?_ | with_reducible refine q_then ?_ | with_reducible refine q_then_ret ?_ | with_reducible refine awp_seq ?_ | with_reducible refine awp_skip ?_ | with_reducible refine awp_ret ?_ | ((with_reducible refine w_region ?_ ?_); kernel_rfl))
  with_reducible refine k_build ?_; refine x_build_z tbOk (sf0 2) rfl rfl rfl rfl rfl (sf0_imp _) ?_
  repeat (first | ((with_reducible refine k_assign ?_); refine m_assign rfl ?_) | refine e_nrm ?_ | refine x_none rfl ?_ | with_reducible refine q_then ?_ | with_reducible refine q_then_ret ?_ | with_reducible refine awp_seq ?_ | with_reducible refine awp_skip ?_ | with_reducible refine awp_ret ?_ | ((with_reducible refine w_region ?_ ?_); kernel_rfl))
  with_reducible refine k_build ?_; refine x_build_z tbOk (sf0 5) rfl rfl rfl rfl rfl (sf0_imp _) ?_
  repeat (first | ((with_reducible refine k_move ?_); refine m_move rfl ?_) | ((with_reducible refine k_assign ?_); refine m_assign rfl ?_) | ((with_reducible refine k_call ?_); refine x_len tbOk rfl rfl ?_) | ((with_reducible refine k_buildSlice ?_); refine m_buildSlice tbOk rfl rfl rfl rfl rfl (by omega) rfl rfl rfl ?_) | refine e_nrm ?_ | refine x_none rfl ?_ | with_reducible refine q_then ?_ | with_reducible refine awp_seq ?_ | with_reducible refine awp_block ?_ | ((with_reducible refine w_region ?_ ?_); kernel_rfl))
  refine awp_loop (ι := Nat × List Sf) (fun i => i.1 ≤ moves.length ∧ InO i.1 i.2) (fun i => moves.length - i.1) (fun v i => [(5, .sl 3 (i.2.map Sf.av)), (34, .sl 1 (moves.map uv)), (35, .v (.int .i64 (moves.map uv).length)), (36, .v (.int .i64 (i.1 : Nat)))]) (fun v i => []) ?_ ?_
  · exact ⟨(0, once0), ⟨Nat.zero_le _, once_in⟩, trivial, ⟨rfl, rfl, rfl, rfl, trivial⟩, trivial⟩
  rintro v ⟨k, L⟩ ⟨hk, hL⟩
  simp only at hk hL
  dsimp only
  repeat (first | ((with_reducible refine k_bin ?_); refine m_binI rfl rfl rfl ?_)  | refine e_nrm ?_ | refine x_none rfl ?_ | with_reducible refine q_then ?_ | with_reducible refine awp_seq ?_ | ((with_reducible refine w_region ?_ ?_); kernel_rfl))
  refine w_cond rfl (fun h => ?_) (fun h => ?_)
  · have hlt : k < moves.length := by simpa using h
    obtain ⟨m, hm⟩ := some_at hlt
    have hmy := uv_at hm
    obtain ⟨m0, m1⟩ := hmv m (List.mem_of_getElem? hm)
    have i0 : 0 ≤ m.tmod 3 := Int.tmod_nonneg _ m0
    have i1 : m.tmod 3 < 3 := Int.tmod_lt_of_pos _ (by omega)
    have w3 : 0 ≤ IntKind.u16.wrap (m.tdiv 3) ∧ IntKind.u16.wrap (m.tdiv 3) ≤ 65535 := by rw [IntKind.wrap_u16]; omega
    obtain ⟨d, hd⟩ := pick125 i0 i1
    have hmx := hL.max (by omega)
    have hl16 := hL.len
    have hlm : L.length ≤ maxLen := by unfold maxLen; omega
    have P1 := hL.put d ((IntKind.u16.wrap (m.tdiv 3)).tmod 9)
    have P2 := hL.take d ((IntKind.u16.wrap (m.tdiv 3)).tmod 9)
    have C1 := put_A (G := X.G) L d ((IntKind.u16.wrap (m.tdiv 3)).tmod 9) hG hmx (fun x hx => by have := hL.mx x hx; omega) hlm
    have C2 := take_A (G := X.G) L d ((IntKind.u16.wrap (m.tdiv 3)).tmod 9) hG hmx hlm
    generalize putS L d ((IntKind.u16.wrap (m.tdiv 3)).tmod 9) = Q1 at P1 C1
    generalize takeS L d ((IntKind.u16.wrap (m.tdiv 3)).tmod 9) = Q2 at P2 C2
    repeat (first | ((with_reducible refine k_move ?_); refine m_move rfl ?_) | ((with_reducible refine k_assign ?_); refine m_assign rfl ?_) | ((with_reducible refine k_load ?_); refine x_load_ep_one tbOk rfl rfl rfl ?_) | ((with_reducible refine k_indexAddr ?_); refine x_indexAddr_n tbOk rfl rfl rfl rfl (by assumption) ?_) | ((with_reducible refine k_indexAddr ?_); refine x_indexAddr tbOk rfl rfl rfl rfl (by omega) (by assumption) ?_) | ((with_reducible refine k_convert ?_); refine x_conv_in tbOk rfl rfl rfl (by first | assumption | exact wrap_u64_in (by omega) | exact wrap_i64_in (by omega) | exact wrap_u8_in (by omega)) ?_) | ((with_reducible refine k_bin ?_); refine x_rem rfl rfl (by first | decide | assumption | omega) ?_) | ((with_reducible refine k_bin ?_); refine x_quo rfl rfl (by first | decide | assumption | omega) ?_) | ((with_reducible refine k_buildSlice ?_); refine m_buildSlice tbOk rfl rfl rfl rfl rfl (by omega) rfl rfl rfl ?_) | refine e_nrm ?_ | refine x_none rfl ?_ | with_reducible refine q_then ?_ | with_reducible refine awp_seq ?_ | with_reducible refine awp_block ?_ | with_reducible refine awp_skip ?_ | ((with_reducible refine w_region ?_ ?_); kernel_rfl))
    refine x_call0 (C1) (by repeat' (first | exact trivial | exact Ren.v _ | exact Ren.sl _ _ | exact Ren.ep _ | exact Ren.ptr _ _ _ _ rfl | exact Ren.nil _ | exact Ren.own _ _ _ _ ⟨_, rfl⟩ | refine ren_ag ?_ | refine ren_tu ?_ | refine ren_fn ?_ | refine ⟨?_, ?_⟩)) (by repeat' (first | exact trivial | exact RenB.v _ | exact RenB.sl _ _ | exact RenB.ep _ | exact RenB.ptr _ _ _ _ rfl | refine renb_ag ?_ | refine renb_tu ?_ | refine ⟨?_, ?_⟩)) ?_
    repeat (first | ((with_reducible refine k_move ?_); refine m_move rfl ?_) | ((with_reducible refine k_assign ?_); refine m_assign rfl ?_) | ((with_reducible refine k_extract ?_); refine x_extract rfl rfl ?_) | ((with_reducible refine k_bin ?_); refine m_binI rfl rfl rfl ?_) | ((with_reducible refine k_bin ?_); refine x_rem rfl rfl (by first | decide | assumption | omega) ?_)  | refine e_nrm ?_ | refine x_none rfl ?_ | with_reducible refine q_then ?_ | with_reducible refine awp_seq ?_ | ((with_reducible refine w_region ?_ ?_); kernel_rfl))
    refine awp_via (ι := List Sf × Int) (fun v i => i.2 = 0 → InO (k + 1) i.1) (fun v i => [(5, .sl 3 (L.map Sf.av)), (9, .sl 3 (i.1.map Sf.av)), (10, .v (.int .i64 i.2)), (34, .sl 1 (moves.map uv)), (35, .v (.int .i64 (moves.map uv).length)), (36, .v (.int .i64 (k : Nat)))]) (fun v i => []) ?_ ?_
    · refine w_cond rfl (fun h => ?_) (fun h => ?_)
      · repeat (first | ((with_reducible refine k_move ?_); refine m_move rfl ?_) | ((with_reducible refine k_convert ?_); refine x_conv_in tbOk rfl rfl rfl (by first | assumption | exact wrap_u64_in (by omega) | exact wrap_i64_in (by omega) | exact wrap_u8_in (by omega)) ?_) | ((with_reducible refine k_bin ?_); refine x_rem rfl rfl (by first | decide | assumption | omega) ?_) | ((with_reducible refine k_bin ?_); refine x_quo rfl rfl (by first | decide | assumption | omega) ?_)  | refine x_none rfl ?_  | ((with_reducible refine w_region ?_ ?_); kernel_rfl))
        refine x_call0 (C2) (by repeat' (first | exact trivial | exact Ren.v _ | exact Ren.sl _ _ | exact Ren.ep _ | exact Ren.ptr _ _ _ _ rfl | exact Ren.nil _ | exact Ren.own _ _ _ _ ⟨_, rfl⟩ | refine ren_ag ?_ | refine ren_tu ?_ | refine ren_fn ?_ | refine ⟨?_, ?_⟩)) (by repeat' (first | exact trivial | exact RenB.v _ | exact RenB.sl _ _ | exact RenB.ep _ | exact RenB.ptr _ _ _ _ rfl | refine renb_ag ?_ | refine renb_tu ?_ | refine ⟨?_, ?_⟩)) ?_
        repeat (first | ((with_reducible refine k_move ?_); refine m_move rfl ?_) | ((with_reducible refine k_assign ?_); refine m_assign rfl ?_) | ((with_reducible refine k_extract ?_); refine x_extract rfl rfl ?_)  | refine e_nrm ?_ | refine x_none rfl ?_ | with_reducible refine q_then ?_ )
        exact ⟨Q2, fun e => (P2 e).le (by omega), trivial, ⟨rfl, rfl, rfl, rfl, rfl, rfl, trivial⟩, trivial⟩
      · repeat (first    | with_reducible refine q_then ?_ | with_reducible refine awp_skip ?_ )
        exact ⟨Q1, P1, trivial, ⟨rfl, rfl, rfl, rfl, rfl, rfl, trivial⟩, trivial⟩
    clear P1 P2 C1 C2
    rintro v ⟨Q, e⟩ hQ
    simp only at hQ
    dsimp only
    repeat (first | ((with_reducible refine k_move ?_); refine m_move rfl ?_) | ((with_reducible refine k_bin ?_); refine m_binI rfl rfl rfl ?_)  | refine e_nrm ?_ | refine x_none rfl ?_ | with_reducible refine q_then ?_ | with_reducible refine awp_seq ?_ | ((with_reducible refine w_region ?_ ?_); kernel_rfl))
    refine awp_via (ι := List Sf) (fun v i => InO (k + 1) i) (fun v i => [(5, .sl 3 (i.map Sf.av)), (34, .sl 1 (moves.map uv)), (35, .v (.int .i64 (moves.map uv).length)), (36, .v (.int .i64 (k : Nat)))]) (fun v i => []) ?_ ?_
    · refine w_cond rfl (fun h => ?_) (fun h => ?_)
      · repeat (first | ((with_reducible refine k_move ?_); refine m_move rfl ?_) | ((with_reducible refine k_assign ?_); refine m_assign rfl ?_)  | refine e_nrm ?_ | refine x_none rfl ?_ | with_reducible refine q_then ?_ | ((with_reducible refine w_region ?_ ?_); kernel_rfl))
        exact ⟨Q, hQ (by simpa using h), trivial, ⟨rfl, rfl, rfl, rfl, trivial⟩, trivial⟩
      · repeat (first    | with_reducible refine q_then ?_ | with_reducible refine awp_skip ?_ )
        exact ⟨L, hL.le (by omega), trivial, ⟨rfl, rfl, rfl, rfl, trivial⟩, trivial⟩
    clear hQ hL hmx hlm hl16
    rintro v L hL
    have hl16 := hL.len
    have hC := scheck_A (G := X.G) L hG (hL.max (by omega)) (by unfold maxLen; omega)
    rw [hL.chk] at hC
    repeat (first | ((with_reducible refine k_move ?_); refine m_move rfl ?_)  | refine x_none rfl ?_ | with_reducible refine awp_seq ?_ | ((with_reducible refine w_region ?_ ?_); kernel_rfl))
    refine x_call0 (hC) (by repeat' (first | exact trivial | exact Ren.v _ | exact Ren.sl _ _ | exact Ren.ep _ | exact Ren.ptr _ _ _ _ rfl | exact Ren.nil _ | exact Ren.own _ _ _ _ ⟨_, rfl⟩ | refine ren_ag ?_ | refine ren_tu ?_ | refine ren_fn ?_ | refine ⟨?_, ?_⟩)) (by repeat' (first | exact trivial | exact RenB.v _ | exact RenB.sl _ _ | exact RenB.ep _ | exact RenB.ptr _ _ _ _ rfl | refine renb_ag ?_ | refine renb_tu ?_ | refine ⟨?_, ?_⟩)) ?_
    repeat (first | ((with_reducible refine k_move ?_); refine m_move rfl ?_) | ((with_reducible refine k_bin ?_); refine x_add_in rfl rfl (by omega) ?_) | ((with_reducible refine k_bin ?_); refine m_binI rfl rfl rfl ?_)  | refine e_nrm ?_ | refine x_none rfl ?_ | with_reducible refine q_then ?_ | with_reducible refine q_block ?_ | with_reducible refine awp_skip ?_ | ((with_reducible refine w_region ?_ ?_); kernel_rfl) | refine w_cond_f rfl (by first | rfl | assumption) ?_)
    exact ⟨(k + 1, L), ⟨by show k + 1 ≤ moves.length; omega, hL⟩, by show moves.length - (k + 1) < moves.length - k; omega, ⟨rfl, rfl, rfl, rfl, trivial⟩, trivial⟩
  have hL := hL.le (j' := 60) (by omega)
  clear hk
  have hl16 := hL.len
  have hmx := hL.max (by omega)
  have hlm : L.length ≤ maxLen := by unfold maxLen; omega
  have hLl : (L.map Sf.av).length = L.length := by simp
  repeat (first | ((with_reducible refine k_assign ?_); refine m_assign rfl ?_)  | refine e_nrm ?_ | refine x_none rfl ?_ | with_reducible refine q_then ?_ | with_reducible refine q_then_exit ?_ | with_reducible refine awp_seq ?_ | with_reducible refine awp_block ?_ | with_reducible refine awp_exit ?_ | ((with_reducible refine q_block_exit ?_ ?_); rfl) | ((with_reducible refine w_region ?_ ?_); kernel_rfl))
  refine awp_loop (ι := Nat) (fun k => k ≤ 9) (fun k => 9 - k) (fun v k => [(5, .sl 3 (L.map Sf.av)), (11, .v (.int .i64 k))]) (fun v k => []) ?_ ?_
  · exact ⟨0, by omega, trivial, ⟨rfl, rfl, trivial⟩, trivial⟩
  rintro v k hk
  repeat (first | ((with_reducible refine k_move ?_); refine m_move rfl ?_) | ((with_reducible refine k_bin ?_); refine m_binI rfl rfl rfl ?_)  | refine e_nrm ?_ | refine x_none rfl ?_ | with_reducible refine q_then ?_ | with_reducible refine awp_seq ?_ | ((with_reducible refine w_region ?_ ?_); kernel_rfl))
  refine w_cond rfl (fun h => ?_) (fun h => ?_)
  rotate_left
  · repeat (first | ((with_reducible refine k_assign ?_); refine m_assign rfl ?_)  | refine e_nrm ?_ | refine x_none rfl ?_ | with_reducible refine q_then ?_ | with_reducible refine q_then_exit ?_ | with_reducible refine awp_seq ?_ | with_reducible refine awp_exit ?_ | with_reducible refine awp_ret ?_ | ((with_reducible refine q_block_exit ?_ ?_); rfl) | ((with_reducible refine w_region ?_ ?_); kernel_rfl))
    refine ret_v (by first | exact .inr rfl | exact .inl rfl) rfl rfl ?_
    rfl
  have hk9 : k < 9 := by simp at h; omega
  have hT := cntL_ok (k := (k : Int)) ((chkS_iff L).1 hL.chk).2.1 ((chkS_iff L).1 hL.chk).2.2
  have hI := inS_pos (k := (k : Int)) hL.chk
  repeat (first | ((with_reducible refine k_move ?_); refine m_move rfl ?_) | ((with_reducible refine k_assign ?_); refine m_assign rfl ?_) | ((with_reducible refine k_call ?_); refine x_len tbOk rfl rfl ?_)  | refine e_nrm ?_ | refine x_none rfl ?_ | with_reducible refine q_then ?_ | with_reducible refine awp_seq ?_ | with_reducible refine awp_block ?_ | with_reducible refine awp_skip ?_ | ((with_reducible refine w_region ?_ ?_); kernel_rfl))
  refine awp_loop (ι := Nat × Nat) (fun i => i.1 ≤ L.length ∧ i.2 + cntL (L.drop i.1) k = cntL L k) (fun i => L.length - i.1) (fun v i => [(5, .sl 3 (L.map Sf.av)), (11, .v (.int .i64 k)), (12, .v (.int .i64 (i.2 : Nat))), (80, .sl 3 (L.map Sf.av)), (81, .v (.int .i64 (L.map Sf.av).length)), (82, .v (.int .i64 (i.1 : Nat)))]) (fun v i => []) ?_ ?_
  · exact ⟨(0, 0), ⟨Nat.zero_le _, by simp⟩, trivial, ⟨rfl, rfl, rfl, rfl, rfl, rfl, trivial⟩, trivial⟩
  rintro v ⟨i, c⟩ ⟨hi, hc⟩
  simp only at hi hc
  dsimp only
  repeat (first | ((with_reducible refine k_bin ?_); refine m_binI rfl rfl rfl ?_)  | refine e_nrm ?_ | refine x_none rfl ?_ | with_reducible refine q_then ?_ | with_reducible refine awp_seq ?_ | ((with_reducible refine w_region ?_ ?_); kernel_rfl))
  refine w_cond rfl (fun h => ?_) (fun h => ?_)
  · have hlt : i < L.length := by simp at h; omega
    obtain ⟨x, hx⟩ := some_at hlt
    have hy := sf_at hx
    have hxl := hL.mx x (List.mem_of_getElem? hx)
    have hkl : (x.keys.map iv).length = x.keys.length := by simp
    rw [cntL_at hx] at hc
    have hcl : c ≤ 1 := by rw [hT] at hc; split at hc <;> omega
    have hci := cntI_le x.keys k
    repeat (first | ((with_reducible refine k_move ?_); refine m_move rfl ?_) | ((with_reducible refine k_fieldAddr ?_); refine x_fieldAddr_ptr tbOk rfl rfl rfl rfl ?_) | ((with_reducible refine k_load ?_); refine x_load_one tbOk rfl rfl rfl rfl rfl ?_) | ((with_reducible refine k_load ?_); refine x_load_ep_agg tbOk rfl rfl (Nat.le_of_ble_eq_true rfl) ?_) | ((with_reducible refine k_store ?_); refine m_store tbOk rfl rfl rfl rfl rfl rfl rfl (Nat.le_of_ble_eq_true rfl) rfl ?_) | ((with_reducible refine k_alloc ?_); refine x_alloc tbOk rfl rfl ?_) | ((with_reducible refine k_indexAddr ?_); refine x_indexAddr_n tbOk rfl rfl rfl rfl (by assumption) ?_) | ((with_reducible refine k_call ?_); refine x_len tbOk rfl rfl ?_)  | refine e_nrm ?_ | refine x_none rfl ?_ | with_reducible refine q_then ?_ | with_reducible refine awp_seq ?_ | with_reducible refine awp_block ?_ | with_reducible refine awp_skip ?_ | ((with_reducible refine w_region ?_ ?_); kernel_rfl))
    refine awp_loop (ι := Nat × Nat) (fun j => j.1 ≤ x.keys.length ∧ j.2 + cntI (x.keys.drop j.1) k = c + cntI x.keys k) (fun j => x.keys.length - j.1) (fun v j => [(5, .sl 3 (L.map Sf.av)), (11, .v (.int .i64 k)), (12, .v (.int .i64 (j.2 : Nat))), (80, .sl 3 (L.map Sf.av)), (81, .v (.int .i64 (L.map Sf.av).length)), (82, .v (.int .i64 (i : Nat))), (87, .sl 1 (x.keys.map iv)), (88, .v (.int .i64 (x.keys.map iv).length)), (89, .v (.int .i64 (j.1 : Nat)))]) (fun v j => []) ?_ ?_
    · exact ⟨(0, c), ⟨Nat.zero_le _, by simp⟩, trivial, ⟨rfl, rfl, rfl, rfl, rfl, rfl, rfl, rfl, rfl, trivial⟩, trivial⟩
    clear v
    rintro v ⟨j, n⟩ ⟨hj, hn⟩
    simp only at hj hn
    dsimp only
    repeat (first | ((with_reducible refine k_bin ?_); refine m_binI rfl rfl rfl ?_)  | refine e_nrm ?_ | refine x_none rfl ?_ | with_reducible refine q_then ?_ | with_reducible refine awp_seq ?_ | ((with_reducible refine w_region ?_ ?_); kernel_rfl))
    refine w_cond rfl (fun h => ?_) (fun h => ?_)
    · have hlt : j < x.keys.length := by simp at h; omega
      obtain ⟨z, hz⟩ := some_at hlt
      have hzy : (x.keys.map iv)[j]? = some (iv z) := by rw [List.getElem?_map, hz]; rfl
      rw [cntI_at hz] at hn
      repeat (first | ((with_reducible refine k_move ?_); refine m_move rfl ?_) | ((with_reducible refine k_assign ?_); refine m_assign rfl ?_) | ((with_reducible refine k_load ?_); refine x_load_ep_one tbOk rfl rfl rfl ?_) | ((with_reducible refine k_indexAddr ?_); refine x_indexAddr_n tbOk rfl rfl rfl rfl (by assumption) ?_) | ((with_reducible refine k_bin ?_); refine m_binI rfl rfl rfl ?_)  | refine e_nrm ?_ | refine x_none rfl ?_ | with_reducible refine q_then ?_ | with_reducible refine awp_seq ?_ | with_reducible refine awp_block ?_ | with_reducible refine awp_skip ?_ | ((with_reducible refine w_region ?_ ?_); kernel_rfl))
      refine w_cond rfl (fun h => ?_) (fun h => ?_)
      · have e : z = k := by simpa using h
        rw [if_pos e] at hn
        repeat (first | ((with_reducible refine k_move ?_); refine m_move rfl ?_) | ((with_reducible refine k_assign ?_); refine m_assign rfl ?_) | ((with_reducible refine k_bin ?_); refine x_add_in rfl rfl (by omega) ?_)  | refine e_nrm ?_ | refine x_none rfl ?_ | with_reducible refine q_then ?_ | with_reducible refine q_block ?_ | ((with_reducible refine w_region ?_ ?_); kernel_rfl))
        exact ⟨(j + 1, n + 1), ⟨by show j + 1 ≤ x.keys.length; omega, by show n + 1 + cntI (x.keys.drop (j + 1)) k = _; omega⟩, by show x.keys.length - (j + 1) < x.keys.length - j; omega, ⟨rfl, rfl, rfl, rfl, rfl, rfl, rfl, rfl, rfl, trivial⟩, trivial⟩
      · have e : ¬ z = k := by simpa using h
        rw [if_neg e] at hn
        repeat (first | ((with_reducible refine k_move ?_); refine m_move rfl ?_) | ((with_reducible refine k_bin ?_); refine x_add_in rfl rfl (by omega) ?_)  | refine e_nrm ?_ | refine x_none rfl ?_ | with_reducible refine q_then ?_ | with_reducible refine q_block ?_ | with_reducible refine awp_skip ?_ | ((with_reducible refine w_region ?_ ?_); kernel_rfl))
        exact ⟨(j + 1, n), ⟨by show j + 1 ≤ x.keys.length; omega, by show n + cntI (x.keys.drop (j + 1)) k = _; omega⟩, by show x.keys.length - (j + 1) < x.keys.length - j; omega, ⟨rfl, rfl, rfl, rfl, rfl, rfl, rfl, rfl, rfl, trivial⟩, trivial⟩
    · have hge : ¬ j < x.keys.length := by simp at h; omega
      rw [List.drop_of_length_le (by omega)] at hn
      repeat (first | ((with_reducible refine k_move ?_); refine m_move rfl ?_) | ((with_reducible refine k_bin ?_); refine x_add_in rfl rfl (by omega) ?_)  | refine e_nrm ?_ | refine x_none rfl ?_ | with_reducible refine q_then ?_ | with_reducible refine q_then_exit ?_ | with_reducible refine q_block ?_ | with_reducible refine awp_exit ?_ | ((with_reducible refine q_block_exit ?_ ?_); rfl) | ((with_reducible refine w_region ?_ ?_); kernel_rfl))
      exact ⟨(i + 1, n), ⟨by show i + 1 ≤ L.length; omega, by show n + cntL (L.drop (i + 1)) k = _; simp [cntI] at hn; simp [cntI] at hc; omega⟩, by show L.length - (i + 1) < L.length - i; omega, ⟨rfl, rfl, rfl, rfl, rfl, rfl, trivial⟩, trivial⟩
  · have hge : ¬ i < L.length := by simp at h; omega
    rw [List.drop_of_length_le (by omega), hT] at hc
    have hIn := in_A (G := X.G) L (k : Int) hG hmx hlm
    cases hp : hasP L k with
    | true =>
      rw [hp] at hI hc
      obtain rfl : c = 1 := by simp [cntL] at hc; omega
      have b9 : (decide (((1 : Nat) : Int) = 1) != decide (inS L (k : Int) > 0)) = false := by rw [hI]; rfl
      repeat (first | ((with_reducible refine k_move ?_); refine m_move rfl ?_) | ((with_reducible refine k_bin ?_); refine m_binI rfl rfl rfl ?_)  | refine x_none rfl ?_ | refine x_run_f rfl rfl (by first | rfl | assumption) ?_ | with_reducible refine q_then ?_ | with_reducible refine q_then_exit ?_ | with_reducible refine awp_seq ?_ | with_reducible refine awp_exit ?_ | ((with_reducible refine q_block_exit ?_ ?_); rfl) | ((with_reducible refine w_region ?_ ?_); kernel_rfl))
      refine x_call0 (hIn) (by repeat' (first | exact trivial | exact Ren.v _ | exact Ren.sl _ _ | exact Ren.ep _ | exact Ren.ptr _ _ _ _ rfl | exact Ren.nil _ | exact Ren.own _ _ _ _ ⟨_, rfl⟩ | refine ren_ag ?_ | refine ren_tu ?_ | refine ren_fn ?_ | refine ⟨?_, ?_⟩)) (by repeat' (first | exact trivial | exact RenB.v _ | exact RenB.sl _ _ | exact RenB.ep _ | exact RenB.ptr _ _ _ _ rfl | refine renb_ag ?_ | refine renb_tu ?_ | refine ⟨?_, ?_⟩)) ?_
      repeat (first | ((with_reducible refine k_move ?_); refine m_move rfl ?_) | ((with_reducible refine k_assign ?_); refine m_assign rfl ?_) | ((with_reducible refine k_pick ?_); refine m_pickf rfl (by first | rfl | assumption) rfl ?_) | ((with_reducible refine k_bin ?_); refine x_add_in rfl rfl (by omega) ?_) | ((with_reducible refine k_bin ?_); refine m_binI rfl rfl rfl ?_) | ((with_reducible refine k_bin ?_); refine x_neq_b (by exact Tryd.underlying4) rfl rfl ?_)  | refine e_nrm ?_ | refine x_none rfl ?_ | refine x_run_f rfl rfl (by first | rfl | assumption) ?_ | with_reducible refine q_then ?_ | with_reducible refine q_block ?_ | with_reducible refine awp_skip ?_ | ((with_reducible refine w_region ?_ ?_); kernel_rfl) | refine w_cond_f rfl (by first | rfl | assumption) ?_)
      exact ⟨k + 1, by omega, by omega, ⟨rfl, rfl, trivial⟩, trivial⟩
    | false =>
      rw [hp] at hI hc
      obtain rfl : c = 0 := by simp [cntL] at hc; omega
      have b9 : (decide (((0 : Nat) : Int) = 1) != decide (inS L (k : Int) > 0)) = false := by rw [hI]; rfl
      repeat (first | ((with_reducible refine k_move ?_); refine m_move rfl ?_) | ((with_reducible refine k_bin ?_); refine m_binI rfl rfl rfl ?_)  | refine x_none rfl ?_ | refine x_run_f rfl rfl (by first | rfl | assumption) ?_ | with_reducible refine q_then ?_ | with_reducible refine q_then_exit ?_ | with_reducible refine awp_seq ?_ | with_reducible refine awp_exit ?_ | ((with_reducible refine q_block_exit ?_ ?_); rfl) | ((with_reducible refine w_region ?_ ?_); kernel_rfl))
      refine x_call0 (hIn) (by repeat' (first | exact trivial | exact Ren.v _ | exact Ren.sl _ _ | exact Ren.ep _ | exact Ren.ptr _ _ _ _ rfl | exact Ren.nil _ | exact Ren.own _ _ _ _ ⟨_, rfl⟩ | refine ren_ag ?_ | refine ren_tu ?_ | refine ren_fn ?_ | refine ⟨?_, ?_⟩)) (by repeat' (first | exact trivial | exact RenB.v _ | exact RenB.sl _ _ | exact RenB.ep _ | exact RenB.ptr _ _ _ _ rfl | refine renb_ag ?_ | refine renb_tu ?_ | refine ⟨?_, ?_⟩)) ?_
      repeat (first | ((with_reducible refine k_move ?_); refine m_move rfl ?_) | ((with_reducible refine k_assign ?_); refine m_assign rfl ?_) | ((with_reducible refine k_pick ?_); refine m_pickf rfl (by first | rfl | assumption) rfl ?_) | ((with_reducible refine k_bin ?_); refine x_add_in rfl rfl (by omega) ?_) | ((with_reducible refine k_bin ?_); refine m_binI rfl rfl rfl ?_) | ((with_reducible refine k_bin ?_); refine x_neq_b (by exact Tryd.underlying4) rfl rfl ?_)  | refine e_nrm ?_ | refine x_none rfl ?_ | refine x_run_f rfl rfl (by first | rfl | assumption) ?_ | with_reducible refine q_then ?_ | with_reducible refine q_block ?_ | with_reducible refine awp_skip ?_ | ((with_reducible refine w_region ?_ ?_); kernel_rfl) | refine w_cond_f rfl (by first | rfl | assumption) ?_)
      exact ⟨k + 1, by omega, by omega, ⟨rfl, rfl, trivial⟩, trivial⟩
end Go.Proofs.YtlmkloghbgglkaaDoor
