/- permitofficelaw24.SafesKeep, by the abstract machine: for every list and all moves it answers true; conditions: the table of classes stands. -/
import Derived.Test.YtlmkloghbgglkaaDoorSoA
import Derived.Test.YtlmkloghbgglkaaDoorSkP
import Derived.Test.YtlmkloghbgglkaaDoorSfC
set_option linter.unusedVariables false
set_option linter.unusedSimpArgs false
namespace Go.Proofs.YtlmkloghbgglkaaDoor
open Go Go.RowKit
set_option maxRecDepth 10000
variable {G : Nat → Option (List Value)}
def uv8 (m : Int) : AV := .v (.int .u8 m)
theorem uv8_at {L : List Int} {k : Nat} {x : Int} (h : L[k]? = some x) : (L.map uv8)[k]? = some (uv8 x) := by rw [List.getElem?_map, h]; rfl
theorem z9_no : nZ9 ∉ nms := fun h => by
  rcases (by simpa [nms] using h : nZ9 = nB1 ∨ nZ9 = nC1 ∨ nZ9 = nD1) with h | h | h <;> exact absurd h (by decide +kernel)
theorem pickBCD {z : Int} (h0 : 0 ≤ z) (h3 : z < 3) : ∃ s : ByteArray, s.size ≤ maxLen ∧ s ≠ nZ9 ∧ ([.v (.string nB1), .v (.string nC1), .v (.string nD1)] : List AV)[z.toNat]? = some (.v (.string s)) := by
  obtain rfl | rfl | rfl : z = 0 ∨ z = 1 ∨ z = 2 := by omega
  · exact ⟨nB1, by decide, by decide +kernel, rfl⟩
  · exact ⟨nC1, by decide, by decide +kernel, rfl⟩
  · exact ⟨nD1, by decide, by decide +kernel, rfl⟩
set_option maxRecDepth 100000 in
set_option maxHeartbeats 4000000 in
theorem keep_law (l moves : List Int) (hmv : ∀ m ∈ moves, 0 ≤ m ∧ m ≤ 255) (hG : GCls G) : ACalls Tryd.prog G 5 [.sl 1 (l.map iv), .sl 1 (moves.map uv8)] [] (.v (.bool true)) [] := by
  have hvl : (moves.map uv8).length = moves.length := by simp
  refine acalls_of tbOk (enter_of Tryd.func5 (by kernel_rfl) rfl) Tryd.func5 rfl _ Tryd.ntmps5 (Nat.le_of_ble_eq_true rfl) fun X hX => ?_
  subst hX
  repeat (first | ((with_reducible refine k_assign ?_); refine m_assign rfl ?_)  | refine e_nrm ?_ | refine x_none rfl ?_ | with_reducible refine q_then ?_ | with_reducible refine awp_seq ?_ | ((with_reducible refine w_region ?_ ?_); kernel_rfl))
  refine x_call0 (sawake_A hG) (by repeat' (first | exact trivial | exact Ren.v _ | exact Ren.sl _ _ | exact Ren.ep _ | exact Ren.ptr _ _ _ _ rfl | exact Ren.nil _ | exact Ren.own _ _ _ _ ⟨_, rfl⟩ | refine ren_ag ?_ | refine ren_tu ?_ | refine ren_fn ?_ | refine ⟨?_, ?_⟩)) (by repeat' (first | exact trivial | exact RenB.v _ | exact RenB.sl _ _ | exact RenB.ep _ | exact RenB.ptr _ _ _ _ rfl | refine renb_ag ?_ | refine renb_tu ?_ | refine ⟨?_, ?_⟩)) ?_
  repeat (first | ((with_reducible refine k_move ?_); refine m_move rfl ?_) | ((with_reducible refine k_un ?_); refine x_not rfl ?_)  | refine x_none rfl ?_ | refine x_run_f rfl rfl (by first | rfl | assumption) ?_  )
  refine x_call0 (few_A (l.map iv)) (by repeat' (first | exact trivial | exact Ren.v _ | exact Ren.sl _ _ | exact Ren.ep _ | exact Ren.ptr _ _ _ _ rfl | exact Ren.nil _ | exact Ren.own _ _ _ _ ⟨_, rfl⟩ | refine ren_ag ?_ | refine ren_tu ?_ | refine ren_fn ?_ | refine ⟨?_, ?_⟩)) (by repeat' (first | exact trivial | exact RenB.v _ | exact RenB.sl _ _ | exact RenB.ep _ | exact RenB.ptr _ _ _ _ rfl | refine renb_ag ?_ | refine renb_tu ?_ | refine ⟨?_, ?_⟩)) ?_
  repeat (first | ((with_reducible refine k_move ?_); refine m_move rfl ?_) | ((with_reducible refine k_un ?_); refine x_not rfl ?_) | ((with_reducible refine k_pick ?_); refine m_pickf rfl (by first | rfl | assumption) rfl ?_)  | refine x_none rfl ?_ | refine x_run_f rfl rfl (by first | rfl | assumption) ?_  )
  refine x_split rfl rfl (fun h => ?_) (fun h => ?_)
  · repeat (first | ((with_reducible refine k_pick ?_); refine m_pickt rfl (by first | rfl | assumption) rfl ?_)  | refine e_nrm ?_ | refine x_none rfl ?_ | refine x_skip_f rfl rfl (by first | rfl | assumption) ?_ | with_reducible refine q_then ?_ | with_reducible refine awp_seq ?_ | ((with_reducible refine w_region ?_ ?_); kernel_rfl) | refine w_cond_t rfl (by first | rfl | assumption) ?_)
    refine x_call0 (sawake_A hG) (by repeat' (first | exact trivial | exact Ren.v _ | exact Ren.sl _ _ | exact Ren.ep _ | exact Ren.ptr _ _ _ _ rfl | exact Ren.nil _ | exact Ren.own _ _ _ _ ⟨_, rfl⟩ | refine ren_ag ?_ | refine ren_tu ?_ | refine ren_fn ?_ | refine ⟨?_, ?_⟩)) (by repeat' (first | exact trivial | exact RenB.v _ | exact RenB.sl _ _ | exact RenB.ep _ | exact RenB.ptr _ _ _ _ rfl | refine renb_ag ?_ | refine renb_tu ?_ | refine ⟨?_, ?_⟩)) ?_
    repeat (first | ((with_reducible refine k_assign ?_); refine m_assign rfl ?_)  | refine e_nrm ?_ | refine x_none rfl ?_ | with_reducible refine q_then ?_ | with_reducible refine q_then_ret ?_ | with_reducible refine awp_ret ?_ )
    refine ret_v (by first | exact .inr rfl | exact .inl rfl) rfl rfl ?_
    rfl
  have h400 : l.length ≤ 400 := by simp at h; omega
  repeat (first | ((with_reducible refine k_move ?_); refine m_move rfl ?_) | ((with_reducible refine k_pick ?_); refine m_pickf rfl (by first | rfl | assumption) rfl ?_) | ((with_reducible refine k_call ?_); refine x_len tbOk rfl rfl ?_) | ((with_reducible refine k_bin ?_); refine m_binI rfl rfl rfl ?_)  | refine e_nrm ?_ | refine x_none rfl ?_ | refine x_run_f rfl rfl (by first | rfl | assumption) ?_ | with_reducible refine q_then ?_ )
  refine w_cond rfl (fun h60 => ?_) (fun h60 => ?_)
  · repeat (first   | refine x_none rfl ?_ | with_reducible refine awp_seq ?_ | ((with_reducible refine w_region ?_ ?_); kernel_rfl))
    refine x_call0 (sawake_A hG) (by repeat' (first | exact trivial | exact Ren.v _ | exact Ren.sl _ _ | exact Ren.ep _ | exact Ren.ptr _ _ _ _ rfl | exact Ren.nil _ | exact Ren.own _ _ _ _ ⟨_, rfl⟩ | refine ren_ag ?_ | refine ren_tu ?_ | refine ren_fn ?_ | refine ⟨?_, ?_⟩)) (by repeat' (first | exact trivial | exact RenB.v _ | exact RenB.sl _ _ | exact RenB.ep _ | exact RenB.ptr _ _ _ _ rfl | refine renb_ag ?_ | refine renb_tu ?_ | refine ⟨?_, ?_⟩)) ?_
    repeat (first | ((with_reducible refine k_assign ?_); refine m_assign rfl ?_)  | refine e_nrm ?_ | refine x_none rfl ?_ | with_reducible refine q_then ?_ | with_reducible refine q_then_ret ?_ | with_reducible refine awp_ret ?_ )
    refine ret_v (by first | exact .inr rfl | exact .inl rfl) rfl rfl ?_
    rfl
  have hm60 : moves.length ≤ 60 := by simp at h60; omega
  have hD := DkOk.new h400
  obtain ⟨hE, hsm, hl5, hl0⟩ := safesF_ok hD
  have hS := msafes_A (G := X.G) (dk0 l) hD
  generalize safesF (dk0 l) = Q at hE hsm hl5 hl0 hS
  obtain ⟨E, L⟩ := Q
  simp only at hE hsm hl5 hl0 hS
  have hmx : ∀ x ∈ L, SfMax x := fun x hx => (hsm x hx).max
  have hlm : L.length ≤ maxLen := by unfold maxLen; omega
  have hml : (L.map Sf.av).length = L.length := by simp
  have hn := next_A (G := X.G) E ((L.map Sf.av).length : Int) hE (by omega) (by omega)
  have r := E.val_range (n := ((L.map Sf.av).length : Int)) (by omega)
  have rlt := r.2.1 (by omega)
  obtain ⟨d, hd⟩ := Int.eq_ofNat_of_zero_le r.1
  rw [hd] at hn rlt
  obtain ⟨x, hx⟩ := some_at (L := L) (k := d) (by omega)
  have hy := sf_at hx
  obtain ⟨x1, -, -⟩ := hsm x (List.mem_of_getElem? hx)
  repeat (first | ((with_reducible refine k_move ?_); refine m_move rfl ?_)  | refine x_none rfl ?_ | with_reducible refine q_then ?_ | with_reducible refine awp_seq ?_ | with_reducible refine awp_skip ?_ | ((with_reducible refine w_region ?_ ?_); kernel_rfl))
  refine x_call_new (new_A l) (by repeat' (first | exact trivial | exact Ren.v _ | exact Ren.sl _ _ | exact Ren.ep _ | exact Ren.ptr _ _ _ _ rfl | exact Ren.nil _ | exact Ren.own _ _ _ _ ⟨_, rfl⟩ | refine ren_ag ?_ | refine ren_tu ?_ | refine ren_fn ?_ | refine ⟨?_, ?_⟩)) (by repeat' (first | exact trivial | exact RenB.v _ | exact RenB.sl _ _ | exact RenB.ep _ | exact RenB.ptr _ _ _ _ rfl | refine renb_ag ?_ | refine renb_tu ?_ | refine ⟨?_, ?_⟩)) rfl ?_
  repeat (first | ((with_reducible refine k_move ?_); refine m_move rfl ?_) | ((with_reducible refine k_assign ?_); refine m_assign rfl ?_)  | refine e_nrm ?_ | refine x_none rfl ?_ | with_reducible refine q_then ?_ | with_reducible refine awp_seq ?_ | ((with_reducible refine w_region ?_ ?_); kernel_rfl))
  refine x_call (ss := [(30, 1)]) (hS) (by repeat' (first | exact trivial | exact Ren.v _ | exact Ren.sl _ _ | exact Ren.ep _ | exact Ren.ptr _ _ _ _ rfl | exact Ren.nil _ | exact Ren.own _ _ _ _ ⟨_, rfl⟩ | refine ren_ag ?_ | refine ren_tu ?_ | refine ren_fn ?_ | refine ⟨?_, ?_⟩)) (by simp) (in1 rfl rfl) rfl (back1 rfl) (by repeat' (first | exact trivial | exact RenB.v _ | exact RenB.sl _ _ | exact RenB.ep _ | exact RenB.ptr _ _ _ _ rfl | refine renb_ag ?_ | refine renb_tu ?_ | refine ⟨?_, ?_⟩)) ?_
  repeat (first | ((with_reducible refine k_move ?_); refine m_move rfl ?_) | ((with_reducible refine k_assign ?_); refine m_assign rfl ?_)  | refine e_nrm ?_ | refine x_none rfl ?_ | with_reducible refine q_then ?_ | with_reducible refine awp_seq ?_ | ((with_reducible refine w_region ?_ ?_); kernel_rfl))
  refine x_call0 (scheck_A L hG hmx hlm) (by repeat' (first | exact trivial | exact Ren.v _ | exact Ren.sl _ _ | exact Ren.ep _ | exact Ren.ptr _ _ _ _ rfl | exact Ren.nil _ | exact Ren.own _ _ _ _ ⟨_, rfl⟩ | refine ren_ag ?_ | refine ren_tu ?_ | refine ren_fn ?_ | refine ⟨?_, ?_⟩)) (by repeat' (first | exact trivial | exact RenB.v _ | exact RenB.sl _ _ | exact RenB.ep _ | exact RenB.ptr _ _ _ _ rfl | refine renb_ag ?_ | refine renb_tu ?_ | refine ⟨?_, ?_⟩)) ?_
  repeat (first | ((with_reducible refine k_bin ?_); refine m_binI rfl rfl rfl ?_)  | refine e_nrm ?_ | refine x_none rfl ?_ | with_reducible refine q_then ?_ )
  refine w_cond rfl (fun h => ?_) (fun h => ?_)
  · repeat (first | ((with_reducible refine k_assign ?_); refine m_assign rfl ?_)  | refine e_nrm ?_ | refine x_none rfl ?_ | with_reducible refine q_then ?_ | with_reducible refine q_then_ret ?_ | with_reducible refine awp_seq ?_ | with_reducible refine awp_ret ?_ | ((with_reducible refine w_region ?_ ?_); kernel_rfl))
    refine ret_v (by first | exact .inr rfl | exact .inl rfl) rfl rfl ?_
    rfl
  have hc : chkS L = 0 := by simpa using h
  clear h
  obtain ⟨F1, F2⟩ := fix_fresh nZ9 hc hx (hsm x (List.mem_of_getElem? hx)) (by decide +kernel) z9_no
  obtain ⟨i, -, fi, fx, -, -, fe, fc⟩ := fixS_ok F1
  obtain ⟨g1, g2⟩ := find_uniq (n := x.num) hc hx rfl
  have C0 := find_A (G := X.G) L x.num hG hmx hlm
  rw [g1] at C0
  have C2 := fix_A (G := X.G) L x.num nZ9 hG hmx hlm (by decide)
  have hK : Kept x.num x.keys (fixS L x.num nZ9).1 d ⟨x.num, x.keys, insG strLt nZ9 x.locked⟩ := by
    rw [F2] at fc ⊢
    refine ⟨fc, set_at' hx, rfl, rfl, insG_mem.2 (.inl rfl), fun y hy => ?_, fun y hy => ?_⟩
    · rcases List.mem_or_eq_of_mem_set hy with h1 | rfl
      · exact hmx y h1
      · obtain ⟨a, b, c⟩ := hsm _ (List.mem_of_getElem? hx)
        refine ⟨by show x.keys.length ≤ 900; omega, by show (insG strLt nZ9 x.locked).length ≤ 900; rw [insG_len]; omega, fun z hz => ?_⟩
        rcases insG_mem.1 hz with rfl | hz
        · decide
        · exact (hmx _ (List.mem_of_getElem? hx)).2.2 z hz
    · rcases List.mem_or_eq_of_mem_set hy with h1 | rfl
      · exact (hsm y h1).1
      · exact x1
  rw [F1] at C2
  generalize (fixS L x.num nZ9).1 = L1 at C2 hK
  clear F1 F2 fi fx fe fc g1 g2
  repeat (first | ((with_reducible refine k_move ?_); refine m_move rfl ?_) | ((with_reducible refine k_call ?_); refine x_len tbOk rfl rfl ?_)  | refine x_none rfl ?_ | with_reducible refine q_then ?_ | with_reducible refine awp_seq ?_ | with_reducible refine awp_skip ?_ | ((with_reducible refine w_region ?_ ?_); kernel_rfl))
  refine x_call (ss := [(30, 1)]) (hn) (by repeat' (first | exact trivial | exact Ren.v _ | exact Ren.sl _ _ | exact Ren.ep _ | exact Ren.ptr _ _ _ _ rfl | exact Ren.nil _ | exact Ren.own _ _ _ _ ⟨_, rfl⟩ | refine ren_ag ?_ | refine ren_tu ?_ | refine ren_fn ?_ | refine ⟨?_, ?_⟩)) (by simp) (in1 rfl rfl) rfl (back1 rfl) (by repeat' (first | exact trivial | exact RenB.v _ | exact RenB.sl _ _ | exact RenB.ep _ | exact RenB.ptr _ _ _ _ rfl | refine renb_ag ?_ | refine renb_tu ?_ | refine ⟨?_, ?_⟩)) ?_
  repeat (first | ((with_reducible refine k_move ?_); refine m_move rfl ?_) | ((with_reducible refine k_assign ?_); refine m_assign rfl ?_) | ((with_reducible refine k_fieldAddr ?_); refine x_fieldAddr_ep tbOk rfl rfl rfl rfl ?_) | ((with_reducible refine k_load ?_); refine x_load_ep_one tbOk rfl rfl rfl ?_) | ((with_reducible refine k_indexAddr ?_); refine x_indexAddr_n tbOk rfl rfl rfl rfl (by assumption) ?_)  | refine e_nrm ?_ | refine x_none rfl ?_ | with_reducible refine q_then ?_ | with_reducible refine awp_seq ?_ | ((with_reducible refine w_region ?_ ?_); kernel_rfl))
  refine x_call0 (C0) (by repeat' (first | exact trivial | exact Ren.v _ | exact Ren.sl _ _ | exact Ren.ep _ | exact Ren.ptr _ _ _ _ rfl | exact Ren.nil _ | exact Ren.own _ _ _ _ ⟨_, rfl⟩ | refine ren_ag ?_ | refine ren_tu ?_ | refine ren_fn ?_ | refine ⟨?_, ?_⟩)) (by repeat' (first | exact trivial | exact RenB.v _ | exact RenB.sl _ _ | exact RenB.ep _ | exact RenB.ptr _ _ _ _ rfl | refine renb_ag ?_ | refine renb_tu ?_ | refine ⟨?_, ?_⟩)) ?_
  repeat (first | ((with_reducible refine k_fieldAddr ?_); refine x_fieldAddr_ep tbOk rfl rfl rfl rfl ?_) | ((with_reducible refine k_load ?_); refine x_load_ep_one tbOk rfl rfl rfl ?_) | ((with_reducible refine k_indexAddr ?_); refine x_indexAddr_n tbOk rfl rfl rfl rfl (by assumption) ?_)  | refine x_none rfl ?_  )
  with_reducible refine k_call ?_
  refine x_append_nil tbOk rfl rfl rfl rfl rfl (by decide) rfl rfl rfl (iv_one x.keys) (by simp only [List.length_map]; omega) ?_
  repeat (first | ((with_reducible refine k_move ?_); refine m_move rfl ?_) | ((with_reducible refine k_assign ?_); refine m_assign rfl ?_)  | refine e_nrm ?_ | refine x_none rfl ?_ | with_reducible refine q_then ?_ | with_reducible refine awp_seq ?_ | ((with_reducible refine w_region ?_ ?_); kernel_rfl))
  refine x_call0 (C2) (by repeat' (first | exact trivial | exact Ren.v _ | exact Ren.sl _ _ | exact Ren.ep _ | exact Ren.ptr _ _ _ _ rfl | exact Ren.nil _ | exact Ren.own _ _ _ _ ⟨_, rfl⟩ | refine ren_ag ?_ | refine ren_tu ?_ | refine ren_fn ?_ | refine ⟨?_, ?_⟩)) (by repeat' (first | exact trivial | exact RenB.v _ | exact RenB.sl _ _ | exact RenB.ep _ | exact RenB.ptr _ _ _ _ rfl | refine renb_ag ?_ | refine renb_tu ?_ | refine ⟨?_, ?_⟩)) ?_
  repeat (first | ((with_reducible refine k_move ?_); refine m_move rfl ?_) | ((with_reducible refine k_assign ?_); refine m_assign rfl ?_) | ((with_reducible refine k_extract ?_); refine x_extract rfl rfl ?_) | ((with_reducible refine k_call ?_); refine x_len tbOk rfl rfl ?_) | ((with_reducible refine k_bin ?_); refine m_binI rfl rfl rfl ?_)  | refine e_nrm ?_ | refine x_none rfl ?_ | with_reducible refine q_then ?_ | with_reducible refine awp_seq ?_ | with_reducible refine awp_block ?_ | with_reducible refine awp_skip ?_ | ((with_reducible refine w_region ?_ ?_); kernel_rfl) | refine w_cond_f rfl (by first | rfl | assumption) ?_)
  refine awp_freeze (t := 8) (s := 51) rfl rfl ?_
  refine awp_loop (ι := Nat × List Sf) (fun q => q.1 ≤ moves.length ∧ ∃ s, Kept x.num x.keys q.2 d s) (fun q => moves.length - q.1) (fun v q => [(6, .sl 3 (q.2.map Sf.av)), (7, .v (.int .i64 x.num)), (8, .sl 1 (x.keys.map iv)), (60, .sl 1 (moves.map uv8)), (61, .v (.int .i64 (moves.map uv8).length)), (62, .v (.int .i64 (q.1 : Nat)))]) (fun v q => []) ?_ ?_
  · exact ⟨(0, L1), ⟨Nat.zero_le _, _, hK⟩, trivial, ⟨rfl, rfl, rfl, rfl, rfl, rfl, trivial⟩, trivial⟩
  clear hK C0 C2 hn hS hc hmx hsm hlm hml hl5 hl0 hE
  rintro v ⟨k, Q⟩ ⟨hk, s, hK⟩
  simp only at hk hK
  dsimp only
  have hQ16 := hK.len
  have hQm : Q.length ≤ maxLen := by unfold maxLen; omega
  repeat (first | ((with_reducible refine k_bin ?_); refine m_binI rfl rfl rfl ?_)  | refine e_nrm ?_ | refine x_none rfl ?_ | with_reducible refine q_then ?_ | with_reducible refine awp_seq ?_ | ((with_reducible refine w_region ?_ ?_); kernel_rfl))
  refine w_cond rfl (fun h => ?_) (fun h => ?_)
  · have hlt : k < moves.length := by simpa using h
    obtain ⟨m, hm⟩ := some_at hlt
    have hmy := uv8_at hm
    obtain ⟨m0, m1⟩ := hmv m (List.mem_of_getElem? hm)
    have w4 : 0 ≤ IntKind.u8.wrap (m.tdiv 4) ∧ IntKind.u8.wrap (m.tdiv 4) ≤ 255 := by rw [IntKind.wrap_u8]; omega
    have t0 : 0 ≤ (IntKind.u8.wrap (m.tdiv 4)).tmod 3 := Int.tmod_nonneg _ w4.1
    have t1 : (IntKind.u8.wrap (m.tdiv 4)).tmod 3 < 3 := Int.tmod_lt_of_pos _ (by omega)
    obtain ⟨nm, hnm, hnz, hny⟩ := pickBCD t0 t1
    repeat (first | ((with_reducible refine k_move ?_); refine m_move rfl ?_) | ((with_reducible refine k_assign ?_); refine m_assign rfl ?_) | ((with_reducible refine k_load ?_); refine x_load_ep_one tbOk rfl rfl rfl ?_) | ((with_reducible refine k_indexAddr ?_); refine x_indexAddr_n tbOk rfl rfl rfl rfl (by assumption) ?_) | ((with_reducible refine k_bin ?_); refine m_binI rfl rfl rfl ?_) | ((with_reducible refine k_bin ?_); refine x_rem rfl rfl (by first | decide | assumption | omega) ?_)  | refine e_nrm ?_ | refine x_none rfl ?_ | with_reducible refine q_then ?_ | with_reducible refine awp_seq ?_ | with_reducible refine awp_block ?_ | with_reducible refine awp_skip ?_ | ((with_reducible refine w_region ?_ ?_); kernel_rfl))
    refine w_cond rfl (fun h => ?_) (fun h => ?_)
    · have C := put_A (G := X.G) Q x.num (m + k) hG hK.mx (fun y hy => by have := hK.k3 y hy; omega) hQm
      rw [hK.put] at C
      repeat (first | ((with_reducible refine k_move ?_); refine m_move rfl ?_) | ((with_reducible refine k_convert ?_); refine x_conv_in tbOk rfl rfl rfl (by first | assumption | exact wrap_u64_in (by omega) | exact wrap_i64_in (by omega) | exact wrap_u8_in (by omega)) ?_) | ((with_reducible refine k_bin ?_); refine x_add_in rfl rfl (by omega) ?_)  | refine x_none rfl ?_  | ((with_reducible refine w_region ?_ ?_); kernel_rfl))
      refine x_call0 (C) (by repeat' (first | exact trivial | exact Ren.v _ | exact Ren.sl _ _ | exact Ren.ep _ | exact Ren.ptr _ _ _ _ rfl | exact Ren.nil _ | exact Ren.own _ _ _ _ ⟨_, rfl⟩ | refine ren_ag ?_ | refine ren_tu ?_ | refine ren_fn ?_ | refine ⟨?_, ?_⟩)) (by repeat' (first | exact trivial | exact RenB.v _ | exact RenB.sl _ _ | exact RenB.ep _ | exact RenB.ptr _ _ _ _ rfl | refine renb_ag ?_ | refine renb_tu ?_ | refine ⟨?_, ?_⟩)) ?_
      repeat (first | ((with_reducible refine k_move ?_); refine m_move rfl ?_) | ((with_reducible refine k_assign ?_); refine m_assign rfl ?_) | ((with_reducible refine k_extract ?_); refine x_extract rfl rfl ?_) | ((with_reducible refine k_bin ?_); refine x_add_in rfl rfl (by omega) ?_) | ((with_reducible refine k_bin ?_); refine m_binI rfl rfl rfl ?_)  | refine e_nrm ?_ | refine x_none rfl ?_ | with_reducible refine q_then ?_ | with_reducible refine q_block ?_ | with_reducible refine awp_seq ?_ | with_reducible refine awp_skip ?_ | ((with_reducible refine w_region ?_ ?_); kernel_rfl) | refine w_cond_f rfl (by first | rfl | assumption) ?_)
      exact ⟨(k + 1, Q), ⟨by show k + 1 ≤ moves.length; omega, s, hK⟩, by show moves.length - (k + 1) < moves.length - k; omega, ⟨rfl, rfl, rfl, rfl, rfl, rfl, trivial⟩, trivial⟩
    repeat (first | ((with_reducible refine k_assign ?_); refine m_assign rfl ?_) | ((with_reducible refine k_bin ?_); refine m_binI rfl rfl rfl ?_)  | refine e_nrm ?_ | refine x_none rfl ?_ | with_reducible refine q_then ?_ | with_reducible refine awp_seq ?_ | ((with_reducible refine w_region ?_ ?_); kernel_rfl))
    refine w_cond rfl (fun h => ?_) (fun h => ?_)
    · have C := take_A (G := X.G) Q x.num (IntKind.i64.wrap (m.tdiv 4)) hG hK.mx hQm
      rw [hK.take] at C
      repeat (first | ((with_reducible refine k_move ?_); refine m_move rfl ?_) | ((with_reducible refine k_convert ?_); refine x_conv_in tbOk rfl rfl rfl (by first | assumption | exact wrap_u64_in (by omega) | exact wrap_i64_in (by omega) | exact wrap_u8_in (by omega)) ?_) | ((with_reducible refine k_bin ?_); refine x_quo rfl rfl (by first | decide | assumption | omega) ?_)  | refine x_none rfl ?_  | ((with_reducible refine w_region ?_ ?_); kernel_rfl))
      refine x_call0 (C) (by repeat' (first | exact trivial | exact Ren.v _ | exact Ren.sl _ _ | exact Ren.ep _ | exact Ren.ptr _ _ _ _ rfl | exact Ren.nil _ | exact Ren.own _ _ _ _ ⟨_, rfl⟩ | refine ren_ag ?_ | refine ren_tu ?_ | refine ren_fn ?_ | refine ⟨?_, ?_⟩)) (by repeat' (first | exact trivial | exact RenB.v _ | exact RenB.sl _ _ | exact RenB.ep _ | exact RenB.ptr _ _ _ _ rfl | refine renb_ag ?_ | refine renb_tu ?_ | refine ⟨?_, ?_⟩)) ?_
      repeat (first | ((with_reducible refine k_move ?_); refine m_move rfl ?_) | ((with_reducible refine k_assign ?_); refine m_assign rfl ?_) | ((with_reducible refine k_extract ?_); refine x_extract rfl rfl ?_) | ((with_reducible refine k_bin ?_); refine x_add_in rfl rfl (by omega) ?_) | ((with_reducible refine k_bin ?_); refine m_binI rfl rfl rfl ?_)  | refine e_nrm ?_ | refine x_none rfl ?_ | with_reducible refine q_then ?_ | with_reducible refine q_block ?_ | with_reducible refine awp_seq ?_ | with_reducible refine awp_skip ?_ | ((with_reducible refine w_region ?_ ?_); kernel_rfl) | refine w_cond_f rfl (by first | rfl | assumption) ?_)
      exact ⟨(k + 1, Q), ⟨by show k + 1 ≤ moves.length; omega, s, hK⟩, by show moves.length - (k + 1) < moves.length - k; omega, ⟨rfl, rfl, rfl, rfl, rfl, rfl, trivial⟩, trivial⟩
    repeat (first | ((with_reducible refine k_assign ?_); refine m_assign rfl ?_) | ((with_reducible refine k_bin ?_); refine m_binI rfl rfl rfl ?_)  | refine e_nrm ?_ | refine x_none rfl ?_ | with_reducible refine q_then ?_ | with_reducible refine awp_seq ?_ | ((with_reducible refine w_region ?_ ?_); kernel_rfl))
    refine w_cond rfl (fun h => ?_) (fun h => ?_)
    · have C := fix_A (G := X.G) Q x.num nm hG hK.mx hQm hnm
      have P := hK.fix hnm
      generalize fixS Q x.num nm = R at C P
      obtain ⟨R, e⟩ := R
      simp only at C P
      repeat (first | ((with_reducible refine k_move ?_); refine m_move rfl ?_) | ((with_reducible refine k_load ?_); refine x_load_ep_one tbOk rfl rfl rfl ?_) | ((with_reducible refine k_indexAddr ?_); refine x_indexAddr tbOk rfl rfl rfl rfl (by omega) (by assumption) ?_) | ((with_reducible refine k_convert ?_); refine x_conv_in tbOk rfl rfl rfl (by first | assumption | exact wrap_u64_in (by omega) | exact wrap_i64_in (by omega) | exact wrap_u8_in (by omega)) ?_) | ((with_reducible refine k_bin ?_); refine x_rem rfl rfl (by first | decide | assumption | omega) ?_) | ((with_reducible refine k_bin ?_); refine x_quo rfl rfl (by first | decide | assumption | omega) ?_) | ((with_reducible refine k_buildSlice ?_); refine m_buildSlice tbOk rfl rfl rfl rfl rfl (by omega) rfl rfl rfl ?_) | refine x_none rfl ?_  | ((with_reducible refine w_region ?_ ?_); kernel_rfl))
      refine x_call0 (C) (by repeat' (first | exact trivial | exact Ren.v _ | exact Ren.sl _ _ | exact Ren.ep _ | exact Ren.ptr _ _ _ _ rfl | exact Ren.nil _ | exact Ren.own _ _ _ _ ⟨_, rfl⟩ | refine ren_ag ?_ | refine ren_tu ?_ | refine ren_fn ?_ | refine ⟨?_, ?_⟩)) (by repeat' (first | exact trivial | exact RenB.v _ | exact RenB.sl _ _ | exact RenB.ep _ | exact RenB.ptr _ _ _ _ rfl | refine renb_ag ?_ | refine renb_tu ?_ | refine ⟨?_, ?_⟩)) ?_
      repeat (first | ((with_reducible refine k_move ?_); refine m_move rfl ?_) | ((with_reducible refine k_assign ?_); refine m_assign rfl ?_) | ((with_reducible refine k_extract ?_); refine x_extract rfl rfl ?_) | ((with_reducible refine k_bin ?_); refine m_binI rfl rfl rfl ?_)  | refine e_nrm ?_ | refine x_none rfl ?_ | with_reducible refine q_then ?_ | with_reducible refine q_block ?_ | with_reducible refine awp_seq ?_ | ((with_reducible refine w_region ?_ ?_); kernel_rfl))
      refine w_cond rfl (fun h => ?_) (fun h => ?_)
      · obtain ⟨s', hK'⟩ := P (by simpa using h)
        repeat (first | ((with_reducible refine k_move ?_); refine m_move rfl ?_) | ((with_reducible refine k_assign ?_); refine m_assign rfl ?_) | ((with_reducible refine k_bin ?_); refine x_add_in rfl rfl (by omega) ?_)  | refine e_nrm ?_ | refine x_none rfl ?_ | with_reducible refine q_then ?_ | with_reducible refine q_block ?_ | ((with_reducible refine w_region ?_ ?_); kernel_rfl))
        exact ⟨(k + 1, R), ⟨by show k + 1 ≤ moves.length; omega, s', hK'⟩, by show moves.length - (k + 1) < moves.length - k; omega, ⟨rfl, rfl, rfl, rfl, rfl, rfl, trivial⟩, trivial⟩
      · repeat (first | ((with_reducible refine k_move ?_); refine m_move rfl ?_) | ((with_reducible refine k_bin ?_); refine x_add_in rfl rfl (by omega) ?_)  | refine e_nrm ?_ | refine x_none rfl ?_ | with_reducible refine q_then ?_ | with_reducible refine q_block ?_ | with_reducible refine awp_skip ?_ | ((with_reducible refine w_region ?_ ?_); kernel_rfl))
        exact ⟨(k + 1, Q), ⟨by show k + 1 ≤ moves.length; omega, s, hK⟩, by show moves.length - (k + 1) < moves.length - k; omega, ⟨rfl, rfl, rfl, rfl, rfl, rfl, trivial⟩, trivial⟩
    · have C := rel_A (G := X.G) Q x.num nm hG hK.mx hQm
      have P := hK.rel hnz
      generalize relS Q x.num nm = R at C P
      obtain ⟨R, e⟩ := R
      simp only at C P
      repeat (first | ((with_reducible refine k_move ?_); refine m_move rfl ?_) | ((with_reducible refine k_load ?_); refine x_load_ep_one tbOk rfl rfl rfl ?_) | ((with_reducible refine k_indexAddr ?_); refine x_indexAddr tbOk rfl rfl rfl rfl (by omega) (by assumption) ?_) | ((with_reducible refine k_convert ?_); refine x_conv_in tbOk rfl rfl rfl (by first | assumption | exact wrap_u64_in (by omega) | exact wrap_i64_in (by omega) | exact wrap_u8_in (by omega)) ?_) | ((with_reducible refine k_bin ?_); refine x_rem rfl rfl (by first | decide | assumption | omega) ?_) | ((with_reducible refine k_bin ?_); refine x_quo rfl rfl (by first | decide | assumption | omega) ?_) | ((with_reducible refine k_buildSlice ?_); refine m_buildSlice tbOk rfl rfl rfl rfl rfl (by omega) rfl rfl rfl ?_) | refine x_none rfl ?_  | ((with_reducible refine w_region ?_ ?_); kernel_rfl))
      refine x_call0 (C) (by repeat' (first | exact trivial | exact Ren.v _ | exact Ren.sl _ _ | exact Ren.ep _ | exact Ren.ptr _ _ _ _ rfl | exact Ren.nil _ | exact Ren.own _ _ _ _ ⟨_, rfl⟩ | refine ren_ag ?_ | refine ren_tu ?_ | refine ren_fn ?_ | refine ⟨?_, ?_⟩)) (by repeat' (first | exact trivial | exact RenB.v _ | exact RenB.sl _ _ | exact RenB.ep _ | exact RenB.ptr _ _ _ _ rfl | refine renb_ag ?_ | refine renb_tu ?_ | refine ⟨?_, ?_⟩)) ?_
      repeat (first | ((with_reducible refine k_move ?_); refine m_move rfl ?_) | ((with_reducible refine k_assign ?_); refine m_assign rfl ?_) | ((with_reducible refine k_extract ?_); refine x_extract rfl rfl ?_) | ((with_reducible refine k_bin ?_); refine m_binI rfl rfl rfl ?_)  | refine e_nrm ?_ | refine x_none rfl ?_ | with_reducible refine q_then ?_ | with_reducible refine q_block ?_ | with_reducible refine awp_seq ?_ | ((with_reducible refine w_region ?_ ?_); kernel_rfl))
      refine w_cond rfl (fun h => ?_) (fun h => ?_)
      · obtain ⟨s', hK'⟩ := P (by simpa using h)
        repeat (first | ((with_reducible refine k_move ?_); refine m_move rfl ?_) | ((with_reducible refine k_assign ?_); refine m_assign rfl ?_) | ((with_reducible refine k_bin ?_); refine x_add_in rfl rfl (by omega) ?_)  | refine e_nrm ?_ | refine x_none rfl ?_ | with_reducible refine q_then ?_ | with_reducible refine q_block ?_ | ((with_reducible refine w_region ?_ ?_); kernel_rfl))
        exact ⟨(k + 1, R), ⟨by show k + 1 ≤ moves.length; omega, s', hK'⟩, by show moves.length - (k + 1) < moves.length - k; omega, ⟨rfl, rfl, rfl, rfl, rfl, rfl, trivial⟩, trivial⟩
      · repeat (first | ((with_reducible refine k_move ?_); refine m_move rfl ?_) | ((with_reducible refine k_bin ?_); refine x_add_in rfl rfl (by omega) ?_)  | refine e_nrm ?_ | refine x_none rfl ?_ | with_reducible refine q_then ?_ | with_reducible refine q_block ?_ | with_reducible refine awp_skip ?_ | ((with_reducible refine w_region ?_ ?_); kernel_rfl))
        exact ⟨(k + 1, Q), ⟨by show k + 1 ≤ moves.length; omega, s, hK⟩, by show moves.length - (k + 1) < moves.length - k; omega, ⟨rfl, rfl, rfl, rfl, rfl, rfl, trivial⟩, trivial⟩
  have C0 := find_A (G := X.G) Q x.num hG hK.mx hQm
  rw [hK.find.1] at C0
  have C1 := lkd_A (G := X.G) Q x.num nZ9 hG hK.mx hQm
  rw [hK.lkd] at C1
  have hyQ := sf_at hK.at_
  have eK := hK.keys
  have b0 : (((s.keys.map iv).length : Int) != ((x.keys.map iv).length : Int)) = false := by rw [eK]; simp
  have hkl : (s.keys.map iv).length = x.keys.length := by rw [eK]; simp
  repeat (first | ((with_reducible refine k_move ?_); refine m_move rfl ?_)  | refine x_none rfl ?_ | with_reducible refine q_then ?_ | with_reducible refine q_then_exit ?_ | with_reducible refine awp_seq ?_ | with_reducible refine awp_exit ?_ | ((with_reducible refine q_block_exit ?_ ?_); rfl) | ((with_reducible refine w_region ?_ ?_); kernel_rfl))
  refine x_call0 (C0) (by repeat' (first | exact trivial | exact Ren.v _ | exact Ren.sl _ _ | exact Ren.ep _ | exact Ren.ptr _ _ _ _ rfl | exact Ren.nil _ | exact Ren.own _ _ _ _ ⟨_, rfl⟩ | refine ren_ag ?_ | refine ren_tu ?_ | refine ren_fn ?_ | refine ⟨?_, ?_⟩)) (by repeat' (first | exact trivial | exact RenB.v _ | exact RenB.sl _ _ | exact RenB.ep _ | exact RenB.ptr _ _ _ _ rfl | refine renb_ag ?_ | refine renb_tu ?_ | refine ⟨?_, ?_⟩)) ?_
  repeat (first | ((with_reducible refine k_move ?_); refine m_move rfl ?_) | ((with_reducible refine k_assign ?_); refine m_assign rfl ?_) | ((with_reducible refine k_fieldAddr ?_); refine x_fieldAddr_ep tbOk rfl rfl rfl rfl ?_) | ((with_reducible refine k_load ?_); refine x_load_ep_one tbOk rfl rfl rfl ?_) | ((with_reducible refine k_indexAddr ?_); refine x_indexAddr_n tbOk rfl rfl rfl rfl (by assumption) ?_) | ((with_reducible refine k_call ?_); refine x_len tbOk rfl rfl ?_) | ((with_reducible refine k_bin ?_); refine m_binI rfl rfl rfl ?_)  | refine e_nrm ?_ | refine x_none rfl ?_ | refine x_run_f rfl rfl (by first | rfl | assumption) ?_ | with_reducible refine q_then ?_ | with_reducible refine awp_seq ?_ | ((with_reducible refine w_region ?_ ?_); kernel_rfl))
  refine x_call0 (C1) (by repeat' (first | exact trivial | exact Ren.v _ | exact Ren.sl _ _ | exact Ren.ep _ | exact Ren.ptr _ _ _ _ rfl | exact Ren.nil _ | exact Ren.own _ _ _ _ ⟨_, rfl⟩ | refine ren_ag ?_ | refine ren_tu ?_ | refine ren_fn ?_ | refine ⟨?_, ?_⟩)) (by repeat' (first | exact trivial | exact RenB.v _ | exact RenB.sl _ _ | exact RenB.ep _ | exact RenB.ptr _ _ _ _ rfl | refine renb_ag ?_ | refine renb_tu ?_ | refine ⟨?_, ?_⟩)) ?_
  repeat (first | ((with_reducible refine k_move ?_); refine m_move rfl ?_) | ((with_reducible refine k_un ?_); refine x_not rfl ?_) | ((with_reducible refine k_pick ?_); refine m_pickf rfl (by first | rfl | assumption) rfl ?_) | ((with_reducible refine k_call ?_); refine x_len tbOk rfl rfl ?_)  | refine e_nrm ?_ | refine x_none rfl ?_ | refine x_run_f rfl rfl (by first | rfl | assumption) ?_ | with_reducible refine q_then ?_ | with_reducible refine awp_seq ?_ | with_reducible refine awp_block ?_ | with_reducible refine awp_skip ?_ | ((with_reducible refine w_region ?_ ?_); kernel_rfl) | refine w_cond_f rfl (by first | rfl | assumption) ?_)
  refine awp_loop (ι := Nat) (fun a => a ≤ x.keys.length) (fun a => x.keys.length - a) (fun v a => [(8, .sl 1 (x.keys.map iv)), (14, .sl 1 (s.keys.map iv)), (144, .v (.int .i64 (s.keys.map iv).length)), (145, .v (.int .i64 a))]) (fun v a => []) ?_ ?_
  · exact ⟨0, Nat.zero_le _, trivial, ⟨rfl, rfl, rfl, rfl, trivial⟩, trivial⟩
  clear v
  rintro v a ha
  repeat (first | ((with_reducible refine k_bin ?_); refine m_binI rfl rfl rfl ?_)  | refine e_nrm ?_ | refine x_none rfl ?_ | with_reducible refine q_then ?_ | with_reducible refine awp_seq ?_ | ((with_reducible refine w_region ?_ ?_); kernel_rfl))
  refine w_cond rfl (fun h => ?_) (fun h => ?_)
  · have hlta : a < x.keys.length := by have := of_decide_eq_true h; omega
    obtain ⟨z, hz⟩ := some_at hlta
    have hzy : (x.keys.map iv)[a]? = some (iv z) := by rw [List.getElem?_map, hz]; rfl
    have hzs : (s.keys.map iv)[a]? = some (iv z) := by rw [eK]; exact hzy
    have b : (z != z) = false := by simp
    repeat (first | ((with_reducible refine k_move ?_); refine m_move rfl ?_) | ((with_reducible refine k_assign ?_); refine m_assign rfl ?_) | ((with_reducible refine k_load ?_); refine x_load_ep_one tbOk rfl rfl rfl ?_) | ((with_reducible refine k_indexAddr ?_); refine x_indexAddr_n tbOk rfl rfl rfl rfl (by assumption) ?_) | ((with_reducible refine k_bin ?_); refine x_add_in rfl rfl (by omega) ?_) | ((with_reducible refine k_bin ?_); refine m_binI rfl rfl rfl ?_)  | refine e_nrm ?_ | refine e_drw (by kernel_rfl) ?_ | refine x_none rfl ?_ | with_reducible refine q_then ?_ | with_reducible refine q_block ?_ | with_reducible refine awp_seq ?_ | with_reducible refine awp_block ?_ | with_reducible refine awp_skip ?_ | ((with_reducible refine w_region ?_ ?_); kernel_rfl) | ((with_reducible refine w_draw mixd ?_ ?_); kernel_rfl) | refine w_cond_f rfl (by first | rfl | assumption) ?_)
    exact ⟨a + 1, by omega, by omega, ⟨rfl, rfl, rfl, rfl, trivial⟩, trivial⟩
  · repeat (first | ((with_reducible refine k_assign ?_); refine m_assign rfl ?_)  | refine e_nrm ?_ | refine x_none rfl ?_ | with_reducible refine q_then ?_ | with_reducible refine q_then_exit ?_ | with_reducible refine awp_seq ?_ | with_reducible refine awp_exit ?_ | with_reducible refine awp_ret ?_ | ((with_reducible refine q_block_exit ?_ ?_); rfl) | ((with_reducible refine w_region ?_ ?_); kernel_rfl))
    refine ret_v (by first | exact .inr rfl | exact .inl rfl) rfl rfl ?_
    rfl
end Go.Proofs.YtlmkloghbgglkaaDoor
