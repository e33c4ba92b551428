/- permitofficemake.Locks without a state, at most 8, by the abstract machine; conditions: none. -/
import Derived.Test.YtamihjgfncjdoaaDoorLcC
set_option linter.unusedVariables false
set_option linter.unusedSimpArgs false
namespace Go.Proofs.YtamihjgfncjdoaaDoor
open Go Go.RowKit
set_option maxRecDepth 10000
variable {G : Nat → Option (List Value)}
set_option maxHeartbeats 4000000 in
theorem locks8_A (D : Dk) (N : List Nd) (V : List Dv) (hD : DkOk D) (hN : ∀ x ∈ N, x.n.size ≤ maxLen) (hV : ∀ x ∈ V, x.n.size ≤ maxLen) (h1 : N.length ≤ maxLen) (hV0 : 0 < V.length) (hV64 : V.length ≤ 64) :
    ACalls Tryd.prog G 18 [.ptr (refB + 0) 0 0, netAV N V, .sl 1 [], .v (.int .i64 8)] [D.cells] (.sl 3 ((locksP N V [] 8 0 D []).2.map Lk.av)) [(locksP N V [] 8 0 D []).1.cells] := by
  have h2 : V.length ≤ maxLen := by unfold maxLen; omega
  have hml : (V.map Dv.av).length = V.length := by simp
  refine acalls_of tbOk (enter_of Tryd.func18 (by kernel_rfl) rfl) Tryd.func18 rfl _ Tryd.ntmps18 (Nat.le_of_ble_eq_true rfl) fun X hX => ?_
  subst hX
  repeat (first | ((with_reducible refine k_assign ?_); refine m_assign rfl ?_) | ((with_reducible refine k_box ?_); refine m_box rfl rfl rfl ?_)  | refine e_nrm ?_ | refine x_none rfl ?_ | with_reducible (first | refine q_then ?_ | refine awp_seq ?_ | refine awp_block ?_) | ((with_reducible refine w_region ?_ ?_); kernel_rfl))
  refine awp_slot (t := 9) (.sl 3 (([] : List Lk).map Lk.av)) rfl (.inr ⟨rfl, 3, rfl⟩) (by decide) ?_
  refine awp_loopv (ι := Nat × Dk × List Lk) (fun v i => v (refB + 0) = 0 ∧ DkOk i.2.1 ∧ i.1 ≤ 8 ∧ i.2.2.length ≤ i.1 ∧ locksP N V [] (8 - i.1) i.1 i.2.1 i.2.2 = locksP N V [] 8 0 D []) (fun i => 8 - i.1) (fun v i => [(0, .ptr (refB + 0) (v (refB + 0)) 0), (2, .sl 1 []), (3, .v (.int .i64 8)), (5, .ptr 5 (v 5) 0), (9, .sl 3 (i.2.2.map Lk.av)), (10, .v (.int .i64 (i.1 : Nat)))]) (fun v i => [(refB + 0, .box i.2.1.cells), (5, .box [.sl 3 (N.map Nd.av), .sl 5 (V.map Dv.av)])]) ?_ ?_
  · exact ⟨(0, D, []), ⟨rfl, hD, Nat.zero_le _, Nat.le_refl _, rfl⟩, trivial, ⟨rfl, rfl, rfl, rfl, rfl, rfl, trivial⟩, ⟨rfl, rfl, trivial⟩⟩
  rintro v ⟨i, E, L⟩ ⟨hv0, hE, hi, hl, hf⟩
  simp only at hv0 hE hi hl hf
  dsimp only
  repeat (first | ((with_reducible refine k_move ?_); refine m_move rfl ?_) | ((with_reducible refine k_bin ?_); refine m_binI rfl rfl rfl ?_)  | refine x_none rfl ?_ | with_reducible refine awp_seq ?_ | ((with_reducible refine w_region ?_ ?_); kernel_rfl))
  refine x_split rfl rfl (fun b1 => ?_) (fun b1 => ?_)
  · have hlt : i < 8 := by simp at b1; omega
    obtain ⟨m, hm1, hm2⟩ : ∃ m, 8 - i = m + 1 ∧ 8 - (i + 1) = m := ⟨7 - i, by omega, by omega⟩
    have b2 : decide (((V.map Dv.av).length : Int) > 0) = true := by rw [hml]; simp; omega
    rw [hm1] at hf
    repeat (first | ((with_reducible refine k_move ?_); refine m_move rfl ?_) | ((with_reducible refine k_fieldAddr ?_); refine x_fieldAddr_ptr tbOk rfl rfl rfl rfl ?_) | ((with_reducible refine k_load ?_); refine x_load_one tbOk rfl rfl rfl rfl rfl ?_) | ((with_reducible refine k_pick ?_); refine m_pickt rfl (by first | rfl | assumption) rfl ?_) | ((with_reducible refine k_call ?_); refine x_len tbOk rfl rfl ?_) | ((with_reducible refine k_bin ?_); refine m_binI rfl rfl rfl ?_)  | refine e_nrm ?_ | refine x_none rfl ?_ | refine x_run_t rfl rfl (by first | rfl | assumption) ?_ | with_reducible (first | refine q_then ?_ | refine awp_seq ?_ | refine awp_block ?_ | refine awp_skip ?_) | ((with_reducible refine w_region ?_ ?_); kernel_rfl) | refine w_cond_t rfl (by first | rfl | assumption) ?_)
    refine zD (ss := [(refB + 0, v (refB + 0))]) (one_A E 3 hE (by omega) (by omega)) (by simp) (in1 rfl rfl) rfl (back1 rfl) ?_
    repeat (first   | refine e_nrm ?_ | with_reducible refine q_then ?_ )
    refine w_cond rfl (fun h => ?_) (fun h => ?_)
    · have h0 : E.val 3 = 0 := by simpa using h
      have eS : lockS N V [] i E L = (E.next, L) := by unfold lockS; rw [if_pos h0]
      rw [locksP, eS] at hf
      repeat (first | ((with_reducible refine k_move ?_); refine m_move rfl ?_) | ((with_reducible refine k_assign ?_); refine m_assign rfl ?_) | ((with_reducible refine k_bin ?_); refine x_add_in rfl rfl (by omega) ?_)  | refine e_nrm ?_ | refine x_none rfl ?_ | with_reducible (first | refine q_then ?_ | refine q_then_exit ?_ | refine awp_exit ?_) | ((with_reducible refine q_block_exit ?_ ?_); rfl) | ((with_reducible refine w_region ?_ ?_); kernel_rfl))
      exact ⟨(i + 1, E.next, L), ⟨hv0, hE.next, by show i + 1 ≤ 8; omega, by show L.length ≤ i + 1; omega, by show locksP N V [] (8 - (i + 1)) (i + 1) E.next L = _; rw [hm2]; exact hf⟩, by show 8 - (i + 1) < 8 - i; omega, ⟨rfl, rfl, rfl, rfl, rfl, rfl, trivial⟩, ⟨rfl, rfl, trivial⟩⟩
    have h0 : ¬ E.val 3 = 0 := by simpa using h
    have hn := next_A (G := X.G) E.next ((V.map Dv.av).length : Int) hE.next (by omega) (by omega)
    have r := E.next.val_range (n := ((V.map Dv.av).length : Int)) (by omega)
    have rlt := r.2.1 (by omega)
    obtain ⟨d, hd⟩ := Int.eq_ofNat_of_zero_le r.1
    rw [hd] at hn rlt
    have b3 : decide ((d : Int) < (([] : List AV).length : Int)) = false := by simp
    have r3 := E.next.next.val_range (n := 3) (by omega)
    have a3 := r3.2.1 (by omega)
    have ek : lkN [] i E V.length = ⟨(d : Int), 1, 10 + 3 * (i : Int) + E.next.next.val 3⟩ := by
      rw [hml] at hd
      unfold lkN posS
      rw [hd]
      simp
    have hA := radd_A (G := X.G) N V L ⟨(d : Int), 1, 10 + 3 * (i : Int) + E.next.next.val 3⟩ hN hV h1 h2 (by unfold maxLen; omega)
    have hlen := addK_len N V L ⟨(d : Int), 1, 10 + 3 * (i : Int) + E.next.next.val 3⟩
    have eS : lockS N V [] i E L = (E.next.next.next, if (addK N V L ⟨(d : Int), 1, 10 + 3 * (i : Int) + E.next.next.val 3⟩).2 = 0 then (addK N V L ⟨(d : Int), 1, 10 + 3 * (i : Int) + E.next.next.val 3⟩).1 else L) := by unfold lockS; rw [if_neg h0, ek]
    rw [locksP, eS] at hf
    generalize addK N V L ⟨(d : Int), 1, 10 + 3 * (i : Int) + E.next.next.val 3⟩ = Q at hA hlen hf
    obtain ⟨Q, e⟩ := Q
    simp only at hA hlen hf
    have hw : IntKind.i64.wrap (IntKind.i64.wrap (10 + IntKind.i64.wrap (3 * (i : Int))) + E.next.next.val 3) = 10 + 3 * (i : Int) + E.next.next.val 3 := by
      rw [wrap_i64_in (z := 3 * (i : Int)) (by omega), wrap_i64_in (z := 10 + 3 * (i : Int)) (by omega), wrap_i64_in (by omega)]
    rw [← hw] at hA
    repeat (first | ((with_reducible refine k_move ?_); refine m_move rfl ?_) | ((with_reducible refine k_fieldAddr ?_); refine x_fieldAddr_ptr tbOk rfl rfl rfl rfl ?_) | ((with_reducible refine k_load ?_); refine x_load_one tbOk rfl rfl rfl rfl rfl ?_) | ((with_reducible refine k_call ?_); refine x_len tbOk rfl rfl ?_)  | refine x_none rfl ?_ | with_reducible (first | refine q_then ?_ | refine awp_seq ?_ | refine awp_skip ?_) | ((with_reducible refine w_region ?_ ?_); kernel_rfl))
    refine zD (ss := [(refB + 0, v (refB + 0))]) (hn) (by simp) (in1 rfl rfl) rfl (back1 rfl) ?_
    repeat (first | ((with_reducible refine k_move ?_); refine m_move rfl ?_) | ((with_reducible refine k_assign ?_); refine m_assign rfl ?_) | ((with_reducible refine k_load ?_); refine x_load_agg tbOk rfl rfl rfl rfl (Nat.le_of_ble_eq_true rfl) ?_) | ((with_reducible refine k_pick ?_); refine m_pickf rfl (by first | rfl | assumption) rfl ?_) | ((with_reducible refine k_call ?_); refine x_len tbOk rfl rfl ?_) | ((with_reducible refine k_bin ?_); refine m_binI rfl rfl rfl ?_)  | refine e_nrm ?_ | refine x_none rfl ?_ | refine x_skip_t rfl rfl (by first | rfl | assumption) ?_ | with_reducible (first | refine q_then ?_ | refine awp_seq ?_ | refine awp_skip ?_) | ((with_reducible refine w_region ?_ ?_); kernel_rfl) | ((with_reducible refine w_draw mixd ?_ ?_); kernel_rfl) | refine w_cond_f rfl (by first | rfl | assumption) ?_)
    refine zD (ss := [(refB + 0, v (refB + 0))]) (next_A E.next.next 3 hE.next.next (by omega) (by omega)) (by simp) (in1 rfl rfl) rfl (back1 rfl) ?_
    repeat (first | ((with_reducible refine k_build ?_); refine m_build tbOk rfl rfl rfl rfl rfl ?_) | ((with_reducible refine k_bin ?_); refine m_binI rfl rfl rfl ?_)  | refine x_none rfl ?_  )
    refine zC (hA) ?_
    repeat (first | ((with_reducible refine k_move ?_); refine m_move rfl ?_) | ((with_reducible refine k_assign ?_); refine m_assign rfl ?_) | ((with_reducible refine k_extract ?_); refine x_extract rfl rfl ?_) | ((with_reducible refine k_bin ?_); refine m_binI rfl rfl rfl ?_)  | refine e_nrm ?_ | refine e_drw (by kernel_rfl) ?_ | refine x_none rfl ?_ | with_reducible (first | refine q_then ?_ | refine awp_seq ?_) | ((with_reducible refine w_region ?_ ?_); kernel_rfl))
    refine w_cond rfl (fun h => ?_) (fun h => ?_)
    · have he : e = 0 := by simpa using h
      rw [if_pos he] at hf
      repeat (first | ((with_reducible refine k_move ?_); refine m_move rfl ?_) | ((with_reducible refine k_assign ?_); refine m_assign rfl ?_) | ((with_reducible refine k_bin ?_); refine x_add_in rfl rfl (by omega) ?_)  | refine e_nrm ?_ | refine x_none rfl ?_ | with_reducible (first | refine q_then ?_ | refine q_block ?_) | ((with_reducible refine w_region ?_ ?_); kernel_rfl))
      exact ⟨(i + 1, E.next.next.next, Q), ⟨hv0, hE.next.next.next, by show i + 1 ≤ 8; omega, by show Q.length ≤ i + 1; omega, by show locksP N V [] (8 - (i + 1)) (i + 1) E.next.next.next Q = _; rw [hm2]; exact hf⟩, by show 8 - (i + 1) < 8 - i; omega, ⟨rfl, rfl, rfl, rfl, rfl, rfl, trivial⟩, ⟨rfl, rfl, trivial⟩⟩
    · have he : ¬ e = 0 := by simpa using h
      rw [if_neg he] at hf
      repeat (first | ((with_reducible refine k_move ?_); refine m_move rfl ?_) | ((with_reducible refine k_assign ?_); refine m_assign rfl ?_) | ((with_reducible refine k_bin ?_); refine x_add_in rfl rfl (by omega) ?_)  | refine e_nrm ?_ | refine x_none rfl ?_ | with_reducible (first | refine q_then ?_ | refine q_block ?_ | refine awp_skip ?_) | ((with_reducible refine w_region ?_ ?_); kernel_rfl))
      exact ⟨(i + 1, E.next.next.next, L), ⟨hv0, hE.next.next.next, by show i + 1 ≤ 8; omega, by show L.length ≤ i + 1; omega, by show locksP N V [] (8 - (i + 1)) (i + 1) E.next.next.next L = _; rw [hm2]; exact hf⟩, by show 8 - (i + 1) < 8 - i; omega, ⟨rfl, rfl, rfl, rfl, rfl, rfl, trivial⟩, ⟨rfl, rfl, trivial⟩⟩
  · obtain rfl : i = 8 := by simp at b1; omega
    have hf' : locksP N V [] 8 0 D [] = (E, L) := hf.symm
    rw [hf']
    repeat (first | ((with_reducible refine k_move ?_); refine m_move rfl ?_) | ((with_reducible refine k_assign ?_); refine m_assign rfl ?_) | ((with_reducible refine k_pick ?_); refine m_pickf rfl (by first | rfl | assumption) rfl ?_)  | refine e_nrm ?_ | refine x_none rfl ?_ | refine x_skip_t rfl rfl (by first | rfl | assumption) ?_ | with_reducible (first | refine q_then ?_ | refine q_then_exit ?_ | refine awp_seq ?_ | refine awp_exit ?_ | refine awp_ret ?_) | ((with_reducible refine q_block_exit ?_ ?_); rfl) | ((with_reducible refine w_region ?_ ?_); kernel_rfl) | refine w_cond_f rfl (by first | rfl | assumption) ?_)
    refine ret1_1 (by first | exact .inr rfl | exact .inl rfl) rfl rfl ?_ rfl hv0 (by repeat' (first | exact trivial | exact Ren.v _ | exact Ren.sl _ _ | exact Ren.ep _ | exact Ren.ptr _ _ _ _ rfl | exact Ren.bs _ _ _ _ _ rfl | exact Ren.nil _ | exact Ren.own _ _ _ _ ⟨_, rfl⟩ | refine ren_ag ?_ | refine ren_tu ?_ | refine ren_fn ?_ | refine ⟨?_, ?_⟩))
    repeat' (first | exact trivial | exact Ren.v _ | exact Ren.sl _ _ | exact Ren.ep _ | exact Ren.ptr _ _ _ _ rfl | exact Ren.bs _ _ _ _ _ rfl | exact Ren.nil _ | exact Ren.own _ _ _ _ ⟨_, rfl⟩ | refine ren_ag ?_ | refine ren_tu ?_ | refine ren_fn ?_ | refine ⟨?_, ?_⟩)
end Go.Proofs.YtamihjgfncjdoaaDoor
