/- permitofficelaw34.CertificateBack, by the abstract machine: it answers true for all its arguments; conditions: the tables of classes and powers and a cell of the library stand. -/
import Derived.Test.YtamihjgfncjdoaaGreatDoorCeJ
import Derived.Test.YtamihjgfncjdoaaGreatDoorDkB
import Derived.Test.YtamihjgfncjdoaaGreatDoorCeE
import Derived.Test.YtamihjgfncjdoaaGreatDoorTiQ
import Derived.Test.YtamihjgfncjdoaaGreatDoorTieA
import Derived.Test.YtamihjgfncjdoaaGreatDoorMdA
set_option linter.unusedVariables false
set_option linter.unusedSimpArgs false
namespace Go.Proofs.YtamihjgfncjdoaaGreatDoor
open Go Go.RowKit
set_option maxRecDepth 10000
variable {G : Nat → Option (List Value)}
theorem nums_len (s : ByteArray) : (numsS s).length = s.size := numsS_len s
theorem strN_len (L : List Int) : (strOfNums L).data.toList.length = L.length := by simp [strOfNums]
theorem printC_ok {N : List Nd} {V : List Dv} {c : Ce} (h0 : certE N V c = 0) (hl : (joinW (ceW V c)).length ≤ 256) : printC N V c = (joinW (ceW V c), 0) := by
  unfold printC
  rw [if_neg (by rw [h0]; decide), if_neg (by omega)]
theorem ceW_pos (V : List Dv) (c : Ce) : 0 < (joinW (ceW V c)).length := by
  unfold ceW
  rw [List.cons_append, List.cons_append, joinW_cons, List.length_append]
  show 0 < 11 + _
  omega
theorem tie_small (D : Dk) : (∀ x ∈ tieNs D, x.n.size ≤ 1000) ∧ (∀ x ∈ tieVs D, x.n.size ≤ 1000) := by
  obtain ⟨s1, s2⟩ := tie_sz D
  exact ⟨fun x hx => by rw [s1 x hx]; decide, fun x hx => by rw [s2 x hx]; decide⟩
set_option maxRecDepth 100000 in
set_option maxHeartbeats 16000000 in
theorem back_law (l : List Int) (at_ by_ : Int) (hby : 0 ≤ by_ ∧ by_ ≤ 255) (hG : GCls G) (hP : GPow G) (hM : GMax G) : ACalls Tryz.prog G 3 [.sl 1 (l.map iv), .v (.int .i64 at_), .v (.int .u8 by_)] [] (.v (.bool true)) [] := by
  refine acalls_of tbOk (enter_of Tryz.func3 (by kernel_rfl) rfl) Tryz.func3 rfl _ Tryz.ntmps3 (Nat.le_of_ble_eq_true rfl) fun X hX => ?_
  subst hX
  repeat (first | ((with_reducible refine k_assign ?_); refine m_assign rfl ?_)  | refine e_nrm ?_ | refine x_none rfl ?_ | with_reducible (first | refine q_then ?_ | refine awp_seq ?_) | ((with_reducible refine w_region ?_ ?_); kernel_rfl))
  refine x_call0 (awake_A hG hP) (by repeat' exact trivial) (by repeat' exact RenB.v _) ?_
  repeat (first | ((with_reducible refine k_move ?_); refine m_move rfl ?_) | ((with_reducible refine k_un ?_); refine x_not rfl ?_)  | refine x_none rfl ?_ | refine x_run_f rfl rfl (by first | rfl | assumption) ?_  )
  refine x_call0 (few_A (l.map iv)) (by repeat' (first | exact trivial | exact Ren.sl _ _ | refine ⟨?_, ?_⟩)) (by repeat' exact RenB.v _) ?_
  repeat (first | ((with_reducible refine k_un ?_); refine x_not rfl ?_) | ((with_reducible refine k_pick ?_); refine m_pickf rfl (by first | rfl | assumption) rfl ?_)  | refine e_nrm ?_ | refine x_none rfl ?_ | refine x_run_f rfl rfl (by first | rfl | assumption) ?_ | with_reducible refine q_then ?_ )
  refine w_cond rfl (fun h => ?_) (fun h => ?_)
  · repeat (first   | refine x_none rfl ?_ | with_reducible refine awp_seq ?_ | ((with_reducible refine w_region ?_ ?_); kernel_rfl))
    refine x_call0 (awake_A hG hP) (by repeat' exact trivial) (by repeat' exact RenB.v _) ?_
    repeat (first | ((with_reducible refine k_assign ?_); refine m_assign rfl ?_)  | refine e_nrm ?_ | refine x_none rfl ?_ | with_reducible (first | refine q_then ?_ | refine q_then_ret ?_ | refine awp_ret ?_) )
    refine ret_v (by first | exact .inr rfl | exact .inl rfl) rfl rfl ?_
    rfl
  have h400 : l.length ≤ 400 := by simp at h; omega
  have hD := DkOk.new h400
  obtain ⟨n1, n2, n3, n4⟩ := tie_names (dk0 l)
  obtain ⟨v0, v64⟩ := tie_vlen (dk0 l)
  have hT := tie_A (G := X.G) (dk0 l) hD
  have hC := cert_A (G := X.G) (tieD (dk0 l)) (tieNs (dk0 l)) (tieVs (dk0 l)) (tieD_ok hD) n1 n2 n3 v0 v64
  have hCl := (certP_ok (N := tieNs (dk0 l)) (V := tieVs (dk0 l)) (tieD_ok hD)).2
  obtain ⟨m1, m2⟩ := tie_small (dk0 l)
  generalize tieNs (dk0 l) = N at *
  generalize tieVs (dk0 l) = V at *
  generalize certP N V (tieD (dk0 l)) = Q at hC hCl
  obtain ⟨E, c⟩ := Q
  simp only at hC hCl
  have hpr := cprint_A (G := X.G) N V c hG hP m1 m2 n3 n4 (by omega)
  have hck := ccheck_A (G := X.G) N V c hG n1 n2 n3 n4 (by omega)
  repeat (first | ((with_reducible refine k_move ?_); refine m_move rfl ?_)  | refine x_none rfl ?_ | with_reducible (first | refine q_then ?_ | refine awp_seq ?_ | refine awp_skip ?_) | ((with_reducible refine w_region ?_ ?_); kernel_rfl))
  refine x_call_new (new_A l) (by repeat' (first | exact trivial | exact Ren.sl _ _ | refine ⟨?_, ?_⟩)) (by repeat' (first | exact trivial | exact RenB.v _ | exact RenB.sl _ _ | refine ⟨?_, ?_⟩)) rfl ?_
  repeat (first | ((with_reducible refine k_move ?_); refine m_move rfl ?_) | ((with_reducible refine k_assign ?_); refine m_assign rfl ?_)  | refine e_nrm ?_ | refine x_none rfl ?_ | with_reducible (first | refine q_then ?_ | refine awp_seq ?_) | ((with_reducible refine w_region ?_ ?_); kernel_rfl))
  refine x_call (y := .tu [netAV N V, .sl 1 ((tieSs (dk0 l)).map iv)]) (ss := [(29, 1)]) (hT) (by repeat' (first | exact trivial | exact Ren.ptr _ _ _ _ rfl | refine ⟨?_, ?_⟩)) (by simp) (in1 rfl rfl) rfl (back1 rfl) (by repeat' (first | exact trivial | exact RenB.sl _ _ | refine renb_ag ?_ | refine renb_tu ?_ | refine ⟨?_, ?_⟩)) ?_
  repeat (first | ((with_reducible refine k_move ?_); refine m_move rfl ?_) | ((with_reducible refine k_assign ?_); refine m_assign rfl ?_) | ((with_reducible refine k_load ?_); refine x_load_agg tbOk rfl rfl rfl rfl (Nat.le_of_ble_eq_true rfl) ?_) | ((with_reducible refine k_store ?_); refine m_store tbOk rfl rfl rfl rfl rfl rfl rfl (Nat.le_of_ble_eq_true rfl) rfl ?_) | ((with_reducible refine k_alloc ?_); refine x_alloc tbOk rfl rfl ?_) | ((with_reducible refine k_extract ?_); refine x_extract rfl rfl ?_)  | refine e_nrm ?_ | refine x_none rfl ?_ | with_reducible (first | refine q_then ?_ | refine awp_seq ?_) | ((with_reducible refine w_region ?_ ?_); kernel_rfl))
  refine x_call (y := c.av) (ss := [(29, 1)]) (hC) (by repeat' (first | exact trivial | exact Ren.sl _ _ | exact Ren.ptr _ _ _ _ rfl | refine ren_ag ?_ | refine ⟨?_, ?_⟩)) (by simp) (in1 rfl rfl) rfl (back1 rfl) (by repeat' (first | exact trivial | exact RenB.v _ | exact RenB.sl _ _ | refine renb_ag ?_ | refine ⟨?_, ?_⟩)) ?_
  have p3 : strEq (strL []) ⟨#[]⟩ = true := strEq_iff.2 rfl
  by_cases h0 : certE N V c ≠ 0
  · have e : printC N V c = ([], certE N V c) := by unfold printC; rw [if_pos h0]
    rw [e] at hpr
    have p1 : (certE N V c != 0) = true := by simpa using h0
    have p2 : (certE N V c == certE N V c) = true := by simp
    repeat (first | ((with_reducible refine k_load ?_); refine x_load_agg tbOk rfl rfl rfl rfl (Nat.le_of_ble_eq_true rfl) ?_) | ((with_reducible refine k_store ?_); refine m_store tbOk rfl rfl rfl rfl rfl rfl rfl (Nat.le_of_ble_eq_true rfl) rfl ?_) | ((with_reducible refine k_alloc ?_); refine x_alloc tbOk rfl rfl ?_)  | refine e_nrm ?_ | refine x_none rfl ?_ | with_reducible (first | refine q_then ?_ | refine awp_seq ?_) | ((with_reducible refine w_region ?_ ?_); kernel_rfl))
    refine x_call0 (hpr) (by repeat' (first | exact trivial | exact Ren.v _ | exact Ren.sl _ _ | refine ren_ag ?_ | refine ⟨?_, ?_⟩)) (by repeat' (first | exact trivial | exact RenB.v _ | refine renb_tu ?_ | refine ⟨?_, ?_⟩)) ?_
    repeat (first | ((with_reducible refine k_move ?_); refine m_move rfl ?_) | ((with_reducible refine k_assign ?_); refine m_assign rfl ?_) | ((with_reducible refine k_load ?_); refine x_load_agg tbOk rfl rfl rfl rfl (Nat.le_of_ble_eq_true rfl) ?_) | ((with_reducible refine k_extract ?_); refine x_extract rfl rfl ?_) | ((with_reducible refine k_bin ?_); (first | refine m_binI rfl rfl rfl ?_ | refine m_binS rfl rfl rfl ?_))  | refine e_nrm ?_ | refine x_none rfl ?_ | refine x_run_t rfl rfl (by first | rfl | assumption) ?_ | with_reducible (first | refine q_then ?_ | refine awp_seq ?_) | ((with_reducible refine w_region ?_ ?_); kernel_rfl) | refine w_cond_t rfl (by first | rfl | assumption) ?_)
    refine x_call0 (hck) (by repeat' (first | exact trivial | exact Ren.v _ | exact Ren.sl _ _ | refine ren_ag ?_ | refine ⟨?_, ?_⟩)) (by repeat' exact RenB.v _) ?_
    repeat (first | ((with_reducible refine k_move ?_); refine m_move rfl ?_) | ((with_reducible refine k_assign ?_); refine m_assign rfl ?_) | ((with_reducible refine k_pick ?_); refine m_pickt rfl (by first | rfl | assumption) rfl ?_) | ((with_reducible refine k_bin ?_); refine m_binI rfl rfl rfl ?_)  | refine e_nrm ?_ | refine x_none rfl ?_ | refine x_run_t rfl rfl (by first | rfl | assumption) ?_ | refine x_skip_f rfl rfl (by first | rfl | assumption) ?_ | with_reducible (first | refine q_then ?_ | refine q_then_ret ?_ | refine awp_ret ?_) )
    refine ret_v (by first | exact .inr rfl | exact .inl rfl) rfl rfl ?_
    rfl
  have hc0 : certE N V c = 0 := by simpa using h0
  by_cases h256 : 256 < (joinW (ceW V c)).length
  · have e : printC N V c = ([], 1) := by unfold printC; rw [if_neg h0, if_pos h256]
    rw [e] at hpr
    rw [hc0] at hck
    repeat (first | ((with_reducible refine k_load ?_); refine x_load_agg tbOk rfl rfl rfl rfl (Nat.le_of_ble_eq_true rfl) ?_) | ((with_reducible refine k_store ?_); refine m_store tbOk rfl rfl rfl rfl rfl rfl rfl (Nat.le_of_ble_eq_true rfl) rfl ?_) | ((with_reducible refine k_alloc ?_); refine x_alloc tbOk rfl rfl ?_)  | refine e_nrm ?_ | refine x_none rfl ?_ | with_reducible (first | refine q_then ?_ | refine awp_seq ?_) | ((with_reducible refine w_region ?_ ?_); kernel_rfl))
    refine x_call0 (hpr) (by repeat' (first | exact trivial | exact Ren.v _ | exact Ren.sl _ _ | refine ren_ag ?_ | refine ⟨?_, ?_⟩)) (by repeat' (first | exact trivial | exact RenB.v _ | refine renb_tu ?_ | refine ⟨?_, ?_⟩)) ?_
    repeat (first | ((with_reducible refine k_move ?_); refine m_move rfl ?_) | ((with_reducible refine k_assign ?_); refine m_assign rfl ?_) | ((with_reducible refine k_load ?_); refine x_load_agg tbOk rfl rfl rfl rfl (Nat.le_of_ble_eq_true rfl) ?_) | ((with_reducible refine k_extract ?_); refine x_extract rfl rfl ?_) | ((with_reducible refine k_bin ?_); (first | refine m_binI rfl rfl rfl ?_ | refine m_binS rfl rfl rfl ?_))  | refine e_nrm ?_ | refine x_none rfl ?_ | refine x_run_t rfl rfl (by first | rfl | assumption) ?_ | with_reducible (first | refine q_then ?_ | refine awp_seq ?_) | ((with_reducible refine w_region ?_ ?_); kernel_rfl) | refine w_cond_t rfl (by first | rfl | assumption) ?_)
    refine x_call0 (hck) (by repeat' (first | exact trivial | exact Ren.v _ | exact Ren.sl _ _ | refine ren_ag ?_ | refine ⟨?_, ?_⟩)) (by repeat' exact RenB.v _) ?_
    repeat (first | ((with_reducible refine k_move ?_); refine m_move rfl ?_) | ((with_reducible refine k_assign ?_); refine m_assign rfl ?_) | ((with_reducible refine k_pick ?_); (first | refine m_pickt rfl (by first | rfl | assumption) rfl ?_ | refine m_pickf rfl (by first | rfl | assumption) rfl ?_)) | ((with_reducible refine k_bin ?_); refine m_binI rfl rfl rfl ?_)  | refine e_nrm ?_ | refine x_none rfl ?_ | refine x_run_t rfl rfl (by first | rfl | assumption) ?_ | refine x_run_f rfl rfl (by first | rfl | assumption) ?_ | with_reducible (first | refine q_then ?_ | refine q_then_ret ?_ | refine awp_ret ?_) )
    refine ret_v (by first | exact .inr rfl | exact .inl rfl) rfl rfl ?_
    rfl
  rw [printC_ok hc0 (by omega)] at hpr
  have hback := print_parseC hc0 (by omega)
  have hpos := ceW_pos V c
  obtain ⟨P, hPe⟩ : ∃ P, P = strL (joinW (ceW V c)) := ⟨_, rfl⟩
  have hPs : P.size ≤ 256 := by rw [hPe, strL_size]; omega
  have hP0 : 0 < P.size := by rw [hPe, strL_size]; omega
  have hPd : P.data.toList = joinW (ceW V c) := by rw [hPe, strL_data]
  dsimp only [svL] at hpr
  rw [← hPe] at hpr
  have ok : NwOk N V := ⟨n1, n2, n3, n4⟩
  have hp1 := cparse_A (G := X.G) N V P hG hM ok (by omega)
  rw [hPd, hback] at hp1
  dsimp only at hp1
  have hsm := same1_A (G := X.G) c c (by unfold maxLen; omega)
  rw [decide_eq_true rfl] at hsm
  have hmr := modP_rng at_ (k := (P.size : Int)) (by omega)
  have hmd := mod_A (G := X.G) at_ (P.size : Int) (by omega) (by omega)
  obtain ⟨mi, hmi⟩ : ∃ m, m = modP at_ (P.size : Int) := ⟨_, rfl⟩
  rw [← hmi] at hmr hmd
  obtain ⟨B, hB⟩ : ∃ B, B = strOfNums ((numsS P).set mi.toNat by_) := ⟨_, rfl⟩
  have hBl : B.size ≤ 256 := by
    have := nsizeS B
    rw [this, hB, strN_len, List.length_set, nums_len]
    exact hPs
  have hp2 := cparse_A (G := X.G) N V B hG hM ok (by omega)
  have hBp := fun (y : Ce) (e : parseC N V B.data.toList = (y, 0)) => parse_print e
  have hyl : (parseC N V B.data.toList).1.lk.length ≤ 900 := by
    have hs := split_len B.data.toList []
    have := nsizeS B
    unfold parseC
    split
    · exact Nat.zero_le _
    split
    · exact Nat.zero_le _
    rename_i c' hc'
    have := readR_len hc'
    repeat' split
    all_goals first
      | exact Nat.zero_le _
      | (show c'.lk.length ≤ 900; omega)
  obtain ⟨⟨y, ye⟩, hy⟩ : ∃ q, q = parseC N V B.data.toList := ⟨_, rfl⟩
  rw [← hy] at hp2 hyl hBp
  dsimp only at hp2 hyl
  have hp3 := cprint_A (G := X.G) N V y hG hP m1 m2 n3 n4 hyl
  clear hback hPe hPd hmi hy h256 h0 hc0 hpos hck
  repeat (first | ((with_reducible refine k_load ?_); refine x_load_agg tbOk rfl rfl rfl rfl (Nat.le_of_ble_eq_true rfl) ?_) | ((with_reducible refine k_store ?_); refine m_store tbOk rfl rfl rfl rfl rfl rfl rfl (Nat.le_of_ble_eq_true rfl) rfl ?_) | ((with_reducible refine k_alloc ?_); refine x_alloc tbOk rfl rfl ?_)  | refine e_nrm ?_ | refine x_none rfl ?_ | with_reducible (first | refine q_then ?_ | refine awp_seq ?_) | ((with_reducible refine w_region ?_ ?_); kernel_rfl))
  refine x_call0 (hpr) (by repeat' (first | exact trivial | exact Ren.v _ | exact Ren.sl _ _ | refine ren_ag ?_ | refine ⟨?_, ?_⟩)) (by repeat' (first | exact trivial | exact RenB.v _ | refine renb_tu ?_ | refine ⟨?_, ?_⟩)) ?_
  repeat (first | ((with_reducible refine k_move ?_); refine m_move rfl ?_) | ((with_reducible refine k_assign ?_); refine m_assign rfl ?_) | ((with_reducible refine k_load ?_); refine x_load_agg tbOk rfl rfl rfl rfl (Nat.le_of_ble_eq_true rfl) ?_) | ((with_reducible refine k_extract ?_); refine x_extract rfl rfl ?_) | ((with_reducible refine k_bin ?_); refine m_binI rfl rfl rfl ?_)  | refine e_nrm ?_ | refine x_none rfl ?_ | with_reducible (first | refine q_then ?_ | refine awp_seq ?_ | refine awp_skip ?_) | ((with_reducible refine w_region ?_ ?_); kernel_rfl) | refine w_cond_f rfl (by first | rfl | assumption) ?_)
  refine x_call0 (hp1) (by repeat' (first | exact trivial | exact Ren.v _ | exact Ren.sl _ _ | refine ren_ag ?_ | refine ⟨?_, ?_⟩)) (by repeat' (first | exact trivial | exact RenB.v _ | exact RenB.sl _ _ | refine renb_ag ?_ | refine renb_tu ?_ | refine ⟨?_, ?_⟩)) ?_
  repeat (first | ((with_reducible refine k_move ?_); refine m_move rfl ?_) | ((with_reducible refine k_assign ?_); refine m_assign rfl ?_) | ((with_reducible refine k_store ?_); refine m_store tbOk rfl rfl rfl rfl rfl rfl rfl (Nat.le_of_ble_eq_true rfl) rfl ?_) | ((with_reducible refine k_alloc ?_); refine x_alloc tbOk rfl rfl ?_) | ((with_reducible refine k_extract ?_); refine x_extract rfl rfl ?_)  | refine e_nrm ?_ | refine x_none rfl ?_ | with_reducible (first | refine q_then ?_ | refine awp_seq ?_) | ((with_reducible refine w_region ?_ ?_); kernel_rfl))
  with_reducible refine k_convert ?_
  refine x_conv_by Tryz.underlying9 Tryz.underlying43 Tryz.underlying5 rfl rfl ?_
  repeat (first | ((with_reducible refine k_move ?_); refine m_move rfl ?_) | ((with_reducible refine k_assign ?_); refine m_assign rfl ?_)  | refine e_nrm ?_ | refine x_none rfl ?_ | with_reducible (first | refine q_then ?_ | refine awp_seq ?_) | ((with_reducible refine w_region ?_ ?_); kernel_rfl))
  with_reducible refine k_call ?_
  refine x_len_by tbOk rfl rfl rfl rfl ?_
  rw [nums_len]
  repeat (first   | refine x_none rfl ?_  )
  refine x_call0 (hmd) (by repeat' (first | exact trivial | exact Ren.v _ | refine ⟨?_, ?_⟩)) (by repeat' exact RenB.v _) ?_
  repeat (first | ((with_reducible refine k_move ?_); refine m_move rfl ?_)  | refine x_none rfl ?_  )
  with_reducible refine k_indexAddr ?_
  refine x_indexAddr_by tbOk rfl rfl rfl rfl rfl rfl ⟨by omega, by rw [nums_len]; omega⟩ ?_
  repeat (first   | refine x_none rfl ?_  )
  with_reducible refine k_store ?_
  refine x_store_by tbOk rfl rfl rfl rfl rfl (by rw [nums_len]; omega) ?_
  repeat (first | ((with_reducible refine k_move ?_); refine m_move rfl ?_) | ((with_reducible refine k_load ?_); refine x_load_agg tbOk rfl rfl rfl rfl (Nat.le_of_ble_eq_true rfl) ?_)  | refine e_nrm ?_ | refine x_none rfl ?_ | with_reducible (first | refine q_then ?_ | refine awp_seq ?_) | ((with_reducible refine w_region ?_ ?_); kernel_rfl))
  with_reducible refine k_convert ?_
  refine x_conv_ybs Tryz.underlying43 Tryz.underlying5 Tryz.underlying9 rfl rfl rfl ?_
  rw [← hB]
  repeat (first   | refine x_none rfl ?_  )
  refine x_call0 (hp2) (by repeat' (first | exact trivial | exact Ren.v _ | exact Ren.sl _ _ | refine ren_ag ?_ | refine ⟨?_, ?_⟩)) (by repeat' (first | exact trivial | exact RenB.v _ | exact RenB.sl _ _ | refine renb_ag ?_ | refine renb_tu ?_ | refine ⟨?_, ?_⟩)) ?_
  repeat (first | ((with_reducible refine k_move ?_); refine m_move rfl ?_) | ((with_reducible refine k_assign ?_); refine m_assign rfl ?_) | ((with_reducible refine k_load ?_); refine x_load_agg tbOk rfl rfl rfl rfl (Nat.le_of_ble_eq_true rfl) ?_) | ((with_reducible refine k_store ?_); refine m_store tbOk rfl rfl rfl rfl rfl rfl rfl (Nat.le_of_ble_eq_true rfl) rfl ?_) | ((with_reducible refine k_alloc ?_); refine x_alloc tbOk rfl rfl ?_) | ((with_reducible refine k_extract ?_); refine x_extract rfl rfl ?_)  | refine e_nrm ?_ | refine x_none rfl ?_ | with_reducible (first | refine q_then ?_ | refine awp_seq ?_) | ((with_reducible refine w_region ?_ ?_); kernel_rfl))
  by_cases hg : ye = 0
  · subst hg
    obtain ⟨q1, q2, q3⟩ := hBp y rfl
    rw [printC_ok q1 (by rw [q2]; exact q3), q2] at hp3
    have p1 : strEq (strL B.data.toList) B = true := strEq_iff.2 rfl
    refine x_call0 (hp3) (by repeat' (first | exact trivial | exact Ren.v _ | exact Ren.sl _ _ | refine ren_ag ?_ | refine ⟨?_, ?_⟩)) (by repeat' (first | exact trivial | exact RenB.v _ | refine renb_tu ?_ | refine ⟨?_, ?_⟩)) ?_
    repeat (first | ((with_reducible refine k_move ?_); refine m_move rfl ?_) | ((with_reducible refine k_assign ?_); refine m_assign rfl ?_) | ((with_reducible refine k_load ?_); refine x_load_agg tbOk rfl rfl rfl rfl (Nat.le_of_ble_eq_true rfl) ?_) | ((with_reducible refine k_extract ?_); refine x_extract rfl rfl ?_) | ((with_reducible refine k_bin ?_); refine m_binI rfl rfl rfl ?_)  | refine e_nrm ?_ | refine x_none rfl ?_ | refine x_run_t rfl rfl (by first | rfl | assumption) ?_ | with_reducible (first | refine q_then ?_ | refine awp_seq ?_) | ((with_reducible refine w_region ?_ ?_); kernel_rfl))
    refine x_call0 (hsm) (by repeat' (first | exact trivial | exact Ren.v _ | exact Ren.sl _ _ | refine ren_ag ?_ | refine ⟨?_, ?_⟩)) (by repeat' exact RenB.v _) ?_
    repeat (first | ((with_reducible refine k_move ?_); refine m_move rfl ?_) | ((with_reducible refine k_pick ?_); refine m_pickt rfl (by first | rfl | assumption) rfl ?_) | ((with_reducible refine k_bin ?_); refine m_binI rfl rfl rfl ?_)  | refine x_none rfl ?_ | refine x_run_t rfl rfl (by first | rfl | assumption) ?_ | refine x_run_f rfl rfl (by first | rfl | assumption) ?_  )
    with_reducible refine k_convert ?_
    refine x_conv_ybs Tryz.underlying43 Tryz.underlying5 Tryz.underlying9 rfl rfl rfl ?_
    rw [← hB]
    repeat (first | ((with_reducible refine k_assign ?_); refine m_assign rfl ?_) | ((with_reducible refine k_pick ?_); (first | refine m_pickt rfl (by first | rfl | assumption) rfl ?_ | refine m_pickf rfl (by first | rfl | assumption) rfl ?_)) | ((with_reducible refine k_bin ?_); refine m_binS rfl rfl rfl ?_)  | refine e_nrm ?_ | refine x_none rfl ?_ | refine x_run_t rfl rfl (by first | rfl | assumption) ?_ | refine x_run_f rfl rfl (by first | rfl | assumption) ?_ | with_reducible (first | refine q_then ?_ | refine awp_ret ?_) )
    refine ret_v (by first | exact .inr rfl | exact .inl rfl) rfl rfl ?_
    first
      | rfl
      | exact congrArg (fun b => AV.v (.bool b)) p1.symm
  · have p1 : (ye != 0) = true := by simpa using hg
    refine x_call0 (hp3) (by repeat' (first | exact trivial | exact Ren.v _ | exact Ren.sl _ _ | refine ren_ag ?_ | refine ⟨?_, ?_⟩)) (by repeat' (first | exact trivial | exact RenB.v _ | refine renb_tu ?_ | refine ⟨?_, ?_⟩)) ?_
    repeat (first | ((with_reducible refine k_move ?_); refine m_move rfl ?_) | ((with_reducible refine k_assign ?_); refine m_assign rfl ?_) | ((with_reducible refine k_load ?_); refine x_load_agg tbOk rfl rfl rfl rfl (Nat.le_of_ble_eq_true rfl) ?_) | ((with_reducible refine k_extract ?_); refine x_extract rfl rfl ?_) | ((with_reducible refine k_bin ?_); refine m_binI rfl rfl rfl ?_)  | refine e_nrm ?_ | refine x_none rfl ?_ | refine x_run_t rfl rfl (by first | rfl | assumption) ?_ | with_reducible (first | refine q_then ?_ | refine awp_seq ?_) | ((with_reducible refine w_region ?_ ?_); kernel_rfl))
    refine x_call0 (hsm) (by repeat' (first | exact trivial | exact Ren.v _ | exact Ren.sl _ _ | refine ren_ag ?_ | refine ⟨?_, ?_⟩)) (by repeat' exact RenB.v _) ?_
    repeat (first | ((with_reducible refine k_move ?_); refine m_move rfl ?_) | ((with_reducible refine k_assign ?_); refine m_assign rfl ?_) | ((with_reducible refine k_pick ?_); refine m_pickt rfl (by first | rfl | assumption) rfl ?_) | ((with_reducible refine k_bin ?_); refine m_binI rfl rfl rfl ?_)  | refine e_nrm ?_ | refine x_none rfl ?_ | refine x_run_t rfl rfl (by first | rfl | assumption) ?_ | refine x_skip_f rfl rfl (by first | rfl | assumption) ?_ | refine x_skip' rfl rfl rfl ?_ | with_reducible (first | refine q_then ?_ | refine awp_ret ?_) )
    refine ret_v (by first | exact .inr rfl | exact .inl rfl) rfl rfl ?_
    rfl
end Go.Proofs.YtamihjgfncjdoaaGreatDoor
