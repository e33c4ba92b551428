/- PortableOne, by the abstract machine: for every list and every list of moves the law returns true; conditions: the table of classes stands. -/
import Derived.Test.YtaoegbmgombhdaaDoorAbsY
import Derived.Test.YtaoegbmgombhdaaDoorTieA
import Derived.Test.YtaoegbmgombhdaaDoorKyD
import Derived.Test.YtaoegbmgombhdaaDoorGvP
import Derived.Test.YtaoegbmgombhdaaDoorOnP
set_option linter.unusedVariables false
set_option linter.unusedSimpArgs false
namespace Go.Proofs.YtaoegbmgombhdaaDoor
open Go Go.RowKit
set_option maxRecDepth 10000
variable {G : Nat → Option (List Value)}
def uv (m : Int) : AV := .v (.int .u16 m)
theorem uv_at {L : List Int} {k : Nat} {x : Int} (h : L[k]? = some x) : (L.map uv)[k]? = some (uv x) := by rw [List.getElem?_map, h]; rfl
theorem zInt (w : World) : (zeroValue 3).run Tryd.prog w = .ok (.int .i64 0) w := by
  kernel_rfl
/-- Numbers that were counted once. -/
def onceL (E : List Int) : List (Value × Value) := E.map fun d => (.int .i64 d, .int .i64 1)
theorem once_find {n : Int} : ∀ {E : List Int}, (∀ x ∈ E, x ≠ n) → findL (.int .i64) (.int .i64 n) (onceL E) = some none
  | [], _ => rfl
  | x :: E, h => by
    show findL _ _ ((.int .i64 x, .int .i64 1) :: onceL E) = _
    rw [findL, sameInt]
    have := h x (by simp)
    rw [show (n == x) = false by simp; omega]
    exact once_find fun r hr => h r (by simp [hr])
theorem once_put {n : Int} : ∀ {E : List Int}, (∀ x ∈ E, x ≠ n) → putM (.int .i64) (.int .i64 n) (.int .i64 1) (onceL E) = onceL (E ++ [n])
  | [], _ => rfl
  | x :: E, h => by
    show putM _ _ _ ((.int .i64 x, .int .i64 1) :: onceL E) = _
    rw [putM, sameInt]
    have := h x (by simp)
    rw [if_neg (by simp; omega), once_put fun r hr => h r (by simp [hr])]
    rfl
theorem devs_app (A B : List Rw) : devs (A ++ B) = devs A ++ devs B := by
  induction A with
  | nil => rfl
  | cons r A ih =>
    rw [List.cons_append, devs, devs, ih]
    split <;> simp
theorem devs_len (R : List Rw) : (devs R).length ≤ R.length := by
  induction R with
  | nil => exact Nat.le_refl _
  | cons r R ih => rw [devs]; split <;> simp <;> omega
theorem pick3 {z : Int} (h0 : 0 ≤ z) (h3 : z < 3) : ∃ d : Int, (d = 3 ∨ d = 5 ∨ d = 0) ∧ ([iv 3, iv 5, iv 0] : List AV)[z.toNat]? = some (iv d) := by
  obtain rfl | rfl | rfl : z = 0 ∨ z = 1 ∨ z = 2 := by omega
  · exact ⟨3, .inl rfl, rfl⟩
  · exact ⟨5, .inr (.inl rfl), rfl⟩
  · exact ⟨0, .inr (.inr rfl), rfl⟩
theorem pickN {z : Int} (h0 : 0 ≤ z) (h2 : z < 2) : ∃ n : Fin 2, ([.v (.string bB1), .v (.string bC1)] : List AV)[z.toNat]? = some (.v (.string (nmF n))) := by
  obtain rfl | rfl : z = 0 ∨ z = 1 := by omega
  · exact ⟨0, rfl⟩
  · exact ⟨1, rfl⟩
theorem nmF_size (n : Fin 2) : (nmF n).size ≤ maxLen := by
  match n with
  | 0 => decide
  | 1 => decide
def one0 : List Rw := [⟨151, persH bB1⟩, ⟨152, persH bB1⟩, ⟨153, persH bC1⟩]
set_option maxHeartbeats 8000000 in
theorem one_law (l moves : List Int) (hmv : ∀ m ∈ moves, 0 ≤ m ∧ m ≤ 65535) (hG : GCls G) : ACalls Tryd.prog G 5 [.sl 1 (l.map iv), .sl 1 (moves.map uv)] [] (.v (.bool true)) [] := by
  refine acalls_of tbOk (enter_of Tryd.func5 (by kernel_rfl) rfl) Tryd.func5 rfl _ Tryd.ntmps5 (Nat.le_of_ble_eq_true rfl) fun X hX => ?_
  subst hX
  repeat (first | ((with_reducible refine k_assign ?_); refine m_assign rfl ?_)  | refine e_nrm ?_ | refine x_none rfl ?_ | with_reducible refine q_then ?_ | with_reducible refine awp_seq ?_ | ((with_reducible refine w_region ?_ ?_); kernel_rfl))
  refine x_call0 (awake_A hG) (by repeat' (first | exact trivial | exact Ren.v _ | exact Ren.sl _ _ | exact Ren.ep _ | exact Ren.ptr _ _ _ _ rfl | exact Ren.nil _ | exact Ren.own _ _ _ _ ⟨_, rfl⟩ | refine ren_ag ?_ | refine ren_tu ?_ | refine ren_fn ?_ | refine ⟨?_, ?_⟩)) (by repeat' (first | exact trivial | exact RenB.v _ | exact RenB.sl _ _ | exact RenB.ep _ | exact RenB.ptr _ _ _ _ rfl | refine renb_ag ?_ | refine renb_tu ?_ | refine ⟨?_, ?_⟩)) ?_
  repeat (first | ((with_reducible refine k_move ?_); refine m_move rfl ?_) | ((with_reducible refine k_un ?_); refine x_not rfl ?_)  | refine x_none rfl ?_ | refine x_run_f rfl rfl (by first | rfl | assumption) ?_  )
  refine x_call0 (few_A (l.map iv)) (by repeat' (first | exact trivial | exact Ren.v _ | exact Ren.sl _ _ | exact Ren.ep _ | exact Ren.ptr _ _ _ _ rfl | exact Ren.nil _ | exact Ren.own _ _ _ _ ⟨_, rfl⟩ | refine ren_ag ?_ | refine ren_tu ?_ | refine ren_fn ?_ | refine ⟨?_, ?_⟩)) (by repeat' (first | exact trivial | exact RenB.v _ | exact RenB.sl _ _ | exact RenB.ep _ | exact RenB.ptr _ _ _ _ rfl | refine renb_ag ?_ | refine renb_tu ?_ | refine ⟨?_, ?_⟩)) ?_
  repeat (first | ((with_reducible refine k_move ?_); refine m_move rfl ?_) | ((with_reducible refine k_un ?_); refine x_not rfl ?_) | ((with_reducible refine k_pick ?_); refine m_pickf rfl (by first | rfl | assumption) rfl ?_)  | refine x_none rfl ?_ | refine x_run_f rfl rfl (by first | rfl | assumption) ?_  )
  refine x_split rfl rfl (fun h => ?_) (fun h => ?_)
  · repeat (first | ((with_reducible refine k_pick ?_); refine m_pickt rfl (by first | rfl | assumption) rfl ?_)  | refine e_nrm ?_ | refine x_none rfl ?_ | refine x_skip_f rfl rfl (by first | rfl | assumption) ?_ | with_reducible refine q_then ?_ | with_reducible refine awp_seq ?_ | ((with_reducible refine w_region ?_ ?_); kernel_rfl) | refine w_cond_t rfl (by first | rfl | assumption) ?_)
    refine x_call0 (awake_A hG) (by repeat' (first | exact trivial | exact Ren.v _ | exact Ren.sl _ _ | exact Ren.ep _ | exact Ren.ptr _ _ _ _ rfl | exact Ren.nil _ | exact Ren.own _ _ _ _ ⟨_, rfl⟩ | refine ren_ag ?_ | refine ren_tu ?_ | refine ren_fn ?_ | refine ⟨?_, ?_⟩)) (by repeat' (first | exact trivial | exact RenB.v _ | exact RenB.sl _ _ | exact RenB.ep _ | exact RenB.ptr _ _ _ _ rfl | refine renb_ag ?_ | refine renb_tu ?_ | refine ⟨?_, ?_⟩)) ?_
    repeat (first | ((with_reducible refine k_assign ?_); refine m_assign rfl ?_)  | refine e_nrm ?_ | refine x_none rfl ?_ | with_reducible refine q_then ?_ | with_reducible refine q_then_ret ?_ | with_reducible refine awp_ret ?_ )
    refine ret_v (by first | exact .inr rfl | exact .inl rfl) rfl rfl ?_
    rfl
  have h400 : l.length ≤ 400 := by simp at h; omega
  repeat (first | ((with_reducible refine k_move ?_); refine m_move rfl ?_) | ((with_reducible refine k_pick ?_); refine m_pickf rfl (by first | rfl | assumption) rfl ?_) | ((with_reducible refine k_call ?_); refine x_len tbOk rfl rfl ?_) | ((with_reducible refine k_bin ?_); refine m_binI rfl rfl rfl ?_)  | refine e_nrm ?_ | refine x_none rfl ?_ | refine x_run_f rfl rfl (by first | rfl | assumption) ?_ | with_reducible refine q_then ?_ )
  refine w_cond rfl (fun h60 => ?_) (fun h60 => ?_)
  · repeat (first   | refine x_none rfl ?_ | with_reducible refine awp_seq ?_ | ((with_reducible refine w_region ?_ ?_); kernel_rfl))
    refine x_call0 (awake_A hG) (by repeat' (first | exact trivial | exact Ren.v _ | exact Ren.sl _ _ | exact Ren.ep _ | exact Ren.ptr _ _ _ _ rfl | exact Ren.nil _ | exact Ren.own _ _ _ _ ⟨_, rfl⟩ | refine ren_ag ?_ | refine ren_tu ?_ | refine ren_fn ?_ | refine ⟨?_, ?_⟩)) (by repeat' (first | exact trivial | exact RenB.v _ | exact RenB.sl _ _ | exact RenB.ep _ | exact RenB.ptr _ _ _ _ rfl | refine renb_ag ?_ | refine renb_tu ?_ | refine ⟨?_, ?_⟩)) ?_
    repeat (first | ((with_reducible refine k_assign ?_); refine m_assign rfl ?_)  | refine e_nrm ?_ | refine x_none rfl ?_ | with_reducible refine q_then ?_ | with_reducible refine q_then_ret ?_ | with_reducible refine awp_ret ?_ )
    refine ret_v (by first | exact .inr rfl | exact .inl rfl) rfl rfl ?_
    rfl
  have hm60 : moves.length ≤ 60 := by simp at h60; omega
  have hD := DkOk.new h400
  obtain ⟨n1, n2, n3, n4⟩ := tie_names (dk0 l)
  have hT := tie_A (G := X.G) (dk0 l) hD
  have hap : ∀ {R : List Rw}, InS R → ∀ (k : Fin 3) (n : Fin 2) (z d : Int), (d = 3 ∨ d = 5 ∨ d = 0) → z = 151 + (k.val : Int) → ∃ Q e, (e = 0 → InS Q) ∧ ACalls Tryd.prog X.G 18 [netAV (tieNs (dk0 l)) (tieVs (dk0 l)), .sl 4 (R.map Rw.av), .v (.int .i64 z), .v (.string (nmF n)), .v (.int .i64 d)] [] (.tu [.sl 4 (Q.map Rw.av), .v (.int .i64 e)]) [] := fun {R} h k n z d hd hz => by
    subst hz
    exact ⟨_, _, one_apply (dk0 l) h k n d hd, apply_A (tieNs (dk0 l)) (tieVs (dk0 l)) R (151 + (k.val : Int)) (nmF n) d hG n1 n2 n3 n4 h.names (by rw [h.len]; decide)⟩
  have hrm : ∀ {R : List Rw}, InS R → ∀ (k : Fin 3) (n : Fin 2) (z d : Int), (d = 3 ∨ d = 5 ∨ d = 0) → z = 151 + (k.val : Int) → ∃ Q e, (e = 0 → InS Q) ∧ ACalls Tryd.prog X.G 19 [netAV (tieNs (dk0 l)) (tieVs (dk0 l)), .sl 4 (R.map Rw.av), .v (.int .i64 z), .v (.string (nmF n)), .v (.int .i64 d)] [] (.tu [.sl 4 (Q.map Rw.av), .v (.int .i64 e)]) [] := fun {R} h k n z d hd hz => by
    subst hz
    exact ⟨_, _, one_remove (dk0 l) h k n d hd, remove_A (tieNs (dk0 l)) (tieVs (dk0 l)) R (151 + (k.val : Int)) (nmF n) d hG n1 n2 n3 n4 h.names (by rw [h.len]; decide) (nmF_size n)⟩
  have hkind : ∀ d : Int, d = 3 ∨ d = 5 → ∃ x : Dv, ((tieVs (dk0 l)).map Dv.av)[d.toNat]? = some x.av ∧ x.k = 4 := fun d hd => by
    obtain ⟨k, c, W, e⟩ := tieVs_at (dk0 l)
    rw [e]
    rcases hd with rfl | rfl
    · exact ⟨⟨nm2 69 50, 4, 2, -1, 1⟩, rfl, rfl⟩
    · exact ⟨⟨nm2 69 51, 4, 3, -1, 2⟩, rfl, rfl⟩
  generalize tieNs (dk0 l) = N at *
  generalize tieVs (dk0 l) = V at *
  repeat (first | ((with_reducible refine k_move ?_); refine m_move rfl ?_)  | refine x_none rfl ?_ | with_reducible refine q_then ?_ | with_reducible refine awp_seq ?_ | with_reducible refine awp_skip ?_ | ((with_reducible refine w_region ?_ ?_); kernel_rfl))
  refine x_call_new (new_A l) (by repeat' (first | exact trivial | exact Ren.v _ | exact Ren.sl _ _ | exact Ren.ep _ | exact Ren.ptr _ _ _ _ rfl | exact Ren.nil _ | exact Ren.own _ _ _ _ ⟨_, rfl⟩ | refine ren_ag ?_ | refine ren_tu ?_ | refine ren_fn ?_ | refine ⟨?_, ?_⟩)) (by repeat' (first | exact trivial | exact RenB.v _ | exact RenB.sl _ _ | exact RenB.ep _ | exact RenB.ptr _ _ _ _ rfl | refine renb_ag ?_ | refine renb_tu ?_ | refine ⟨?_, ?_⟩)) rfl ?_
  repeat (first   | refine x_none rfl ?_  )
  refine x_call (y := .tu [netAV N V, .sl 1 ((tieSs (dk0 l)).map iv)]) (ss := [(37, 1)]) (hT) (by repeat' (first | exact trivial | exact Ren.v _ | exact Ren.sl _ _ | exact Ren.ep _ | exact Ren.ptr _ _ _ _ rfl | exact Ren.nil _ | exact Ren.own _ _ _ _ ⟨_, rfl⟩ | refine ren_ag ?_ | refine ren_tu ?_ | refine ren_fn ?_ | refine ⟨?_, ?_⟩)) (by simp) (in1 rfl rfl) rfl (back1 rfl) (by repeat' (first | exact trivial | exact RenB.v _ | exact RenB.sl _ _ | exact RenB.ep _ | exact RenB.ptr _ _ _ _ rfl | refine renb_ag ?_ | refine renb_tu ?_ | refine ⟨?_, ?_⟩)) ?_
  repeat (first | ((with_reducible refine k_move ?_); refine m_move rfl ?_) | ((with_reducible refine k_assign ?_); refine m_assign rfl ?_) | ((with_reducible refine k_store ?_); refine m_store tbOk rfl rfl rfl rfl rfl rfl rfl (Nat.le_of_ble_eq_true rfl) rfl ?_) | ((with_reducible refine k_alloc ?_); refine x_alloc tbOk rfl rfl ?_) | ((with_reducible refine k_extract ?_); refine x_extract rfl rfl ?_)  | refine e_nrm ?_ | refine x_none rfl ?_ | with_reducible refine q_then ?_ | with_reducible refine awp_seq ?_ | ((with_reducible refine w_region ?_ ?_); kernel_rfl))
  refine x_call0 (pers_A bB1) (by repeat' (first | exact trivial | exact Ren.v _ | exact Ren.sl _ _ | exact Ren.ep _ | exact Ren.ptr _ _ _ _ rfl | exact Ren.nil _ | exact Ren.own _ _ _ _ ⟨_, rfl⟩ | refine ren_ag ?_ | refine ren_tu ?_ | refine ren_fn ?_ | refine ⟨?_, ?_⟩)) (by repeat' (first | exact trivial | exact RenB.v _ | exact RenB.sl _ _ | exact RenB.ep _ | exact RenB.ptr _ _ _ _ rfl | refine renb_ag ?_ | refine renb_tu ?_ | refine ⟨?_, ?_⟩)) ?_
  repeat (first | ((with_reducible refine k_build ?_); refine m_build tbOk rfl rfl rfl rfl rfl ?_)  | refine x_none rfl ?_  )
  refine x_call0 (pers_A bB1) (by repeat' (first | exact trivial | exact Ren.v _ | exact Ren.sl _ _ | exact Ren.ep _ | exact Ren.ptr _ _ _ _ rfl | exact Ren.nil _ | exact Ren.own _ _ _ _ ⟨_, rfl⟩ | refine ren_ag ?_ | refine ren_tu ?_ | refine ren_fn ?_ | refine ⟨?_, ?_⟩)) (by repeat' (first | exact trivial | exact RenB.v _ | exact RenB.sl _ _ | exact RenB.ep _ | exact RenB.ptr _ _ _ _ rfl | refine renb_ag ?_ | refine renb_tu ?_ | refine ⟨?_, ?_⟩)) ?_
  repeat (first | ((with_reducible refine k_build ?_); refine m_build tbOk rfl rfl rfl rfl rfl ?_)  | refine x_none rfl ?_  )
  refine x_call0 (pers_A bC1) (by repeat' (first | exact trivial | exact Ren.v _ | exact Ren.sl _ _ | exact Ren.ep _ | exact Ren.ptr _ _ _ _ rfl | exact Ren.nil _ | exact Ren.own _ _ _ _ ⟨_, rfl⟩ | refine ren_ag ?_ | refine ren_tu ?_ | refine ren_fn ?_ | refine ⟨?_, ?_⟩)) (by repeat' (first | exact trivial | exact RenB.v _ | exact RenB.sl _ _ | exact RenB.ep _ | exact RenB.ptr _ _ _ _ rfl | refine renb_ag ?_ | refine renb_tu ?_ | refine ⟨?_, ?_⟩)) ?_
  repeat (first | ((with_reducible refine k_move ?_); refine m_move rfl ?_) | ((with_reducible refine k_assign ?_); refine m_assign rfl ?_) | ((with_reducible refine k_build ?_); refine m_build tbOk rfl rfl rfl rfl rfl ?_) | ((with_reducible refine k_call ?_); refine x_len tbOk rfl rfl ?_) | ((with_reducible refine k_buildSlice ?_); refine m_buildSlice tbOk rfl rfl rfl rfl rfl (by omega) rfl rfl rfl ?_) | refine e_nrm ?_ | refine x_none rfl ?_ | with_reducible refine q_then ?_ | with_reducible refine awp_seq ?_ | with_reducible refine awp_block ?_ | ((with_reducible refine w_region ?_ ?_); kernel_rfl))
  refine awp_loop (ι := Nat × List Rw) (fun i => i.1 ≤ moves.length ∧ InS i.2) (fun i => moves.length - i.1) (fun v i => [(5, .ptr 5 (v 5) 0), (7, .sl 4 (i.2.map Rw.av)), (48, .sl 1 (moves.map uv)), (49, .v (.int .i64 (moves.map uv).length)), (50, .v (.int .i64 (i.1 : Nat)))]) (fun v i => [(5, .box [.sl 3 (N.map Nd.av), .sl 5 (V.map Dv.av)])]) ?_ ?_
  · exact ⟨(0, one0), ⟨Nat.zero_le _, one_start⟩, trivial, ⟨rfl, rfl, rfl, rfl, rfl, trivial⟩, ⟨rfl, trivial⟩⟩
  · rintro v ⟨k, R⟩ ⟨hk, hR⟩
    simp only at hk hR
    dsimp only
    repeat (first | ((with_reducible refine k_bin ?_); refine m_binI rfl rfl rfl ?_)  | refine e_nrm ?_ | refine x_none rfl ?_ | with_reducible refine q_then ?_ | with_reducible refine awp_seq ?_ | ((with_reducible refine w_region ?_ ?_); kernel_rfl))
    refine w_cond rfl (fun h => ?_) (fun h => ?_)
    · have hlt : k < moves.length := by simpa using h
      obtain ⟨m, hm⟩ := some_at hlt
      have hmy := uv_at hm
      obtain ⟨m0, m1⟩ := hmv m (List.mem_of_getElem? hm)
      have i0 : 0 ≤ m.tmod 3 := Int.tmod_nonneg _ m0
      have i1 : m.tmod 3 < 3 := Int.tmod_lt_of_pos _ (by omega)
      have w3 : 0 ≤ IntKind.u16.wrap (m.tdiv 3) ∧ IntKind.u16.wrap (m.tdiv 3) ≤ 65535 := by rw [IntKind.wrap_u16]; omega
      have w6 : 0 ≤ IntKind.u16.wrap (m.tdiv 6) ∧ IntKind.u16.wrap (m.tdiv 6) ≤ 65535 := by rw [IntKind.wrap_u16]; omega
      have f0 : 0 ≤ (IntKind.u16.wrap (m.tdiv 3)).tmod 2 := Int.tmod_nonneg _ w3.1
      have f1 : (IntKind.u16.wrap (m.tdiv 3)).tmod 2 < 2 := Int.tmod_lt_of_pos _ (by omega)
      have t0 : 0 ≤ (IntKind.u16.wrap (m.tdiv 6)).tmod 3 := Int.tmod_nonneg _ w6.1
      have t1 : (IntKind.u16.wrap (m.tdiv 6)).tmod 3 < 3 := Int.tmod_lt_of_pos _ (by omega)
      obtain ⟨nm, hnm⟩ := pickN f0 f1
      obtain ⟨d, hd, hdy⟩ := pick3 t0 t1
      obtain ⟨kk, hkk⟩ : ∃ kk : Fin 3, m.tmod 3 = (kk.val : Int) := ⟨⟨(m.tmod 3).toNat, by omega⟩, by simp; omega⟩
      obtain ⟨Q, e, hQ, hc⟩ := hap hR kk nm (151 + m.tmod 3) d hd (by rw [hkk])
      repeat (first | ((with_reducible refine k_move ?_); refine m_move rfl ?_) | ((with_reducible refine k_assign ?_); refine m_assign rfl ?_) | ((with_reducible refine k_load ?_); refine x_load_agg tbOk rfl rfl rfl rfl (Nat.le_of_ble_eq_true rfl) ?_) | ((with_reducible refine k_load ?_); refine x_load_ep_one tbOk rfl rfl rfl ?_) | ((with_reducible refine k_indexAddr ?_); refine x_indexAddr_n tbOk rfl rfl rfl rfl (by assumption) ?_) | ((with_reducible refine k_indexAddr ?_); refine x_indexAddr tbOk rfl rfl rfl rfl (by omega) (by assumption) ?_) | ((with_reducible refine k_convert ?_); refine x_conv_in tbOk rfl rfl rfl (by first | assumption | exact wrap_u64_in (by omega) | exact wrap_i64_in (by omega) | exact wrap_u8_in (by omega)) ?_) | ((with_reducible refine k_bin ?_); refine x_add_in rfl rfl (by omega) ?_) | ((with_reducible refine k_bin ?_); refine x_rem rfl rfl (by first | decide | assumption | omega) ?_) | ((with_reducible refine k_bin ?_); refine x_quo rfl rfl (by first | decide | assumption | omega) ?_) | ((with_reducible refine k_buildSlice ?_); refine m_buildSlice tbOk rfl rfl rfl rfl rfl (by omega) rfl rfl rfl ?_) | refine e_nrm ?_ | refine e_drw (by kernel_rfl) ?_ | refine x_none rfl ?_ | with_reducible refine q_then ?_ | with_reducible refine awp_seq ?_ | with_reducible refine awp_block ?_ | with_reducible refine awp_skip ?_ | ((with_reducible refine w_region ?_ ?_); kernel_rfl) | ((with_reducible refine w_draw mixd ?_ ?_); kernel_rfl))
      refine x_call0 (hc) (by repeat' (first | exact trivial | exact Ren.v _ | exact Ren.sl _ _ | exact Ren.ep _ | exact Ren.ptr _ _ _ _ rfl | exact Ren.nil _ | exact Ren.own _ _ _ _ ⟨_, rfl⟩ | refine ren_ag ?_ | refine ren_tu ?_ | refine ren_fn ?_ | refine ⟨?_, ?_⟩)) (by repeat' (first | exact trivial | exact RenB.v _ | exact RenB.sl _ _ | exact RenB.ep _ | exact RenB.ptr _ _ _ _ rfl | refine renb_ag ?_ | refine renb_tu ?_ | refine ⟨?_, ?_⟩)) ?_
      repeat (first | ((with_reducible refine k_move ?_); refine m_move rfl ?_) | ((with_reducible refine k_assign ?_); refine m_assign rfl ?_) | ((with_reducible refine k_extract ?_); refine x_extract rfl rfl ?_) | ((with_reducible refine k_bin ?_); refine m_binI rfl rfl rfl ?_) | ((with_reducible refine k_bin ?_); refine x_rem rfl rfl (by first | decide | assumption | omega) ?_) | ((with_reducible refine k_bin ?_); refine x_quo rfl rfl (by first | decide | assumption | omega) ?_)  | refine e_nrm ?_ | refine x_none rfl ?_ | with_reducible refine q_then ?_ | with_reducible refine awp_seq ?_ | ((with_reducible refine w_region ?_ ?_); kernel_rfl))
      refine awp_via (ι := List Rw × Int) (fun v i => i.2 = 0 → InS i.1) (fun v i => [(5, .ptr 5 (v 5) 0), (7, .sl 4 (R.map Rw.av)), (13, .sl 4 (i.1.map Rw.av)), (14, .v (.int .i64 i.2)), (48, .sl 1 (moves.map uv)), (49, .v (.int .i64 (moves.map uv).length)), (50, .v (.int .i64 (k : Nat)))]) (fun v i => [(5, .box [.sl 3 (N.map Nd.av), .sl 5 (V.map Dv.av)])]) ?_ ?_
      · refine w_cond rfl (fun h => ?_) (fun h => ?_)
        · obtain ⟨Q', e', hQ', hc'⟩ := hrm hR kk nm (151 + m.tmod 3) d hd (by rw [hkk])
          repeat (first | ((with_reducible refine k_move ?_); refine m_move rfl ?_) | ((with_reducible refine k_load ?_); refine x_load_agg tbOk rfl rfl rfl rfl (Nat.le_of_ble_eq_true rfl) ?_)  | refine x_none rfl ?_  | ((with_reducible refine w_region ?_ ?_); kernel_rfl))
          refine x_call0 (hc') (by repeat' (first | exact trivial | exact Ren.v _ | exact Ren.sl _ _ | exact Ren.ep _ | exact Ren.ptr _ _ _ _ rfl | exact Ren.nil _ | exact Ren.own _ _ _ _ ⟨_, rfl⟩ | refine ren_ag ?_ | refine ren_tu ?_ | refine ren_fn ?_ | refine ⟨?_, ?_⟩)) (by repeat' (first | exact trivial | exact RenB.v _ | exact RenB.sl _ _ | exact RenB.ep _ | exact RenB.ptr _ _ _ _ rfl | refine renb_ag ?_ | refine renb_tu ?_ | refine ⟨?_, ?_⟩)) ?_
          repeat (first | ((with_reducible refine k_move ?_); refine m_move rfl ?_) | ((with_reducible refine k_assign ?_); refine m_assign rfl ?_) | ((with_reducible refine k_extract ?_); refine x_extract rfl rfl ?_)  | refine e_nrm ?_ | refine x_none rfl ?_ | with_reducible refine q_then ?_ )
          exact ⟨(Q', e'), hQ', trivial, ⟨rfl, rfl, rfl, rfl, rfl, rfl, rfl, trivial⟩, ⟨rfl, trivial⟩⟩
        · repeat (first    | with_reducible refine q_then ?_ | with_reducible refine awp_skip ?_ )
          exact ⟨(Q, e), hQ, trivial, ⟨rfl, rfl, rfl, rfl, rfl, rfl, rfl, trivial⟩, ⟨rfl, trivial⟩⟩
      · clear hc hQ
        rintro v ⟨Q, e⟩ hQ
        simp only at hQ
        dsimp only
        repeat (first | ((with_reducible refine k_move ?_); refine m_move rfl ?_) | ((with_reducible refine k_bin ?_); refine m_binI rfl rfl rfl ?_)  | refine e_nrm ?_ | refine x_none rfl ?_ | with_reducible refine q_then ?_ | with_reducible refine awp_seq ?_ | ((with_reducible refine w_region ?_ ?_); kernel_rfl))
        refine awp_via (ι := List Rw) (fun v i => InS i) (fun v i => [(5, .ptr 5 (v 5) 0), (7, .sl 4 (i.map Rw.av)), (48, .sl 1 (moves.map uv)), (49, .v (.int .i64 (moves.map uv).length)), (50, .v (.int .i64 (k : Nat)))]) (fun v i => [(5, .box [.sl 3 (N.map Nd.av), .sl 5 (V.map Dv.av)])]) ?_ ?_
        · refine w_cond rfl (fun h => ?_) (fun h => ?_)
          · repeat (first | ((with_reducible refine k_move ?_); refine m_move rfl ?_) | ((with_reducible refine k_assign ?_); refine m_assign rfl ?_)  | refine e_nrm ?_ | refine x_none rfl ?_ | with_reducible refine q_then ?_ | ((with_reducible refine w_region ?_ ?_); kernel_rfl))
            exact ⟨Q, hQ (by simpa using h), trivial, ⟨rfl, rfl, rfl, rfl, rfl, trivial⟩, ⟨rfl, trivial⟩⟩
          · repeat (first    | with_reducible refine q_then ?_ | with_reducible refine awp_skip ?_ )
            exact ⟨R, hR, trivial, ⟨rfl, rfl, rfl, rfl, rfl, trivial⟩, ⟨rfl, trivial⟩⟩
        · clear hQ hR
          rintro v R hR
          have hc := hR.chk
          have hl3 := hR.len
          have hRm : R.length ≤ maxLen := by rw [hl3]; decide
          obtain ⟨hdp, hdd⟩ := hR.devs
          repeat (first   | refine x_none rfl ?_ | with_reducible refine awp_seq ?_ | ((with_reducible refine w_region ?_ ?_); kernel_rfl))
          refine x_makeMap rfl ?_
          repeat (first | ((with_reducible refine k_move ?_); refine m_move rfl ?_) | ((with_reducible refine k_assign ?_); refine m_assign rfl ?_) | ((with_reducible refine k_call ?_); refine x_len tbOk rfl rfl ?_)  | refine e_nrm ?_ | refine x_none rfl ?_ | with_reducible refine q_then ?_ | with_reducible refine awp_seq ?_ | with_reducible refine awp_block ?_ | ((with_reducible refine w_region ?_ ?_); kernel_rfl))
          refine awp_loop (ι := Nat) (fun j => j ≤ R.length) (fun j => R.length - j) (fun v j => [(5, .ptr 5 (v 5) 0), (7, .sl 4 (R.map Rw.av)), (15, .own 97 (v 97)), (48, .sl 1 (moves.map uv)), (49, .v (.int .i64 (moves.map uv).length)), (50, .v (.int .i64 (k : Nat))), (98, .sl 4 (R.map Rw.av)), (99, .v (.int .i64 (R.map Rw.av).length)), (100, .v (.int .i64 j))]) (fun v j => [(5, .box [.sl 3 (N.map Nd.av), .sl 5 (V.map Dv.av)]), (97, .mp (onceL (devs (R.take j))))]) ?_ ?_
          · exact ⟨0, Nat.zero_le _, trivial, ⟨rfl, rfl, rfl, rfl, rfl, rfl, rfl, rfl, rfl, trivial⟩, ⟨rfl, rfl, trivial⟩⟩
          · rintro v j hj
            repeat (first | ((with_reducible refine k_bin ?_); refine m_binI rfl rfl rfl ?_)  | refine e_nrm ?_ | refine x_none rfl ?_ | with_reducible refine q_then ?_ | with_reducible refine awp_seq ?_ | ((with_reducible refine w_region ?_ ?_); kernel_rfl))
            refine w_cond rfl (fun h => ?_) (fun h => ?_)
            · have hjl : j < R.length := by simpa using h
              obtain ⟨r, hr⟩ := some_at hjl
              have hry : (R.map Rw.av)[j]? = some r.av := by rw [List.getElem?_map, hr]; rfl
              have hp := place_P (G := X.G) R r.num hG hR.names hRm
              unfold placeP at hp
              rw [find_at hc hr] at hp
              have hdt : devs (R.take (j + 1)) = devs (R.take j) ++ (if r.h.k = 4 then [r.h.i] else []) := by
                rw [take_at hr, devs_app]
                congr 1
              repeat (first | ((with_reducible refine k_move ?_); refine m_move rfl ?_) | ((with_reducible refine k_fieldAddr ?_); refine x_fieldAddr_ptr tbOk rfl rfl rfl rfl ?_) | ((with_reducible refine k_load ?_); refine x_load_one tbOk rfl rfl rfl rfl rfl ?_) | ((with_reducible refine k_load ?_); refine x_load_ep_agg tbOk rfl rfl (Nat.le_of_ble_eq_true rfl) ?_) | ((with_reducible refine k_store ?_); refine m_store tbOk rfl rfl rfl rfl rfl rfl rfl (Nat.le_of_ble_eq_true rfl) rfl ?_) | ((with_reducible refine k_alloc ?_); refine x_alloc tbOk rfl rfl ?_) | ((with_reducible refine k_indexAddr ?_); refine x_indexAddr_n tbOk rfl rfl rfl rfl (by assumption) ?_)  | refine e_nrm ?_ | refine x_none rfl ?_ | with_reducible refine q_then ?_ | with_reducible refine awp_seq ?_ | with_reducible refine awp_block ?_ | with_reducible refine awp_skip ?_ | ((with_reducible refine w_region ?_ ?_); kernel_rfl))
              by_cases h4 : r.h.k = 4
              · rw [if_neg (by simp [h4])] at hp
                rw [if_pos h4] at hdt
                have hnew : ∀ x ∈ devs (R.take j), x ≠ r.h.i := fun x hx => by
                  have e1 : devs R = devs (R.take j) ++ (r.h.i :: devs (R.drop (j + 1))) := by
                    have := congrArg devs (List.take_append_drop j R).symm
                    rw [devs_app, drop_at hr, devs, if_pos h4] at this
                    exact this
                  rw [e1] at hdp
                  exact (List.pairwise_append.1 hdp).2.2 x hx r.h.i (by simp)
                refine x_call0 (hp) (by repeat' (first | exact trivial | exact Ren.v _ | exact Ren.sl _ _ | exact Ren.ep _ | exact Ren.ptr _ _ _ _ rfl | exact Ren.nil _ | exact Ren.own _ _ _ _ ⟨_, rfl⟩ | refine ren_ag ?_ | refine ren_tu ?_ | refine ren_fn ?_ | refine ⟨?_, ?_⟩)) (by repeat' (first | exact trivial | exact RenB.v _ | exact RenB.sl _ _ | exact RenB.ep _ | exact RenB.ptr _ _ _ _ rfl | refine renb_ag ?_ | refine renb_tu ?_ | refine ⟨?_, ?_⟩)) ?_
                repeat (first | ((with_reducible refine k_move ?_); refine m_move rfl ?_) | ((with_reducible refine k_assign ?_); refine m_assign rfl ?_) | ((with_reducible refine k_extract ?_); refine x_extract rfl rfl ?_)  | refine e_nrm ?_ | refine x_none rfl ?_ | with_reducible refine q_then ?_ | with_reducible refine awp_seq ?_ | ((with_reducible refine w_region ?_ ?_); kernel_rfl) | refine w_cond_t rfl (by first | rfl | assumption) ?_)
                refine x_lookup2 Tryd.underlying56 Tryd.underlying3 (by simp [MapKept.IsKey]) zInt rfl rfl rfl rfl (once_find hnew) (.v (.int .i64 0)) rfl ?_
                repeat (first | ((with_reducible refine k_bin ?_); refine x_add_in rfl rfl (by omega) ?_)  | refine x_none rfl ?_  )
                refine x_mapPut Tryd.underlying56 Tryd.underlying3 (by simp [MapKept.IsKey]) rfl rfl rfl rfl rfl (rfl : valOf _ = some (.int .i64 1)) (once_find hnew) ?_
                repeat (first | ((with_reducible refine k_move ?_); refine m_move rfl ?_) | ((with_reducible refine k_bin ?_); refine x_add_in rfl rfl (by omega) ?_)  | refine e_nrm ?_ | refine x_none rfl ?_ | with_reducible refine q_then ?_ | with_reducible refine q_block ?_ | ((with_reducible refine w_region ?_ ?_); kernel_rfl))
                refine ⟨j + 1, by omega, by omega, ⟨rfl, rfl, rfl, rfl, rfl, rfl, rfl, rfl, rfl, trivial⟩, ⟨rfl, ?_, trivial⟩⟩
                exact hc_mp (by rw [once_put hnew, hdt])
              · rw [if_pos (.inr h4)] at hp
                rw [if_neg h4, List.append_nil] at hdt
                refine x_call0 (hp) (by repeat' (first | exact trivial | exact Ren.v _ | exact Ren.sl _ _ | exact Ren.ep _ | exact Ren.ptr _ _ _ _ rfl | exact Ren.nil _ | exact Ren.own _ _ _ _ ⟨_, rfl⟩ | refine ren_ag ?_ | refine ren_tu ?_ | refine ren_fn ?_ | refine ⟨?_, ?_⟩)) (by repeat' (first | exact trivial | exact RenB.v _ | exact RenB.sl _ _ | exact RenB.ep _ | exact RenB.ptr _ _ _ _ rfl | refine renb_ag ?_ | refine renb_tu ?_ | refine ⟨?_, ?_⟩)) ?_
                repeat (first | ((with_reducible refine k_move ?_); refine m_move rfl ?_) | ((with_reducible refine k_assign ?_); refine m_assign rfl ?_) | ((with_reducible refine k_extract ?_); refine x_extract rfl rfl ?_) | ((with_reducible refine k_bin ?_); refine x_add_in rfl rfl (by omega) ?_)  | refine e_nrm ?_ | refine x_none rfl ?_ | with_reducible refine q_then ?_ | with_reducible refine q_block ?_ | with_reducible refine awp_seq ?_ | with_reducible refine awp_skip ?_ | ((with_reducible refine w_region ?_ ?_); kernel_rfl) | refine w_cond_f rfl (by first | rfl | assumption) ?_)
                refine ⟨j + 1, by omega, by omega, ⟨rfl, rfl, rfl, rfl, rfl, rfl, rfl, rfl, rfl, trivial⟩, ⟨rfl, ?_, trivial⟩⟩
                exact hc_mp (by rw [hdt])
            · obtain rfl : j = R.length := by simp at h; omega
              rw [List.take_length]
              repeat (first | ((with_reducible refine k_move ?_); refine m_move rfl ?_)  | refine x_none rfl ?_ | with_reducible refine q_then ?_ | with_reducible refine q_then_exit ?_ | with_reducible refine awp_seq ?_ | with_reducible refine awp_exit ?_ | ((with_reducible refine q_block_exit ?_ ?_); rfl) | ((with_reducible refine w_region ?_ ?_); kernel_rfl))
              refine x_range Tryd.underlying56 rfl rfl rfl rfl ?_
              repeat (first   | refine e_nrm ?_ | with_reducible refine q_then ?_ | with_reducible refine awp_block ?_ )
              refine awp_loop (ι := List Nat) (fun _ => True) (fun seen => (stillTo (devs R).length seen).length) (fun v seen => [(5, .ptr 5 (v 5) 0), (7, .sl 4 (R.map Rw.av)), (15, .own 97 (v 97)), (48, .sl 1 (moves.map uv)), (49, .v (.int .i64 (moves.map uv).length)), (50, .v (.int .i64 (k : Nat))), (118, .own 118 (v 118))]) (fun v seen => [(5, .box [.sl 3 (N.map Nd.av), .sl 5 (V.map Dv.av)]), (97, .mp (onceL (devs R))), (118, .ob (.it 97 (v 97) (onceL (devs R)).length seen (onceL (devs R)).length))]) ?_ ?_
              · exact ⟨[], trivial, trivial, ⟨rfl, rfl, rfl, rfl, rfl, rfl, rfl, trivial⟩, ⟨rfl, rfl, rfl, trivial⟩⟩
              · rintro v seen -
                repeat (first  | with_reducible refine awp_seq ?_)
                have hml : (onceL (devs R)).length = (devs R).length := by simp [onceL]
                refine awp_next rfl (by kernel_rfl) rfl rfl rfl rfl rfl (fun hall => ?_) (fun i p hp hi => ?_)
                · have p1 : (((R.map Rw.av).length : Int) != 3) = false := by simp [hl3]
                  have p2 : (((((appliedP R).map iv).length : Nat) : Int) != (((onceL (devs R)).length : Nat) : Int)) = false := by simp [hR.applied, hml]
                  repeat (first | ((with_reducible refine k_move ?_); refine m_move rfl ?_) | ((with_reducible refine k_extract ?_); refine x_extract rfl rfl ?_) | ((with_reducible refine k_call ?_); refine x_len tbOk rfl rfl ?_) | ((with_reducible refine k_bin ?_); refine m_binI rfl rfl rfl ?_)  | refine e_nrm ?_ | refine x_none rfl ?_ | refine x_run_f rfl rfl (by first | rfl | assumption) ?_ | with_reducible refine q_then ?_ | with_reducible refine q_then_exit ?_ | with_reducible refine awp_seq ?_ | with_reducible refine awp_exit ?_ | ((with_reducible refine q_block_exit ?_ ?_); rfl) | ((with_reducible refine w_region ?_ ?_); kernel_rfl) | refine w_cond_f rfl (by first | rfl | assumption) ?_)
                  refine x_call0 (applied_A R hG hR.names hRm) (by repeat' (first | exact trivial | exact Ren.v _ | exact Ren.sl _ _ | exact Ren.ep _ | exact Ren.ptr _ _ _ _ rfl | exact Ren.nil _ | exact Ren.own _ _ _ _ ⟨_, rfl⟩ | refine ren_ag ?_ | refine ren_tu ?_ | refine ren_fn ?_ | refine ⟨?_, ?_⟩)) (by repeat' (first | exact trivial | exact RenB.v _ | exact RenB.sl _ _ | exact RenB.ep _ | exact RenB.ptr _ _ _ _ rfl | refine renb_ag ?_ | refine renb_tu ?_ | refine ⟨?_, ?_⟩)) ?_
                  repeat (first | ((with_reducible refine k_move ?_); refine m_move rfl ?_) | ((with_reducible refine k_call ?_); refine x_len tbOk rfl rfl ?_)  | refine x_run_f rfl rfl (by first | rfl | assumption) ?_  )
                  refine x_len_map Tryd.underlying56 rfl rfl rfl ?_
                  repeat (first | ((with_reducible refine k_move ?_); refine m_move rfl ?_) | ((with_reducible refine k_pick ?_); refine m_pickf rfl (by first | rfl | assumption) rfl ?_) | ((with_reducible refine k_bin ?_); refine x_add_in rfl rfl (by omega) ?_) | ((with_reducible refine k_bin ?_); refine m_binI rfl rfl rfl ?_)  | refine e_nrm ?_ | refine x_none rfl ?_ | refine x_run_f rfl rfl (by first | rfl | assumption) ?_ | with_reducible refine q_then ?_ | with_reducible refine q_block ?_ | with_reducible refine awp_skip ?_ | ((with_reducible refine w_region ?_ ?_); kernel_rfl) | refine w_cond_f rfl (by first | rfl | assumption) ?_)
                  exact ⟨(k + 1, R), ⟨by show k + 1 ≤ moves.length; omega, hR⟩, by show moves.length - (k + 1) < moves.length - k; omega, ⟨rfl, rfl, rfl, rfl, rfl, trivial⟩, ⟨rfl, trivial⟩⟩
                · obtain ⟨d, hd⟩ := some_at (L := devs R) (k := i) (by have := lt_at hp; omega)
                  obtain rfl : p = (.int .i64 d, .int .i64 1) := by
                    unfold onceL at hp
                    rw [List.getElem?_map, hd] at hp
                    injection hp with hp; exact hp.symm
                  have hd35 := hdd d (List.mem_of_getElem? hd)
                  obtain ⟨x, hx, hx4⟩ := hkind d hd35
                  have p3 : (x.k != 4) = false := by simp [hx4]
                  repeat (first | ((with_reducible refine k_extract ?_); refine x_extract rfl rfl ?_)  | refine e_nrm ?_ | refine x_none rfl ?_ | with_reducible refine q_then ?_ | with_reducible refine awp_seq ?_ | with_reducible refine awp_block ?_ | with_reducible refine awp_skip ?_ | ((with_reducible refine w_region ?_ ?_); kernel_rfl) | refine w_cond_t rfl (by first | rfl | assumption) ?_)
                  refine x_entry rfl rfl rfl rfl hp (.v (.int .i64 d)) (.v (.int .i64 1)) rfl rfl ?_
                  repeat (first | ((with_reducible refine k_move ?_); refine m_move rfl ?_) | ((with_reducible refine k_assign ?_); refine m_assign rfl ?_) | ((with_reducible refine k_fieldAddr ?_); refine x_fieldAddr_ptr tbOk rfl rfl rfl rfl ?_) | ((with_reducible refine k_fieldAddr ?_); refine x_fieldAddr_ep tbOk rfl rfl rfl rfl ?_) | ((with_reducible refine k_load ?_); refine x_load_one tbOk rfl rfl rfl rfl rfl ?_) | ((with_reducible refine k_load ?_); refine x_load_ep_one tbOk rfl rfl rfl ?_) | ((with_reducible refine k_extract ?_); refine x_extract rfl rfl ?_) | ((with_reducible refine k_pick ?_); refine m_pickf rfl (by first | rfl | assumption) rfl ?_) | ((with_reducible refine k_indexAddr ?_); refine x_indexAddr tbOk rfl rfl rfl rfl (by omega) (by assumption) ?_) | ((with_reducible refine k_bin ?_); refine m_binI rfl rfl rfl ?_)  | refine e_nrm ?_ | refine x_none rfl ?_ | refine x_run_f rfl rfl (by first | rfl | assumption) ?_ | with_reducible refine q_then ?_ | with_reducible refine q_block ?_ | with_reducible refine awp_seq ?_ | with_reducible refine awp_skip ?_ | ((with_reducible refine w_region ?_ ?_); kernel_rfl) | refine w_cond_f rfl (by first | rfl | assumption) ?_)
                  exact ⟨seen ++ [i], trivial, still_less (lt_at hd) hi, ⟨rfl, rfl, rfl, rfl, rfl, rfl, rfl, trivial⟩, ⟨rfl, rfl, rfl, trivial⟩⟩
    · repeat (first | ((with_reducible refine k_assign ?_); refine m_assign rfl ?_)  | refine e_nrm ?_ | refine x_none rfl ?_ | with_reducible refine q_then ?_ | with_reducible refine q_then_exit ?_ | with_reducible refine awp_seq ?_ | with_reducible refine awp_exit ?_ | with_reducible refine awp_ret ?_ | ((with_reducible refine q_block_exit ?_ ?_); rfl) | ((with_reducible refine w_region ?_ ?_); kernel_rfl))
      refine ret_v (by first | exact .inr rfl | exact .inl rfl) rfl rfl ?_
      rfl
end Go.Proofs.YtaoegbmgombhdaaDoor
