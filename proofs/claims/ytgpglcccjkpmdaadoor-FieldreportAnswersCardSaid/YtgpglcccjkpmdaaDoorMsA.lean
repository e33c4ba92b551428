/- permitofficemake.Message and Light, by the abstract machine: a valid message; conditions: none. -/
import Derived.Test.YtgpglcccjkpmdaaDoorNwB
import Derived.Test.YtgpglcccjkpmdaaDoorFrD
set_option linter.unusedVariables false
set_option linter.unusedSimpArgs false
namespace Go.Proofs.YtgpglcccjkpmdaaDoor
open Go Go.RowKit
set_option maxRecDepth 10000
variable {G : Nat → Option (List Value)}
def rpD (n t : Int) (D : Dk) : Rp × Dk := (⟨D.val n, 1 + D.next.val 2, 2, t, D.next.next.val 3 == 0⟩, D.next.next.next)
def rpsD (n t : Int) (D : Dk) : Nat → List Rp × Dk
  | 0 => ([], D)
  | k + 1 => ((rpsD n t D k).1 ++ [(rpD n t (rpsD n t D k).2).1], (rpD n t (rpsD n t D k).2).2)
def msC (D : Dk) : Int := 1 + D.next.next.val 4
def msgD (V : List Dv) (D : Dk) : Ms × Dk := (⟨nmS 67 (D.val 9).toNat, D.next.val 5000, (rpsD V.length (D.next.val 5000) D.next.next.next (msC D).toNat).1⟩, (rpsD V.length (D.next.val 5000) D.next.next.next (msC D).toNat).2)
theorem rpsD_ok {n t : Int} {D : Dk} (h : DkOk D) : ∀ k, DkOk (rpsD n t D k).2
  | 0 => h
  | k + 1 => (rpsD_ok h k).next.next.next
theorem rpsD_len (n t : Int) (D : Dk) : ∀ k, (rpsD n t D k).1.length = k
  | 0 => rfl
  | k + 1 => by simp [rpsD, rpsD_len n t D k]
theorem rpsD_in {n t : Int} {D : Dk} (h1 : 1 ≤ n) (h2 : n ≤ 1000000) : ∀ k, ∀ r ∈ (rpsD n t D k).1, (0 ≤ r.d ∧ r.d < n) ∧ (r.p = 1 ∨ r.p = 2) ∧ r.s = 2 ∧ r.t = t
  | 0, r, h => by simp [rpsD] at h
  | k + 1, r, h => by
    rw [rpsD] at h
    rcases List.mem_append.1 h with h | h
    · exact rpsD_in h1 h2 k r h
    · simp at h
      subst h
      have a1 := (rpsD n t D k).2.in_ h1 h2
      have a2 := (rpsD n t D k).2.next.in_ (n := 2) (by decide) (by decide)
      exact ⟨a1, by simp only [rpD]; omega, rfl, rfl⟩
theorem msC_in (D : Dk) : 1 ≤ msC D ∧ msC D ≤ 4 := by
  have := D.next.next.in_ (n := 4) (by decide) (by decide)
  unfold msC; omega
theorem nm67 : ∀ i : Fin 9, nameB (nmS 67 i.val).data.toList = true := by decide +kernel
theorem msgD_ok (V : List Dv) (D : Dk) (h1 : 1 ≤ V.length) (h2 : V.length ≤ 1000) : MsOk V (msgD V D).1 := by
  have a1 := D.in_ (n := 9) (by decide) (by decide)
  have a2 := D.next.in_ (n := 5000) (by decide) (by decide)
  have a3 := msC_in D
  have hl := rpsD_len V.length (D.next.val 5000) D.next.next.next (msC D).toNat
  refine ⟨nm67 ⟨(D.val 9).toNat, by omega⟩, timeB_iff.2 (by simp only [msgD]; omega), ?_, ?_, rpsD_in (by omega) (by omega) _⟩
  · show 1 ≤ (rpsD _ _ _ _).1.length
    omega
  · show (rpsD _ _ _ _).1.length ≤ 32
    omega
theorem msgD_dk {V : List Dv} {D : Dk} (h : DkOk D) : DkOk (msgD V D).2 := rpsD_ok h.next.next.next _
set_option maxHeartbeats 8000000 in
theorem message_A (N : List Nd) (V : List Dv) (D : Dk) (hD : DkOk D) (h1 : 1 ≤ V.length) (h2 : V.length ≤ 1000) :
    ACalls Tryd.prog G 16 [.ptr (refB + 0) 0 0, nwAV N V] [D.cells] (msgD V D).1.av [(msgD V D).2.cells] := by
  have a1 := D.in_ (n := 9) (by decide) (by decide)
  have a2 := D.next.in_ (n := 5000) (by decide) (by decide)
  have a3 := D.next.next.in_ (n := 4) (by decide) (by decide)
  have a4 := msC_in D
  have hvl : (V.map Dv.av).length = V.length := by simp
  obtain ⟨c, hc⟩ : ∃ c, c = msC D := ⟨_, rfl⟩
  obtain ⟨t, ht⟩ : ∃ t, t = D.next.val 5000 := ⟨_, rfl⟩
  have hnm := mkname_A (G := G) 67 (D.val 9).toNat (by omega)
  rw [Int.toNat_of_nonneg a1.1] at hnm
  refine acalls_of tbOk (enter_of Tryd.func16 (by kernel_rfl) rfl) Tryd.func16 rfl _ Tryd.ntmps16 (Nat.le_of_ble_eq_true rfl) fun X hX => ?_
  subst hX
  repeat (first | ((with_reducible refine k_move ?_); refine m_move rfl ?_) | ((with_reducible refine k_alloc ?_); refine x_alloc tbOk rfl rfl ?_) | ((with_reducible refine k_box ?_); refine m_box rfl rfl rfl ?_)  | refine e_nrm ?_ | refine x_none rfl ?_ | with_reducible refine q_then ?_ | with_reducible refine awp_seq ?_ | ((with_reducible refine w_region ?_ ?_); kernel_rfl))
  refine x_call (ss := [(refB + 0, 0)]) (next_A D 9 hD (by omega) (by omega)) (by repeat' (first | exact trivial | exact Ren.v _ | exact Ren.sl _ _ | exact Ren.ep _ | exact Ren.ptr _ _ _ _ rfl | exact Ren.bs _ _ _ _ _ rfl | exact Ren.nil _ | exact Ren.own _ _ _ _ ⟨_, rfl⟩ | refine ren_ag ?_ | refine ren_tu ?_ | refine ren_fn ?_ | refine ⟨?_, ?_⟩)) (by simp) (in1 rfl rfl) rfl (back1 rfl) (by repeat' (first | exact trivial | exact RenB.v _ | exact RenB.sl _ _ | exact RenB.ep _ | exact RenB.ptr _ _ _ _ rfl | refine renb_ag ?_ | refine renb_tu ?_ | refine ⟨?_, ?_⟩)) ?_
  repeat (first   | refine x_none rfl ?_  )
  refine x_call0 (hnm) (by repeat' (first | exact trivial | exact Ren.v _ | exact Ren.sl _ _ | exact Ren.ep _ | exact Ren.ptr _ _ _ _ rfl | exact Ren.bs _ _ _ _ _ rfl | exact Ren.nil _ | exact Ren.own _ _ _ _ ⟨_, rfl⟩ | refine ren_ag ?_ | refine ren_tu ?_ | refine ren_fn ?_ | refine ⟨?_, ?_⟩)) (by repeat' (first | exact trivial | exact RenB.v _ | exact RenB.sl _ _ | exact RenB.ep _ | exact RenB.ptr _ _ _ _ rfl | refine renb_ag ?_ | refine renb_tu ?_ | refine ⟨?_, ?_⟩)) ?_
  repeat (first | ((with_reducible refine k_move ?_); refine m_move rfl ?_)  | refine x_none rfl ?_  )
  refine x_call (ss := [(refB + 0, 0)]) (next_A D.next 5000 hD.next (by omega) (by omega)) (by repeat' (first | exact trivial | exact Ren.v _ | exact Ren.sl _ _ | exact Ren.ep _ | exact Ren.ptr _ _ _ _ rfl | exact Ren.bs _ _ _ _ _ rfl | exact Ren.nil _ | exact Ren.own _ _ _ _ ⟨_, rfl⟩ | refine ren_ag ?_ | refine ren_tu ?_ | refine ren_fn ?_ | refine ⟨?_, ?_⟩)) (by simp) (in1 rfl rfl) rfl (back1 rfl) (by repeat' (first | exact trivial | exact RenB.v _ | exact RenB.sl _ _ | exact RenB.ep _ | exact RenB.ptr _ _ _ _ rfl | refine renb_ag ?_ | refine renb_tu ?_ | refine ⟨?_, ?_⟩)) ?_
  repeat (first | ((with_reducible refine k_move ?_); refine m_move rfl ?_) | ((with_reducible refine k_store ?_); refine m_store tbOk rfl rfl rfl rfl rfl rfl rfl (Nat.le_of_ble_eq_true rfl) rfl ?_) | ((with_reducible refine k_alloc ?_); refine x_alloc tbOk rfl rfl ?_) | ((with_reducible refine k_build ?_); refine m_build tbOk rfl rfl rfl rfl rfl ?_)  | refine e_nrm ?_ | refine x_none rfl ?_ | with_reducible refine q_then ?_ | with_reducible refine awp_seq ?_ | ((with_reducible refine w_region ?_ ?_); kernel_rfl))
  refine x_call (ss := [(refB + 0, 0)]) (next_A D.next.next 4 hD.next.next (by omega) (by omega)) (by repeat' (first | exact trivial | exact Ren.v _ | exact Ren.sl _ _ | exact Ren.ep _ | exact Ren.ptr _ _ _ _ rfl | exact Ren.bs _ _ _ _ _ rfl | exact Ren.nil _ | exact Ren.own _ _ _ _ ⟨_, rfl⟩ | refine ren_ag ?_ | refine ren_tu ?_ | refine ren_fn ?_ | refine ⟨?_, ?_⟩)) (by simp) (in1 rfl rfl) rfl (back1 rfl) (by repeat' (first | exact trivial | exact RenB.v _ | exact RenB.sl _ _ | exact RenB.ep _ | exact RenB.ptr _ _ _ _ rfl | refine renb_ag ?_ | refine renb_tu ?_ | refine ⟨?_, ?_⟩)) ?_
  repeat (first | ((with_reducible refine k_assign ?_); refine m_assign rfl ?_) | ((with_reducible refine k_bin ?_); refine x_add_in rfl rfl (by omega) ?_)  | refine e_nrm ?_ | refine x_none rfl ?_ | with_reducible refine q_then ?_ | with_reducible refine awp_block ?_ )
  refine awp_own_at (s := 42) 36 5 [] [(5, [.v (.string (nmS 67 (D.val 9).toNat)), .v (.int .i64 (D.next.val 5000)), .own 42 1])] rfl trivial ⟨⟨_, _, rfl, .same (.same (.hit .nil))⟩, trivial⟩ ?_
  refine awp_loopv (ι := Nat) (fun v k => v (refB + 0) = 0 ∧ (k : Int) ≤ c) (fun k => c.toNat - k) (fun v k => [(0, .ptr (refB + 0) (v (refB + 0)) 0), (3, .ptr 3 (v 3) 0), (4, .ptr 4 (v 4) 0), (5, .ptr 5 (v 5) 0), (6, .v (.int .i64 (c - (k : Int))))]) (fun v k => [(refB + 0, .box (rpsD V.length t D.next.next.next k).2.cells), (3, .box [.sl 3 (N.map Nd.av), .sl 5 (V.map Dv.av)]), (4, .box [.v (.string ByteArray.empty), .v (.int .i64 0), .v (.slice none 0 0)]), (5, .box [.v (.string (nmS 67 (D.val 9).toNat)), .v (.int .i64 t), .own 42 (v 42)]), (42, .buf 36 5 ((rpsD V.length t D.next.next.next k).1.map Rp.av))]) ?_ ?_
  · rw [ht]
    exact ⟨0, ⟨rfl, by omega⟩, trivial, ⟨rfl, rfl, rfl, rfl, congrArg (fun z : Int => AV.v (.int .i64 z)) (by rw [hc]; unfold msC; omega), trivial⟩, ⟨rfl, rfl, rfl, rfl, rfl, trivial⟩⟩
  rintro v k ⟨hv0, hk⟩
  have hE := rpsD_ok (n := V.length) (t := t) hD.next.next.next k
  have hl := rpsD_len V.length t D.next.next.next k
  have eC : rpsD V.length t D.next.next.next (k + 1) = ((rpsD V.length t D.next.next.next k).1 ++ [(rpD V.length t (rpsD V.length t D.next.next.next k).2).1], (rpD V.length t (rpsD V.length t D.next.next.next k).2).2) := rfl
  obtain ⟨r, hr⟩ : ∃ r, r = rpsD V.length t D.next.next.next k := ⟨_, rfl⟩
  rw [← hr] at eC hE hl ⊢
  unfold rpD at eC
  have r2 := r.2.next.in_ (n := 2) (by decide) (by decide)
  have hmr : (r.1.map Rp.av).length = k := by rw [List.length_map, hl]
  repeat (first | ((with_reducible refine k_move ?_); refine m_move rfl ?_) | ((with_reducible refine k_bin ?_); refine m_binI rfl rfl rfl ?_)  | refine x_none rfl ?_ | with_reducible refine awp_seq ?_ | ((with_reducible refine w_region ?_ ?_); kernel_rfl))
  refine x_split rfl rfl (fun b1 => ?_) (fun b1 => ?_)
  · have hlt : (k : Int) < c := by simp at b1; omega
    repeat (first | ((with_reducible refine k_fieldAddr ?_); refine x_fieldAddr_ptr tbOk rfl rfl rfl rfl ?_) | ((with_reducible refine k_load ?_); refine x_load_one tbOk rfl rfl rfl rfl rfl ?_) | ((with_reducible refine k_pick ?_); refine m_pickt rfl (by first | rfl | assumption) rfl ?_) | ((with_reducible refine k_call ?_); refine x_len tbOk rfl rfl ?_) | ((with_reducible refine k_bin ?_); refine m_binI rfl rfl rfl ?_)  | refine e_nrm ?_ | refine x_none rfl ?_ | refine x_run_t rfl rfl (by first | rfl | assumption) ?_ | with_reducible refine q_then ?_ )
    refine w_cond rfl (fun h => ?_) (fun h => ?_)
    · have hnx := next_A (G := X.G) r.2 V.length hE (by omega) (by omega)
      rw [← hvl] at hnx
      repeat (first | ((with_reducible refine k_move ?_); refine m_move rfl ?_) | ((with_reducible refine k_fieldAddr ?_); refine x_fieldAddr_ptr tbOk rfl rfl rfl rfl ?_) | ((with_reducible refine k_load ?_); refine x_load_one tbOk rfl rfl rfl rfl rfl ?_) | ((with_reducible refine k_call ?_); refine x_len tbOk rfl rfl ?_)  | refine x_none rfl ?_ | with_reducible refine q_then ?_ | with_reducible refine awp_seq ?_ | with_reducible refine awp_block ?_ | with_reducible refine awp_skip ?_ | ((with_reducible refine w_draw mixd ?_ ?_); kernel_rfl))
      refine x_call (ss := [(refB + 0, v (refB + 0))]) (hnx) (by repeat' (first | exact trivial | exact Ren.v _ | exact Ren.sl _ _ | exact Ren.ep _ | exact Ren.ptr _ _ _ _ rfl | exact Ren.bs _ _ _ _ _ rfl | exact Ren.nil _ | exact Ren.own _ _ _ _ ⟨_, rfl⟩ | refine ren_ag ?_ | refine ren_tu ?_ | refine ren_fn ?_ | refine ⟨?_, ?_⟩)) (by simp) (in1 rfl rfl) rfl (back1 rfl) (by repeat' (first | exact trivial | exact RenB.v _ | exact RenB.sl _ _ | exact RenB.ep _ | exact RenB.ptr _ _ _ _ rfl | refine renb_ag ?_ | refine renb_tu ?_ | refine ⟨?_, ?_⟩)) ?_
      repeat (first | ((with_reducible refine k_move ?_); refine m_move rfl ?_)  | refine x_none rfl ?_  )
      refine x_call (ss := [(refB + 0, v (refB + 0))]) (next_A r.2.next 2 hE.next (by omega) (by omega)) (by repeat' (first | exact trivial | exact Ren.v _ | exact Ren.sl _ _ | exact Ren.ep _ | exact Ren.ptr _ _ _ _ rfl | exact Ren.bs _ _ _ _ _ rfl | exact Ren.nil _ | exact Ren.own _ _ _ _ ⟨_, rfl⟩ | refine ren_ag ?_ | refine ren_tu ?_ | refine ren_fn ?_ | refine ⟨?_, ?_⟩)) (by simp) (in1 rfl rfl) rfl (back1 rfl) (by repeat' (first | exact trivial | exact RenB.v _ | exact RenB.sl _ _ | exact RenB.ep _ | exact RenB.ptr _ _ _ _ rfl | refine renb_ag ?_ | refine renb_tu ?_ | refine ⟨?_, ?_⟩)) ?_
      repeat (first | ((with_reducible refine k_move ?_); refine m_move rfl ?_) | ((with_reducible refine k_fieldAddr ?_); refine x_fieldAddr_ptr tbOk rfl rfl rfl rfl ?_) | ((with_reducible refine k_load ?_); refine x_load_one tbOk rfl rfl rfl rfl rfl ?_) | ((with_reducible refine k_bin ?_); refine x_add_in rfl rfl (by omega) ?_)  | refine x_none rfl ?_  )
      refine x_call (ss := [(refB + 0, v (refB + 0))]) (one_A r.2.next.next 3 hE.next.next (by omega) (by omega)) (by repeat' (first | exact trivial | exact Ren.v _ | exact Ren.sl _ _ | exact Ren.ep _ | exact Ren.ptr _ _ _ _ rfl | exact Ren.bs _ _ _ _ _ rfl | exact Ren.nil _ | exact Ren.own _ _ _ _ ⟨_, rfl⟩ | refine ren_ag ?_ | refine ren_tu ?_ | refine ren_fn ?_ | refine ⟨?_, ?_⟩)) (by simp) (in1 rfl rfl) rfl (back1 rfl) (by repeat' (first | exact trivial | exact RenB.v _ | exact RenB.sl _ _ | exact RenB.ep _ | exact RenB.ptr _ _ _ _ rfl | refine renb_ag ?_ | refine renb_tu ?_ | refine ⟨?_, ?_⟩)) ?_
      repeat (first | ((with_reducible refine k_build ?_); refine m_build tbOk rfl rfl rfl rfl rfl ?_) | ((with_reducible refine k_buildSlice ?_); refine m_buildSlice tbOk rfl rfl rfl rfl rfl (by omega) rfl rfl rfl ?_) | refine x_none rfl ?_  )
      refine x_append_own tbOk rfl rfl rfl rfl rfl (by decide) rfl rfl rfl rfl rfl (fun x hx => by simp at hx; subst hx; rfl) (by rw [hmr]; simp only [List.length_map, List.length_cons, List.length_nil]; omega) (by rw [hmr]; simp only [List.length_map, List.length_cons, List.length_nil]; omega) ?_
      repeat (first | ((with_reducible refine k_move ?_); refine m_move rfl ?_) | ((with_reducible refine k_assign ?_); refine m_assign rfl ?_) | ((with_reducible refine k_fieldAddr ?_); refine x_fieldAddr_ptr tbOk rfl rfl rfl rfl ?_) | ((with_reducible refine k_store ?_); refine m_store tbOk rfl rfl rfl rfl rfl rfl rfl (Nat.le_of_ble_eq_true rfl) rfl ?_) | ((with_reducible refine k_bin ?_); refine x_sub_in rfl rfl (by omega) ?_)  | refine e_nrm ?_ | refine e_drw (by kernel_rfl) ?_ | refine x_none rfl ?_ | with_reducible refine q_then ?_ | with_reducible refine q_block ?_ | ((with_reducible refine w_region ?_ ?_); kernel_rfl))
      exact ⟨k + 1, ⟨hv0, by omega⟩, by omega, ⟨rfl, rfl, rfl, rfl, congrArg (fun z : Int => AV.v (.int .i64 z)) (by omega), trivial⟩, ⟨hc_box (by rw [eC]), rfl, rfl, rfl, hc_buf (by rw [eC, List.map_append, ← hvl]; rfl), trivial⟩⟩
    · exfalso
      have h' := of_decide_eq_false h
      omega
  have hkc : (k : Int) = c := by simp at b1; omega
  have hS : (msgD V D) = (⟨nmS 67 (D.val 9).toNat, t, r.1⟩, r.2) := by
    unfold msgD
    rw [← hc, ← ht, ← hkc, Int.toNat_natCast, ← hr]
  rw [hS]
  repeat (first | ((with_reducible refine k_pick ?_); refine m_pickf rfl (by first | rfl | assumption) rfl ?_) | refine e_nrm ?_ | refine x_none rfl ?_ | refine x_skip_t rfl rfl (by first | rfl | assumption) ?_ | with_reducible refine q_then ?_)
  refine awp_freeze_at (s := 42) [] [(5, [.v (.string (nmS 67 (D.val 9).toNat)), .v (.int .i64 t), .sl 5 (r.1.map Rp.av)])] rfl trivial ⟨⟨_, _, rfl, .same (.same (.hit .nil))⟩, trivial⟩ ?_
  repeat (first | ((with_reducible refine k_load ?_); refine x_load_agg tbOk rfl rfl rfl rfl (Nat.le_of_ble_eq_true rfl) ?_) | ((with_reducible refine k_store ?_); refine m_store tbOk rfl rfl rfl rfl rfl rfl rfl (Nat.le_of_ble_eq_true rfl) rfl ?_)  | refine e_nrm ?_ | refine x_none rfl ?_ | with_reducible refine q_then ?_ | with_reducible refine q_then_exit ?_ | with_reducible refine awp_seq ?_ | with_reducible refine awp_exit ?_ | with_reducible refine awp_ret ?_ | ((with_reducible refine q_block_exit ?_ ?_); rfl) | ((with_reducible refine w_region ?_ ?_); kernel_rfl) | refine w_cond_f rfl (by first | rfl | assumption) ?_)
  refine ret1_cell (by first | exact .inr rfl | exact .inl rfl) rfl rfl rfl rfl rfl rfl (by first | rfl | assumption) ?_ rfl ?_ rfl
  · rfl
  · rfl
theorem light_A (N : List Nd) (V : List Dv) (ok : NwOk N V) : ACalls Tryd.prog G 15 [nwAV N V] [] (.v (.bool ((decide (N.length ≤ 40) && decide (V.length ≤ 14)) || (!decide (netE N V = 0) && (decide (N.length ≤ 100) && decide (V.length ≤ 200)))))) [] := by
  refine acalls_of tbOk (enter_of Tryd.func15 (by kernel_rfl) rfl) Tryd.func15 rfl _ Tryd.ntmps15 (Nat.le_of_ble_eq_true rfl) fun X hX => ?_
  subst hX
  repeat (first | ((with_reducible refine k_move ?_); refine m_move rfl ?_) | ((with_reducible refine k_assign ?_); refine m_assign rfl ?_) | ((with_reducible refine k_fieldAddr ?_); refine x_fieldAddr_ptr tbOk rfl rfl rfl rfl ?_) | ((with_reducible refine k_load ?_); refine x_load_one tbOk rfl rfl rfl rfl rfl ?_) | ((with_reducible refine k_box ?_); refine m_box rfl rfl rfl ?_) | ((with_reducible refine k_call ?_); refine x_len tbOk rfl rfl ?_) | ((with_reducible refine k_bin ?_); refine m_binI rfl rfl rfl ?_)  | refine e_nrm ?_ | refine x_none rfl ?_ | with_reducible refine q_then ?_ | with_reducible refine awp_seq ?_ | ((with_reducible refine w_region ?_ ?_); kernel_rfl))
  refine x_split rfl rfl (fun b1 => ?_) (fun b1 => ?_)
  · have c1 : N.length ≤ 40 := by simp at b1; omega
    repeat (first | ((with_reducible refine k_move ?_); refine m_move rfl ?_) | ((with_reducible refine k_fieldAddr ?_); refine x_fieldAddr_ptr tbOk rfl rfl rfl rfl ?_) | ((with_reducible refine k_load ?_); refine x_load_one tbOk rfl rfl rfl rfl rfl ?_) | ((with_reducible refine k_pick ?_); refine m_pickt rfl (by first | rfl | assumption) rfl ?_) | ((with_reducible refine k_call ?_); refine x_len tbOk rfl rfl ?_) | ((with_reducible refine k_bin ?_); refine m_binI rfl rfl rfl ?_)  | refine x_none rfl ?_ | refine x_run_t rfl rfl (by first | rfl | assumption) ?_  )
    refine x_split rfl rfl (fun b2 => ?_) (fun b2 => ?_)
    · have c2 : V.length ≤ 14 := by simp at b2; omega
      repeat (first | ((with_reducible refine k_assign ?_); refine m_assign rfl ?_) | ((with_reducible refine k_pick ?_); refine m_pickt rfl (by first | rfl | assumption) rfl ?_)  | refine e_nrm ?_ | refine x_none rfl ?_ | refine x_skip_f rfl rfl (by first | rfl | assumption) ?_ | refine x_skip' rfl rfl rfl ?_ | with_reducible refine q_then ?_ | with_reducible refine awp_ret ?_ )
      refine ret_v (by first | exact .inr rfl | exact .inl rfl) rfl rfl ?_
      simp [c1, c2]
    · have c2 : ¬ V.length ≤ 14 := by simp at b2; omega
      repeat (first | ((with_reducible refine k_load ?_); refine x_load_agg tbOk rfl rfl rfl rfl (Nat.le_of_ble_eq_true rfl) ?_)  | refine x_run_f rfl rfl (by first | rfl | assumption) ?_  )
      refine x_call0 (rnet_A N V ok.n ok.v ok.l1 ok.l2) (by repeat' (first | exact trivial | exact Ren.v _ | exact Ren.sl _ _ | exact Ren.ep _ | exact Ren.ptr _ _ _ _ rfl | exact Ren.bs _ _ _ _ _ rfl | exact Ren.nil _ | exact Ren.own _ _ _ _ ⟨_, rfl⟩ | refine ren_ag ?_ | refine ren_tu ?_ | refine ren_fn ?_ | refine ⟨?_, ?_⟩)) (by repeat' (first | exact trivial | exact RenB.v _ | exact RenB.sl _ _ | exact RenB.ep _ | exact RenB.ptr _ _ _ _ rfl | refine renb_ag ?_ | refine renb_tu ?_ | refine ⟨?_, ?_⟩)) ?_
      repeat (first | ((with_reducible refine k_move ?_); refine m_move rfl ?_) | ((with_reducible refine k_bin ?_); refine m_binI rfl rfl rfl ?_)  | refine x_run_f rfl rfl (by first | rfl | assumption) ?_  )
      refine x_split rfl rfl (fun b3 => ?_) (fun b3 => ?_)
      · have c3 : ¬ netE N V = 0 := by simpa using b3
        repeat (first | ((with_reducible refine k_move ?_); refine m_move rfl ?_) | ((with_reducible refine k_fieldAddr ?_); refine x_fieldAddr_ptr tbOk rfl rfl rfl rfl ?_) | ((with_reducible refine k_load ?_); refine x_load_one tbOk rfl rfl rfl rfl rfl ?_) | ((with_reducible refine k_pick ?_); refine m_pickt rfl (by first | rfl | assumption) rfl ?_) | ((with_reducible refine k_call ?_); refine x_len tbOk rfl rfl ?_) | ((with_reducible refine k_bin ?_); refine m_binI rfl rfl rfl ?_)  | refine x_run_t rfl rfl (by first | rfl | assumption) ?_ | refine x_run_f rfl rfl (by first | rfl | assumption) ?_  )
        refine x_split rfl rfl (fun b4 => ?_) (fun b4 => ?_)
        · have c4 : N.length ≤ 100 := by simp at b4; omega
          repeat (first | ((with_reducible refine k_assign ?_); refine m_assign rfl ?_) | ((with_reducible refine k_fieldAddr ?_); refine x_fieldAddr_ptr tbOk rfl rfl rfl rfl ?_) | ((with_reducible refine k_load ?_); refine x_load_one tbOk rfl rfl rfl rfl rfl ?_) | ((with_reducible refine k_pick ?_); refine m_pickt rfl (by first | rfl | assumption) rfl ?_) | ((with_reducible refine k_pick ?_); refine m_pickf rfl (by first | rfl | assumption) rfl ?_) | ((with_reducible refine k_call ?_); refine x_len tbOk rfl rfl ?_) | ((with_reducible refine k_bin ?_); refine m_binI rfl rfl rfl ?_)  | refine e_nrm ?_ | refine x_none rfl ?_ | refine x_run_t rfl rfl (by first | rfl | assumption) ?_ | refine x_run_f rfl rfl (by first | rfl | assumption) ?_ | with_reducible refine q_then ?_ | with_reducible refine awp_ret ?_ )
          refine ret_v (by first | exact .inr rfl | exact .inl rfl) rfl rfl ?_
          simp [c1, c2, c3, c4]; try omega
        · have c4 : ¬ N.length ≤ 100 := by simp at b4; omega
          repeat (first | ((with_reducible refine k_assign ?_); refine m_assign rfl ?_) | ((with_reducible refine k_pick ?_); refine m_pickf rfl (by first | rfl | assumption) rfl ?_)  | refine e_nrm ?_ | refine x_none rfl ?_ | refine x_skip_t rfl rfl (by first | rfl | assumption) ?_ | refine x_run_f rfl rfl (by first | rfl | assumption) ?_ | with_reducible refine q_then ?_ | with_reducible refine awp_ret ?_ )
          refine ret_v (by first | exact .inr rfl | exact .inl rfl) rfl rfl ?_
          simp [c1, c2, c3, c4]; try omega
      · have c3 : netE N V = 0 := by simpa using b3
        repeat (first | ((with_reducible refine k_move ?_); refine m_move rfl ?_) | ((with_reducible refine k_assign ?_); refine m_assign rfl ?_) | ((with_reducible refine k_pick ?_); refine m_pickf rfl (by first | rfl | assumption) rfl ?_)  | refine e_nrm ?_ | refine x_none rfl ?_ | refine x_skip_t rfl rfl (by first | rfl | assumption) ?_ | refine x_run_f rfl rfl (by first | rfl | assumption) ?_ | with_reducible refine q_then ?_ | with_reducible refine awp_ret ?_ )
        refine ret_v (by first | exact .inr rfl | exact .inl rfl) rfl rfl ?_
        simp [c1, c2, c3]
  · have c1 : ¬ N.length ≤ 40 := by simp at b1; omega
    repeat (first | ((with_reducible refine k_move ?_); refine m_move rfl ?_) | ((with_reducible refine k_load ?_); refine x_load_agg tbOk rfl rfl rfl rfl (Nat.le_of_ble_eq_true rfl) ?_) | ((with_reducible refine k_pick ?_); refine m_pickf rfl (by first | rfl | assumption) rfl ?_)  | refine x_none rfl ?_ | refine x_skip_t rfl rfl (by first | rfl | assumption) ?_ | refine x_run_f rfl rfl (by first | rfl | assumption) ?_  )
    refine x_call0 (rnet_A N V ok.n ok.v ok.l1 ok.l2) (by repeat' (first | exact trivial | exact Ren.v _ | exact Ren.sl _ _ | exact Ren.ep _ | exact Ren.ptr _ _ _ _ rfl | exact Ren.bs _ _ _ _ _ rfl | exact Ren.nil _ | exact Ren.own _ _ _ _ ⟨_, rfl⟩ | refine ren_ag ?_ | refine ren_tu ?_ | refine ren_fn ?_ | refine ⟨?_, ?_⟩)) (by repeat' (first | exact trivial | exact RenB.v _ | exact RenB.sl _ _ | exact RenB.ep _ | exact RenB.ptr _ _ _ _ rfl | refine renb_ag ?_ | refine renb_tu ?_ | refine ⟨?_, ?_⟩)) ?_
    repeat (first | ((with_reducible refine k_move ?_); refine m_move rfl ?_) | ((with_reducible refine k_bin ?_); refine m_binI rfl rfl rfl ?_)  | refine x_run_f rfl rfl (by first | rfl | assumption) ?_  )
    refine x_split rfl rfl (fun b3 => ?_) (fun b3 => ?_)
    · have c3 : ¬ netE N V = 0 := by simpa using b3
      repeat (first | ((with_reducible refine k_move ?_); refine m_move rfl ?_) | ((with_reducible refine k_fieldAddr ?_); refine x_fieldAddr_ptr tbOk rfl rfl rfl rfl ?_) | ((with_reducible refine k_load ?_); refine x_load_one tbOk rfl rfl rfl rfl rfl ?_) | ((with_reducible refine k_pick ?_); refine m_pickt rfl (by first | rfl | assumption) rfl ?_) | ((with_reducible refine k_call ?_); refine x_len tbOk rfl rfl ?_) | ((with_reducible refine k_bin ?_); refine m_binI rfl rfl rfl ?_)  | refine x_run_t rfl rfl (by first | rfl | assumption) ?_ | refine x_run_f rfl rfl (by first | rfl | assumption) ?_  )
      refine x_split rfl rfl (fun b4 => ?_) (fun b4 => ?_)
      · have c4 : N.length ≤ 100 := by simp at b4; omega
        repeat (first | ((with_reducible refine k_assign ?_); refine m_assign rfl ?_) | ((with_reducible refine k_fieldAddr ?_); refine x_fieldAddr_ptr tbOk rfl rfl rfl rfl ?_) | ((with_reducible refine k_load ?_); refine x_load_one tbOk rfl rfl rfl rfl rfl ?_) | ((with_reducible refine k_pick ?_); refine m_pickt rfl (by first | rfl | assumption) rfl ?_) | ((with_reducible refine k_pick ?_); refine m_pickf rfl (by first | rfl | assumption) rfl ?_) | ((with_reducible refine k_call ?_); refine x_len tbOk rfl rfl ?_) | ((with_reducible refine k_bin ?_); refine m_binI rfl rfl rfl ?_)  | refine e_nrm ?_ | refine x_none rfl ?_ | refine x_run_t rfl rfl (by first | rfl | assumption) ?_ | refine x_run_f rfl rfl (by first | rfl | assumption) ?_ | with_reducible refine q_then ?_ | with_reducible refine awp_ret ?_ )
        refine ret_v (by first | exact .inr rfl | exact .inl rfl) rfl rfl ?_
        simp [c1, c3, c4]; try omega
      · have c4 : ¬ N.length ≤ 100 := by simp at b4; omega
        repeat (first | ((with_reducible refine k_assign ?_); refine m_assign rfl ?_) | ((with_reducible refine k_pick ?_); refine m_pickf rfl (by first | rfl | assumption) rfl ?_)  | refine e_nrm ?_ | refine x_none rfl ?_ | refine x_skip_t rfl rfl (by first | rfl | assumption) ?_ | refine x_run_f rfl rfl (by first | rfl | assumption) ?_ | with_reducible refine q_then ?_ | with_reducible refine awp_ret ?_ )
        refine ret_v (by first | exact .inr rfl | exact .inl rfl) rfl rfl ?_
        simp [c1, c3, c4]; try omega
    · have c3 : netE N V = 0 := by simpa using b3
      repeat (first | ((with_reducible refine k_move ?_); refine m_move rfl ?_) | ((with_reducible refine k_assign ?_); refine m_assign rfl ?_) | ((with_reducible refine k_pick ?_); refine m_pickf rfl (by first | rfl | assumption) rfl ?_)  | refine e_nrm ?_ | refine x_none rfl ?_ | refine x_skip_t rfl rfl (by first | rfl | assumption) ?_ | refine x_run_f rfl rfl (by first | rfl | assumption) ?_ | with_reducible refine q_then ?_ | with_reducible refine awp_ret ?_ )
      refine ret_v (by first | exact .inr rfl | exact .inl rfl) rfl rfl ?_
      simp [c1, c3]
end Go.Proofs.YtgpglcccjkpmdaaDoor
