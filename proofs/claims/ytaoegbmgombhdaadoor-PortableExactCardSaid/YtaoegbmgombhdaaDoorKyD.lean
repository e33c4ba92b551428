/- permitofficefield.Holder and Rows, by the abstract machine; conditions: none. -/
import Derived.Test.YtaoegbmgombhdaaDoorKyC
import Derived.Test.YtaoegbmgombhdaaDoorDkB
set_option linter.unusedVariables false
set_option linter.unusedSimpArgs false
namespace Go.Proofs.YtaoegbmgombhdaaDoor
open Go Go.RowKit
set_option maxRecDepth 10000
variable {G : Nat → Option (List Value)}
def hStore : Hol := ⟨1, 0, emptyS⟩
def hPers (n : ByteArray) : Hol := ⟨2, 0, n⟩
def hSafe (i : Int) : Hol := ⟨3, i, emptyS⟩
def hDev (i : Int) : Hol := ⟨4, i, emptyS⟩
theorem store_A : ACalls Tryd.prog G 17 [] [] hStore.av [] := by
  refine acalls_of tbOk (enter_of Tryd.func17 (by kernel_rfl) rfl) Tryd.func17 rfl _ Tryd.ntmps17 (Nat.le_of_ble_eq_true rfl) fun X hX => ?_
  subst hX
  repeat (first | ((with_reducible refine k_store ?_); refine m_store tbOk rfl rfl rfl rfl rfl rfl rfl (Nat.le_of_ble_eq_true rfl) rfl ?_) | ((with_reducible refine k_alloc ?_); refine x_alloc tbOk rfl rfl ?_) | ((with_reducible refine k_build ?_); refine m_build tbOk rfl rfl rfl rfl rfl ?_)  | refine e_nrm ?_ | refine x_none rfl ?_ | with_reducible refine q_then ?_ | with_reducible refine awp_seq ?_ | with_reducible refine awp_ret ?_ | ((with_reducible refine w_region ?_ ?_); kernel_rfl))
  refine ret0_cell (by first | exact .inr rfl | exact .inl rfl) rfl rfl rfl rfl rfl ?_ rfl
  rfl
theorem pers_A (n : ByteArray) : ACalls Tryd.prog G 15 [.v (.string n)] [] (hPers n).av [] := by
  refine acalls_of tbOk (enter_of Tryd.func15 (by kernel_rfl) rfl) Tryd.func15 rfl _ Tryd.ntmps15 (Nat.le_of_ble_eq_true rfl) fun X hX => ?_
  subst hX
  repeat (first | ((with_reducible refine k_move ?_); refine m_move rfl ?_) | ((with_reducible refine k_store ?_); refine m_store tbOk rfl rfl rfl rfl rfl rfl rfl (Nat.le_of_ble_eq_true rfl) rfl ?_) | ((with_reducible refine k_alloc ?_); refine x_alloc tbOk rfl rfl ?_) | ((with_reducible refine k_build ?_); refine m_build tbOk rfl rfl rfl rfl rfl ?_)  | refine e_nrm ?_ | refine x_none rfl ?_ | with_reducible refine q_then ?_ | with_reducible refine awp_seq ?_ | with_reducible refine awp_ret ?_ | ((with_reducible refine w_region ?_ ?_); kernel_rfl))
  refine ret0_cell (by first | exact .inr rfl | exact .inl rfl) rfl rfl rfl rfl rfl ?_ rfl
  rfl
theorem safe_A (i : Int) : ACalls Tryd.prog G 87 [.v (.int .i64 i)] [] (hSafe i).av [] := by
  refine acalls_of tbOk (enter_of Tryd.func87 (by kernel_rfl) rfl) Tryd.func87 rfl _ Tryd.ntmps87 (Nat.le_of_ble_eq_true rfl) fun X hX => ?_
  subst hX
  repeat (first | ((with_reducible refine k_move ?_); refine m_move rfl ?_) | ((with_reducible refine k_store ?_); refine m_store tbOk rfl rfl rfl rfl rfl rfl rfl (Nat.le_of_ble_eq_true rfl) rfl ?_) | ((with_reducible refine k_alloc ?_); refine x_alloc tbOk rfl rfl ?_) | ((with_reducible refine k_build ?_); refine m_build tbOk rfl rfl rfl rfl rfl ?_)  | refine e_nrm ?_ | refine x_none rfl ?_ | with_reducible refine q_then ?_ | with_reducible refine awp_seq ?_ | with_reducible refine awp_ret ?_ | ((with_reducible refine w_region ?_ ?_); kernel_rfl))
  refine ret0_cell (by first | exact .inr rfl | exact .inl rfl) rfl rfl rfl rfl rfl ?_ rfl
  rfl
theorem device_A (i : Int) : ACalls Tryd.prog G 16 [.v (.int .i64 i)] [] (hDev i).av [] := by
  refine acalls_of tbOk (enter_of Tryd.func16 (by kernel_rfl) rfl) Tryd.func16 rfl _ Tryd.ntmps16 (Nat.le_of_ble_eq_true rfl) fun X hX => ?_
  subst hX
  repeat (first | ((with_reducible refine k_move ?_); refine m_move rfl ?_) | ((with_reducible refine k_store ?_); refine m_store tbOk rfl rfl rfl rfl rfl rfl rfl (Nat.le_of_ble_eq_true rfl) rfl ?_) | ((with_reducible refine k_alloc ?_); refine x_alloc tbOk rfl rfl ?_) | ((with_reducible refine k_build ?_); refine m_build tbOk rfl rfl rfl rfl rfl ?_)  | refine e_nrm ?_ | refine x_none rfl ?_ | with_reducible refine q_then ?_ | with_reducible refine awp_seq ?_ | with_reducible refine awp_ret ?_ | ((with_reducible refine w_region ?_ ?_); kernel_rfl))
  refine ret0_cell (by first | exact .inr rfl | exact .inl rfl) rfl rfl rfl rfl rfl ?_ rfl
  rfl
def nB1 : ByteArray := ⟨#[66, 49]⟩
def nC1 : ByteArray := ⟨#[67, 49]⟩
def pick2 (a b : ByteArray) (n : Int) : ByteArray := if n = 0 then a else b
theorem pick2_at (a b : ByteArray) {n : Int} (h0 : 0 ≤ n) (h1 : n < 2) : ([.v (.string a), .v (.string b)] : List AV)[n.toNat]? = some (.v (.string (pick2 a b n))) := by
  obtain rfl | rfl : n = 0 ∨ n = 1 := by omega
  · rfl
  · rfl
def holOf (D : Dk) : Hol := if D.val 4 = 0 then hStore else if D.val 4 = 1 then hPers (pick2 nB1 nC1 (D.next.val 2)) else if D.val 4 = 2 then hSafe (1 + D.next.val 3) else hDev (D.next.val 6)
def holD (D : Dk) : Dk := if D.val 4 = 0 then D.next else D.next.next
theorem holD_ok {D : Dk} (h : DkOk D) : DkOk (holD D) := by
  unfold holD
  split
  · exact h.next
  · exact h.next.next
theorem pick2_cases (a b : ByteArray) (n : Int) : pick2 a b n = a ∨ pick2 a b n = b := by
  unfold pick2
  split
  · exact .inl rfl
  · exact .inr rfl
theorem holOf_right (D : Dk) : rightB (holOf D) = true := by
  unfold holOf
  have r3 := D.next.val_range (n := 3) (by omega)
  have r6 := D.next.val_range (n := 6) (by omega)
  have a3 := r3.2.1 (by omega)
  have a6 := r6.2.1 (by omega)
  split
  · decide +kernel
  split
  · rcases pick2_cases nB1 nC1 (D.next.val 2) with e | e <;> rw [e] <;> decide +kernel
  split
  · unfold rightB hSafe
    simp
    omega
  · unfold rightB hDev
    simp
    omega
theorem holOf_name (D : Dk) : (holOf D).n.size ≤ 12 := by
  unfold holOf
  split
  · decide
  split
  · rcases pick2_cases nB1 nC1 (D.next.val 2) with e | e <;> rw [e] <;> decide
  split <;> exact (by decide : emptyS.size ≤ 12)
set_option maxHeartbeats 1000000 in
theorem holder_A (D : Dk) (hD : DkOk D) : ACalls Tryd.prog G 73 [.ptr (refB + 0) 0 0] [D.cells] (holOf D).av [(holD D).cells] := by
  have r2 := D.next.val_range (n := 2) (by omega)
  have r3 := D.next.val_range (n := 3) (by omega)
  have a2 := r2.2.1 (by omega)
  have a3 := r3.2.1 (by omega)
  have p2 := pick2_at nB1 nC1 r2.1 a2
  unfold holOf holD
  refine acalls_of tbOk (enter_of Tryd.func73 (by kernel_rfl) rfl) Tryd.func73 rfl _ Tryd.ntmps73 (Nat.le_of_ble_eq_true rfl) fun X hX => ?_
  subst hX
  repeat (first | ((with_reducible refine k_move ?_); refine m_move rfl ?_) | ((with_reducible refine k_alloc ?_); refine x_alloc tbOk rfl rfl ?_)  | refine e_nrm ?_ | refine x_none rfl ?_ | with_reducible refine q_then ?_ | with_reducible refine awp_seq ?_ | ((with_reducible refine w_region ?_ ?_); kernel_rfl))
  refine x_call (ss := [(refB + 0, 0)]) (next_A D 4 hD (by omega) (by omega)) (by repeat' (first | exact trivial | exact Ren.v _ | exact Ren.sl _ _ | exact Ren.ep _ | exact Ren.ptr _ _ _ _ rfl | exact Ren.nil _ | exact Ren.own _ _ _ _ ⟨_, rfl⟩ | refine ren_ag ?_ | refine ren_tu ?_ | refine ren_fn ?_ | refine ⟨?_, ?_⟩)) (by simp) (in1 rfl rfl) rfl (back1 rfl) (by repeat' (first | exact trivial | exact RenB.v _ | exact RenB.sl _ _ | exact RenB.ep _ | exact RenB.ptr _ _ _ _ rfl | refine renb_ag ?_ | refine renb_tu ?_ | refine ⟨?_, ?_⟩)) ?_
  repeat (first | ((with_reducible refine k_assign ?_); refine m_assign rfl ?_) | ((with_reducible refine k_bin ?_); refine m_binI rfl rfl rfl ?_)  | refine e_nrm ?_ | refine x_none rfl ?_ | with_reducible refine q_then ?_ | with_reducible refine awp_seq ?_ | with_reducible refine awp_block ?_ | ((with_reducible refine w_region ?_ ?_); kernel_rfl))
  refine w_cond rfl (fun h => ?_) (fun h => ?_)
  · have h' : D.val 4 = 0 := by simpa using h
    rw [if_pos h', if_pos h']
    repeat (first   | refine x_none rfl ?_ | with_reducible refine awp_seq ?_ | ((with_reducible refine w_region ?_ ?_); kernel_rfl))
    refine x_call0 (store_A) (by repeat' (first | exact trivial | exact Ren.v _ | exact Ren.sl _ _ | exact Ren.ep _ | exact Ren.ptr _ _ _ _ rfl | exact Ren.nil _ | exact Ren.own _ _ _ _ ⟨_, rfl⟩ | refine ren_ag ?_ | refine ren_tu ?_ | refine ren_fn ?_ | refine ⟨?_, ?_⟩)) (by repeat' (first | exact trivial | exact RenB.v _ | exact RenB.sl _ _ | exact RenB.ep _ | exact RenB.ptr _ _ _ _ rfl | refine renb_ag ?_ | refine renb_tu ?_ | refine ⟨?_, ?_⟩)) ?_
    repeat (first | ((with_reducible refine k_store ?_); refine m_store tbOk rfl rfl rfl rfl rfl rfl rfl (Nat.le_of_ble_eq_true rfl) rfl ?_)  | refine e_nrm ?_ | refine x_none rfl ?_ | with_reducible refine q_then ?_ | with_reducible refine q_then_ret ?_ | with_reducible refine q_block_ret ?_ | with_reducible refine awp_ret ?_ )
    refine ret1_cell (by first | exact .inr rfl | exact .inl rfl) rfl rfl rfl rfl rfl rfl (by first | rfl | assumption) ?_ rfl ?_ rfl <;> rfl
  · have h' : ¬ D.val 4 = 0 := by simpa using h
    rw [if_neg h', if_neg h']
    repeat (first | ((with_reducible refine k_assign ?_); refine m_assign rfl ?_) | ((with_reducible refine k_bin ?_); refine m_binI rfl rfl rfl ?_)  | refine e_nrm ?_ | refine x_none rfl ?_ | with_reducible refine q_then ?_ | with_reducible refine awp_seq ?_ | ((with_reducible refine w_region ?_ ?_); kernel_rfl))
    refine w_cond rfl (fun h => ?_) (fun h => ?_)
    · have h' : D.val 4 = 1 := by simpa using h
      rw [if_pos h']
      repeat (first | ((with_reducible refine k_move ?_); refine m_move rfl ?_) | ((with_reducible refine k_buildSlice ?_); refine m_buildSlice tbOk rfl rfl rfl rfl rfl (by omega) rfl rfl rfl ?_) | refine x_none rfl ?_ | with_reducible refine awp_seq ?_ | ((with_reducible refine w_region ?_ ?_); kernel_rfl))
      refine x_call (ss := [(refB + 0, 0)]) (next_A D.next 2 hD.next (by omega) (by omega)) (by repeat' (first | exact trivial | exact Ren.v _ | exact Ren.sl _ _ | exact Ren.ep _ | exact Ren.ptr _ _ _ _ rfl | exact Ren.nil _ | exact Ren.own _ _ _ _ ⟨_, rfl⟩ | refine ren_ag ?_ | refine ren_tu ?_ | refine ren_fn ?_ | refine ⟨?_, ?_⟩)) (by simp) (in1 rfl rfl) rfl (back1 rfl) (by repeat' (first | exact trivial | exact RenB.v _ | exact RenB.sl _ _ | exact RenB.ep _ | exact RenB.ptr _ _ _ _ rfl | refine renb_ag ?_ | refine renb_tu ?_ | refine ⟨?_, ?_⟩)) ?_
      repeat (first | ((with_reducible refine k_load ?_); refine x_load_ep_one tbOk rfl rfl rfl ?_) | ((with_reducible refine k_indexAddr ?_); refine x_indexAddr tbOk rfl rfl rfl rfl (by omega) (by assumption) ?_)  | refine x_none rfl ?_  )
      refine x_call0 (pers_A (pick2 nB1 nC1 (D.next.val 2))) (by repeat' (first | exact trivial | exact Ren.v _ | exact Ren.sl _ _ | exact Ren.ep _ | exact Ren.ptr _ _ _ _ rfl | exact Ren.nil _ | exact Ren.own _ _ _ _ ⟨_, rfl⟩ | refine ren_ag ?_ | refine ren_tu ?_ | refine ren_fn ?_ | refine ⟨?_, ?_⟩)) (by repeat' (first | exact trivial | exact RenB.v _ | exact RenB.sl _ _ | exact RenB.ep _ | exact RenB.ptr _ _ _ _ rfl | refine renb_ag ?_ | refine renb_tu ?_ | refine ⟨?_, ?_⟩)) ?_
      repeat (first | ((with_reducible refine k_store ?_); refine m_store tbOk rfl rfl rfl rfl rfl rfl rfl (Nat.le_of_ble_eq_true rfl) rfl ?_)  | refine e_nrm ?_ | refine x_none rfl ?_ | with_reducible refine q_then ?_ | with_reducible refine q_then_ret ?_ | with_reducible refine q_block_ret ?_ | with_reducible refine awp_ret ?_ )
      refine ret1_cell (by first | exact .inr rfl | exact .inl rfl) rfl rfl rfl rfl rfl rfl (by first | rfl | assumption) ?_ rfl ?_ rfl <;> rfl
    · have h' : ¬ D.val 4 = 1 := by simpa using h
      rw [if_neg h']
      repeat (first | ((with_reducible refine k_assign ?_); refine m_assign rfl ?_) | ((with_reducible refine k_bin ?_); refine m_binI rfl rfl rfl ?_)  | refine e_nrm ?_ | refine x_none rfl ?_ | with_reducible refine q_then ?_ | with_reducible refine awp_seq ?_ | ((with_reducible refine w_region ?_ ?_); kernel_rfl))
      refine w_cond rfl (fun h => ?_) (fun h => ?_)
      · have h' : D.val 4 = 2 := by simpa using h
        rw [if_pos h']
        repeat (first | ((with_reducible refine k_move ?_); refine m_move rfl ?_)  | refine x_none rfl ?_ | with_reducible refine awp_seq ?_ | ((with_reducible refine w_region ?_ ?_); kernel_rfl))
        refine x_call (ss := [(refB + 0, 0)]) (next_A D.next 3 hD.next (by omega) (by omega)) (by repeat' (first | exact trivial | exact Ren.v _ | exact Ren.sl _ _ | exact Ren.ep _ | exact Ren.ptr _ _ _ _ rfl | exact Ren.nil _ | exact Ren.own _ _ _ _ ⟨_, rfl⟩ | refine ren_ag ?_ | refine ren_tu ?_ | refine ren_fn ?_ | refine ⟨?_, ?_⟩)) (by simp) (in1 rfl rfl) rfl (back1 rfl) (by repeat' (first | exact trivial | exact RenB.v _ | exact RenB.sl _ _ | exact RenB.ep _ | exact RenB.ptr _ _ _ _ rfl | refine renb_ag ?_ | refine renb_tu ?_ | refine ⟨?_, ?_⟩)) ?_
        repeat (first | ((with_reducible refine k_bin ?_); refine x_add_in rfl rfl (by omega) ?_)  | refine x_none rfl ?_  )
        refine x_call0 (safe_A (1 + D.next.val 3)) (by repeat' (first | exact trivial | exact Ren.v _ | exact Ren.sl _ _ | exact Ren.ep _ | exact Ren.ptr _ _ _ _ rfl | exact Ren.nil _ | exact Ren.own _ _ _ _ ⟨_, rfl⟩ | refine ren_ag ?_ | refine ren_tu ?_ | refine ren_fn ?_ | refine ⟨?_, ?_⟩)) (by repeat' (first | exact trivial | exact RenB.v _ | exact RenB.sl _ _ | exact RenB.ep _ | exact RenB.ptr _ _ _ _ rfl | refine renb_ag ?_ | refine renb_tu ?_ | refine ⟨?_, ?_⟩)) ?_
        repeat (first | ((with_reducible refine k_store ?_); refine m_store tbOk rfl rfl rfl rfl rfl rfl rfl (Nat.le_of_ble_eq_true rfl) rfl ?_)  | refine e_nrm ?_ | refine x_none rfl ?_ | with_reducible refine q_then ?_ | with_reducible refine q_then_ret ?_ | with_reducible refine q_block_ret ?_ | with_reducible refine awp_ret ?_ )
        refine ret1_cell (by first | exact .inr rfl | exact .inl rfl) rfl rfl rfl rfl rfl rfl (by first | rfl | assumption) ?_ rfl ?_ rfl <;> rfl
      · have h' : ¬ D.val 4 = 2 := by simpa using h
        rw [if_neg h']
        repeat (first | ((with_reducible refine k_move ?_); refine m_move rfl ?_)  | refine x_none rfl ?_ | with_reducible refine q_then ?_ | with_reducible refine q_block ?_ | with_reducible refine awp_seq ?_ | with_reducible refine awp_skip ?_ | ((with_reducible refine w_region ?_ ?_); kernel_rfl))
        refine x_call (ss := [(refB + 0, 0)]) (next_A D.next 6 hD.next (by omega) (by omega)) (by repeat' (first | exact trivial | exact Ren.v _ | exact Ren.sl _ _ | exact Ren.ep _ | exact Ren.ptr _ _ _ _ rfl | exact Ren.nil _ | exact Ren.own _ _ _ _ ⟨_, rfl⟩ | refine ren_ag ?_ | refine ren_tu ?_ | refine ren_fn ?_ | refine ⟨?_, ?_⟩)) (by simp) (in1 rfl rfl) rfl (back1 rfl) (by repeat' (first | exact trivial | exact RenB.v _ | exact RenB.sl _ _ | exact RenB.ep _ | exact RenB.ptr _ _ _ _ rfl | refine renb_ag ?_ | refine renb_tu ?_ | refine ⟨?_, ?_⟩)) ?_
        repeat (first   | refine x_none rfl ?_  )
        refine x_call0 (device_A (D.next.val 6)) (by repeat' (first | exact trivial | exact Ren.v _ | exact Ren.sl _ _ | exact Ren.ep _ | exact Ren.ptr _ _ _ _ rfl | exact Ren.nil _ | exact Ren.own _ _ _ _ ⟨_, rfl⟩ | refine ren_ag ?_ | refine ren_tu ?_ | refine ren_fn ?_ | refine ⟨?_, ?_⟩)) (by repeat' (first | exact trivial | exact RenB.v _ | exact RenB.sl _ _ | exact RenB.ep _ | exact RenB.ptr _ _ _ _ rfl | refine renb_ag ?_ | refine renb_tu ?_ | refine ⟨?_, ?_⟩)) ?_
        repeat (first | ((with_reducible refine k_store ?_); refine m_store tbOk rfl rfl rfl rfl rfl rfl rfl (Nat.le_of_ble_eq_true rfl) rfl ?_)  | refine e_nrm ?_ | refine x_none rfl ?_ | with_reducible refine q_then ?_ | with_reducible refine awp_ret ?_ )
        refine ret1_cell (by first | exact .inr rfl | exact .inl rfl) rfl rfl rfl rfl rfl rfl (by first | rfl | assumption) ?_ rfl ?_ rfl <;> rfl
theorem ret1_1 {TB : Tabs} {σ : AS} {fn : Func} {r : AV} {e : Exit} {t1 k : Nat} {y : AV} {c c' : List AV} (he : e = .normal ∨ e = .ret) (hfn : fn.results = #[.tmp t1]) (h1 : vf (σ.T t1) = some y) (hr : Ren (bufs σ) (frameπ 1 []) r y) (hH : σ.H (refB + 0) = ⟨k, .box c'⟩) (hk : k = 0) (hc : RenL (bufs σ) (frameπ 1 []) c c') : RetQ TB fn 1 r [c] e σ := by
  refine ret1 he (xs := [σ.T t1]) ?_ (by rw [vf_eq h1]; exact hr) hH hk hc
  rw [hfn]
  exact ⟨.tmp t1, trivial⟩
def rowsK : Nat → Dk → Int → List Rw → Dk × List Rw
  | 0, D, n, L => (D, L)
  | m + 1, D, n, L => rowsK m (holD D.next) (n + (1 + D.val 9)) (L ++ [⟨n + (1 + D.val 9), holOf D.next⟩])
def NamesOk (L : List Rw) : Prop := ∀ r ∈ L, r.h.n.size ≤ 12
theorem rowsK_ok : ∀ (m : Nat) (D : Dk) (n : Int) (L : List Rw), DkOk D → NamesOk L → DkOk (rowsK m D n L).1 ∧ NamesOk (rowsK m D n L).2 ∧ (rowsK m D n L).2.length = L.length + m
  | 0, D, n, L, h, g => ⟨h, g, rfl⟩
  | m + 1, D, n, L, h, g => by
    obtain ⟨a, b, c⟩ := rowsK_ok m (holD D.next) (n + (1 + D.val 9)) (L ++ [⟨n + (1 + D.val 9), holOf D.next⟩]) (holD_ok h.next) (fun r hr => by
      rcases List.mem_append.1 hr with hr | hr
      · exact g r hr
      · obtain rfl := List.mem_singleton.1 hr
        exact holOf_name D.next)
    refine ⟨a, b, ?_⟩
    rw [rowsK, c]
    simp
    omega
def rows1 (D : Dk) : Dk × List Rw := rowsK (D.val 7).toNat D.next 0 []
def rows2 (E : Dk) : Rw := ⟨E.val 20, ⟨E.next.val 6, E.next.next.val 3, pick2 emptyS nB1 (E.next.next.next.val 2)⟩⟩
def rowsP (D : Dk) : Dk × List Rw := if (rows1 D).1.val 8 = 0 then ((rows1 D).1.next.next.next.next.next, (rows1 D).2 ++ [rows2 (rows1 D).1.next]) else ((rows1 D).1.next, (rows1 D).2)
theorem rowsP_ok {D : Dk} (h : DkOk D) : DkOk (rowsP D).1 ∧ NamesOk (rowsP D).2 ∧ (rowsP D).2.length ≤ 8 := by
  have r7 := D.val_range (n := 7) (by omega)
  have a7 := r7.2.1 (by omega)
  obtain ⟨a, b, c⟩ := rowsK_ok (D.val 7).toNat D.next 0 [] h.next (fun r hr => absurd hr List.not_mem_nil)
  simp only [List.length_nil, Nat.zero_add] at c
  unfold rowsP rows1
  split
  · refine ⟨a.next.next.next.next.next, fun r hr => ?_, ?_⟩
    · rcases List.mem_append.1 hr with hr | hr
      · exact b r hr
      · obtain rfl := List.mem_singleton.1 hr
        show (pick2 emptyS nB1 _).size ≤ 12
        rcases pick2_cases emptyS nB1 ((rowsK (D.val 7).toNat D.next 0 []).1.next.next.next.next.val 2) with e | e <;> rw [e] <;> decide
    · simp only [List.length_append, c, List.length_cons, List.length_nil]; omega
  · exact ⟨a.next, b, by rw [c]; omega⟩
set_option maxHeartbeats 2000000 in
theorem rows_A (D : Dk) (hD : DkOk D) : ACalls Tryd.prog G 52 [.ptr (refB + 0) 0 0] [D.cells] (.sl 4 ((rowsP D).2.map Rw.av)) [(rowsP D).1.cells] := by
  have r7 := D.val_range (n := 7) (by omega)
  have a7 := r7.2.1 (by omega)
  obtain ⟨m, hm⟩ := Int.eq_ofNat_of_zero_le r7.1
  have hn := next_A (G := G) D 7 hD (by omega) (by omega)
  rw [hm] at hn
  have e1 : rows1 D = rowsK m D.next 0 [] := by unfold rows1; rw [hm]; rfl
  unfold rowsP
  rw [e1]
  refine acalls_of tbOk (enter_of Tryd.func52 (by kernel_rfl) rfl) Tryd.func52 rfl _ Tryd.ntmps52 (Nat.le_of_ble_eq_true rfl) fun X hX => ?_
  subst hX
  repeat (first | ((with_reducible refine k_move ?_); refine m_move rfl ?_) | ((with_reducible refine k_assign ?_); refine m_assign rfl ?_)  | refine e_nrm ?_ | refine x_none rfl ?_ | with_reducible refine q_then ?_ | with_reducible refine awp_seq ?_ | ((with_reducible refine w_region ?_ ?_); kernel_rfl))
  refine x_call (ss := [(refB + 0, 0)]) (hn) (by repeat' (first | exact trivial | exact Ren.v _ | exact Ren.sl _ _ | exact Ren.ep _ | exact Ren.ptr _ _ _ _ rfl | exact Ren.nil _ | exact Ren.own _ _ _ _ ⟨_, rfl⟩ | refine ren_ag ?_ | refine ren_tu ?_ | refine ren_fn ?_ | refine ⟨?_, ?_⟩)) (by simp) (in1 rfl rfl) rfl (back1 rfl) (by repeat' (first | exact trivial | exact RenB.v _ | exact RenB.sl _ _ | exact RenB.ep _ | exact RenB.ptr _ _ _ _ rfl | refine renb_ag ?_ | refine renb_tu ?_ | refine ⟨?_, ?_⟩)) ?_
  repeat (first | ((with_reducible refine k_assign ?_); refine m_assign rfl ?_)  | refine e_nrm ?_ | refine x_none rfl ?_ | with_reducible refine q_then ?_ | with_reducible refine awp_block ?_ )
  refine awp_own (t := 3) (s := 23) 46 4 rfl rfl ?_
  refine awp_loopv (ι := Nat × Dk × Int × List Rw) (fun v i => v (refB + 0) = 0 ∧ DkOk i.2.1 ∧ i.1 < 7 ∧ (0 ≤ i.2.2.1 ∧ i.2.2.1 + 10 * i.1 ≤ 100) ∧ i.2.2.2.length + i.1 ≤ 7 ∧ rowsK i.1 i.2.1 i.2.2.1 i.2.2.2 = rowsK m D.next 0 []) (fun i => i.1) (fun v i => [(0, .ptr (refB + 0) (v (refB + 0)) 0), (3, .own 23 (v 23)), (4, .v (.int .i64 i.2.2.1)), (5, .v (.int .i64 (i.1 : Nat)))]) (fun v i => [(refB + 0, .box i.2.1.cells), (23, .buf 46 4 (i.2.2.2.map Rw.av))]) ?_ ?_
  · exact ⟨(m, D.next, 0, []), ⟨rfl, hD.next, by omega, by simp; omega, by simp; omega, rfl⟩, trivial, ⟨rfl, rfl, rfl, rfl, trivial⟩, ⟨rfl, rfl, trivial⟩⟩
  · rintro v ⟨j, E, n, L⟩ ⟨hv0, hE, hj, hn, hl, hf⟩
    simp only at hv0 hE hj hn hl hf
    dsimp only
    repeat (first | ((with_reducible refine k_move ?_); refine m_move rfl ?_) | ((with_reducible refine k_bin ?_); refine m_binI rfl rfl rfl ?_)  | refine e_nrm ?_ | refine x_none rfl ?_ | with_reducible refine q_then ?_ | with_reducible refine awp_seq ?_ | ((with_reducible refine w_region ?_ ?_); kernel_rfl))
    refine w_cond rfl (fun h => ?_) (fun h => ?_)
    · obtain ⟨j, rfl⟩ : ∃ i, j = i + 1 := ⟨j - 1, by simp at h; omega⟩
      have ej : ((j + 1 : Nat) : Int) - 1 = (j : Nat) := by omega
      have r9 := E.val_range (n := 9) (by omega)
      have a9 := r9.2.1 (by omega)
      repeat (first | ((with_reducible refine k_move ?_); refine m_move rfl ?_)  | refine x_none rfl ?_ | with_reducible refine q_then ?_ | with_reducible refine awp_seq ?_ | with_reducible refine awp_block ?_ | with_reducible refine awp_skip ?_ | ((with_reducible refine w_region ?_ ?_); kernel_rfl))
      refine x_call (ss := [(refB + 0, v (refB + 0))]) (next_A E 9 hE (by omega) (by omega)) (by repeat' (first | exact trivial | exact Ren.v _ | exact Ren.sl _ _ | exact Ren.ep _ | exact Ren.ptr _ _ _ _ rfl | exact Ren.nil _ | exact Ren.own _ _ _ _ ⟨_, rfl⟩ | refine ren_ag ?_ | refine ren_tu ?_ | refine ren_fn ?_ | refine ⟨?_, ?_⟩)) (by simp) (in1 rfl rfl) rfl (back1 rfl) (by repeat' (first | exact trivial | exact RenB.v _ | exact RenB.sl _ _ | exact RenB.ep _ | exact RenB.ptr _ _ _ _ rfl | refine renb_ag ?_ | refine renb_tu ?_ | refine ⟨?_, ?_⟩)) ?_
      repeat (first | ((with_reducible refine k_move ?_); refine m_move rfl ?_) | ((with_reducible refine k_assign ?_); refine m_assign rfl ?_) | ((with_reducible refine k_bin ?_); refine x_add_in rfl rfl (by omega) ?_)  | refine e_nrm ?_ | refine x_none rfl ?_ | with_reducible refine q_then ?_ | ((with_reducible refine w_region ?_ ?_); kernel_rfl))
      refine x_call (y := (holOf E.next).av) (ss := [(refB + 0, v (refB + 0))]) (holder_A E.next hE.next) (by repeat' (first | exact trivial | exact Ren.v _ | exact Ren.sl _ _ | exact Ren.ep _ | exact Ren.ptr _ _ _ _ rfl | exact Ren.nil _ | exact Ren.own _ _ _ _ ⟨_, rfl⟩ | refine ren_ag ?_ | refine ren_tu ?_ | refine ren_fn ?_ | refine ⟨?_, ?_⟩)) (by simp) (in1 rfl rfl) rfl (back1 rfl) (by repeat' (first | exact trivial | exact RenB.v _ | exact RenB.sl _ _ | exact RenB.ep _ | exact RenB.ptr _ _ _ _ rfl | refine renb_ag ?_ | refine renb_tu ?_ | refine ⟨?_, ?_⟩)) ?_
      repeat (first | ((with_reducible refine k_build ?_); refine m_build tbOk rfl rfl rfl rfl rfl ?_) | ((with_reducible refine k_buildSlice ?_); refine m_buildSlice tbOk rfl rfl rfl rfl rfl (by omega) rfl rfl rfl ?_) | refine x_none rfl ?_  )
      refine x_append_own tbOk rfl rfl rfl rfl rfl (by decide) rfl rfl rfl rfl rfl (fun x hx => by simp at hx; subst hx; rfl) (by simp only [List.length_map, List.length_cons, List.length_nil]; omega) (by simp only [List.length_map, List.length_cons, List.length_nil]; omega) ?_
      repeat (first | ((with_reducible refine k_move ?_); refine m_move rfl ?_) | ((with_reducible refine k_assign ?_); refine m_assign rfl ?_) | ((with_reducible refine k_bin ?_); refine x_sub_in rfl rfl (by omega) ?_)  | refine e_nrm ?_ | refine x_none rfl ?_ | with_reducible refine q_then ?_ | with_reducible refine q_block ?_ | ((with_reducible refine w_region ?_ ?_); kernel_rfl))
      refine ⟨(j, holD E.next, n + (1 + E.val 9), L ++ [(⟨n + (1 + E.val 9), holOf E.next⟩ : Rw)]), ⟨hv0, holD_ok hE.next, by show j < 7; omega, by show 0 ≤ n + (1 + E.val 9) ∧ n + (1 + E.val 9) + 10 * (j : Int) ≤ 100; omega, by simp; omega, hf⟩, by show j < j + 1; omega, ⟨rfl, ?_, ?_, congrArg (fun z => AV.v (.int .i64 z)) ej, trivial⟩, ⟨rfl, ?_, trivial⟩⟩
      · rfl
      · rfl
      · rw [List.map_append]; rfl
    · obtain rfl : j = 0 := by simp at h; omega
      have hf' : rowsK m D.next 0 [] = (E, L) := hf.symm
      rw [hf']
      repeat (first | ((with_reducible refine k_move ?_); refine m_move rfl ?_)  | refine x_none rfl ?_ | with_reducible refine q_then ?_ | with_reducible refine q_then_exit ?_ | with_reducible refine awp_seq ?_ | with_reducible refine awp_exit ?_ | ((with_reducible refine q_block_exit ?_ ?_); rfl) | ((with_reducible refine w_region ?_ ?_); kernel_rfl))
      refine x_call (ss := [(refB + 0, v (refB + 0))]) (one_A E 8 hE (by omega) (by omega)) (by repeat' (first | exact trivial | exact Ren.v _ | exact Ren.sl _ _ | exact Ren.ep _ | exact Ren.ptr _ _ _ _ rfl | exact Ren.nil _ | exact Ren.own _ _ _ _ ⟨_, rfl⟩ | refine ren_ag ?_ | refine ren_tu ?_ | refine ren_fn ?_ | refine ⟨?_, ?_⟩)) (by simp) (in1 rfl rfl) rfl (back1 rfl) (by repeat' (first | exact trivial | exact RenB.v _ | exact RenB.sl _ _ | exact RenB.ep _ | exact RenB.ptr _ _ _ _ rfl | refine renb_ag ?_ | refine renb_tu ?_ | refine ⟨?_, ?_⟩)) ?_
      repeat (first   | refine e_nrm ?_ | with_reducible refine q_then ?_ )
      refine w_cond rfl (fun h => ?_) (fun h => ?_)
      · have h' : E.val 8 = 0 := by simpa using h
        rw [if_pos h']
        have p2 := pick2_at emptyS nB1 (E.next.next.next.next.val_range (n := 2) (by omega)).1 ((E.next.next.next.next.val_range (n := 2) (by omega)).2.1 (by omega))
        repeat (first | ((with_reducible refine k_move ?_); refine m_move rfl ?_)  | refine x_none rfl ?_  | ((with_reducible refine w_region ?_ ?_); kernel_rfl))
        refine x_call (ss := [(refB + 0, v (refB + 0))]) (next_A E.next 20 hE.next (by omega) (by omega)) (by repeat' (first | exact trivial | exact Ren.v _ | exact Ren.sl _ _ | exact Ren.ep _ | exact Ren.ptr _ _ _ _ rfl | exact Ren.nil _ | exact Ren.own _ _ _ _ ⟨_, rfl⟩ | refine ren_ag ?_ | refine ren_tu ?_ | refine ren_fn ?_ | refine ⟨?_, ?_⟩)) (by simp) (in1 rfl rfl) rfl (back1 rfl) (by repeat' (first | exact trivial | exact RenB.v _ | exact RenB.sl _ _ | exact RenB.ep _ | exact RenB.ptr _ _ _ _ rfl | refine renb_ag ?_ | refine renb_tu ?_ | refine ⟨?_, ?_⟩)) ?_
        repeat (first | ((with_reducible refine k_move ?_); refine m_move rfl ?_)  | refine x_none rfl ?_  )
        refine x_call (ss := [(refB + 0, v (refB + 0))]) (next_A E.next.next 6 hE.next.next (by omega) (by omega)) (by repeat' (first | exact trivial | exact Ren.v _ | exact Ren.sl _ _ | exact Ren.ep _ | exact Ren.ptr _ _ _ _ rfl | exact Ren.nil _ | exact Ren.own _ _ _ _ ⟨_, rfl⟩ | refine ren_ag ?_ | refine ren_tu ?_ | refine ren_fn ?_ | refine ⟨?_, ?_⟩)) (by simp) (in1 rfl rfl) rfl (back1 rfl) (by repeat' (first | exact trivial | exact RenB.v _ | exact RenB.sl _ _ | exact RenB.ep _ | exact RenB.ptr _ _ _ _ rfl | refine renb_ag ?_ | refine renb_tu ?_ | refine ⟨?_, ?_⟩)) ?_
        repeat (first | ((with_reducible refine k_move ?_); refine m_move rfl ?_)  | refine x_none rfl ?_  )
        refine x_call (ss := [(refB + 0, v (refB + 0))]) (next_A E.next.next.next 3 hE.next.next.next (by omega) (by omega)) (by repeat' (first | exact trivial | exact Ren.v _ | exact Ren.sl _ _ | exact Ren.ep _ | exact Ren.ptr _ _ _ _ rfl | exact Ren.nil _ | exact Ren.own _ _ _ _ ⟨_, rfl⟩ | refine ren_ag ?_ | refine ren_tu ?_ | refine ren_fn ?_ | refine ⟨?_, ?_⟩)) (by simp) (in1 rfl rfl) rfl (back1 rfl) (by repeat' (first | exact trivial | exact RenB.v _ | exact RenB.sl _ _ | exact RenB.ep _ | exact RenB.ptr _ _ _ _ rfl | refine renb_ag ?_ | refine renb_tu ?_ | refine ⟨?_, ?_⟩)) ?_
        repeat (first | ((with_reducible refine k_move ?_); refine m_move rfl ?_) | ((with_reducible refine k_buildSlice ?_); refine m_buildSlice tbOk rfl rfl rfl rfl rfl (by omega) rfl rfl rfl ?_) | refine x_none rfl ?_  )
        refine x_call (ss := [(refB + 0, v (refB + 0))]) (next_A E.next.next.next.next 2 hE.next.next.next.next (by omega) (by omega)) (by repeat' (first | exact trivial | exact Ren.v _ | exact Ren.sl _ _ | exact Ren.ep _ | exact Ren.ptr _ _ _ _ rfl | exact Ren.nil _ | exact Ren.own _ _ _ _ ⟨_, rfl⟩ | refine ren_ag ?_ | refine ren_tu ?_ | refine ren_fn ?_ | refine ⟨?_, ?_⟩)) (by simp) (in1 rfl rfl) rfl (back1 rfl) (by repeat' (first | exact trivial | exact RenB.v _ | exact RenB.sl _ _ | exact RenB.ep _ | exact RenB.ptr _ _ _ _ rfl | refine renb_ag ?_ | refine renb_tu ?_ | refine ⟨?_, ?_⟩)) ?_
        have q2 := (E.next.next.next.next.val_range (n := 2) (by omega)).1
        repeat (first | ((with_reducible refine k_load ?_); refine x_load_ep_one tbOk rfl rfl rfl ?_) | ((with_reducible refine k_indexAddr ?_); refine x_indexAddr tbOk rfl rfl rfl rfl (by omega) (by assumption) ?_) | ((with_reducible refine k_build ?_); refine m_build tbOk rfl rfl rfl rfl rfl ?_) | ((with_reducible refine k_buildSlice ?_); refine m_buildSlice tbOk rfl rfl rfl rfl rfl (by omega) rfl rfl rfl ?_) | refine x_none rfl ?_  )
        refine x_append_own tbOk rfl rfl rfl rfl rfl (by decide) rfl rfl rfl rfl rfl (fun x hx => by simp at hx; subst hx; rfl) (by simp only [List.length_map, List.length_cons, List.length_nil]; omega) (by simp only [List.length_map, List.length_cons, List.length_nil]; omega) ?_
        repeat (first | ((with_reducible refine k_move ?_); refine m_move rfl ?_) | ((with_reducible refine k_assign ?_); refine m_assign rfl ?_)  | refine e_nrm ?_ | refine x_none rfl ?_ | with_reducible refine q_then ?_ | with_reducible refine awp_seq ?_ | with_reducible refine awp_ret ?_ | ((with_reducible refine w_region ?_ ?_); kernel_rfl))
        refine ret1_1 (by first | exact .inr rfl | exact .inl rfl) rfl rfl ?_ rfl hv0 (by repeat' (first | exact trivial | exact Ren.v _ | exact Ren.sl _ _ | exact Ren.ep _ | exact Ren.ptr _ _ _ _ rfl | exact Ren.nil _ | exact Ren.own _ _ _ _ ⟨_, rfl⟩ | refine ren_ag ?_ | refine ren_tu ?_ | refine ren_fn ?_ | refine ⟨?_, ?_⟩))
        rw [List.map_append]
        repeat' (first | exact trivial | exact Ren.v _ | exact Ren.sl _ _ | exact Ren.ep _ | exact Ren.ptr _ _ _ _ rfl | exact Ren.nil _ | exact Ren.own _ _ _ _ ⟨_, rfl⟩ | refine ren_ag ?_ | refine ren_tu ?_ | refine ren_fn ?_ | refine ⟨?_, ?_⟩)
      · have h' : ¬ E.val 8 = 0 := by simpa using h
        rw [if_neg h']
        repeat (first | ((with_reducible refine k_move ?_); refine m_move rfl ?_) | ((with_reducible refine k_assign ?_); refine m_assign rfl ?_)  | refine e_nrm ?_ | refine x_none rfl ?_ | with_reducible refine q_then ?_ | with_reducible refine awp_seq ?_ | with_reducible refine awp_skip ?_ | with_reducible refine awp_ret ?_ | ((with_reducible refine w_region ?_ ?_); kernel_rfl))
        refine ret1_1 (by first | exact .inr rfl | exact .inl rfl) rfl rfl ?_ rfl hv0 (by repeat' (first | exact trivial | exact Ren.v _ | exact Ren.sl _ _ | exact Ren.ep _ | exact Ren.ptr _ _ _ _ rfl | exact Ren.nil _ | exact Ren.own _ _ _ _ ⟨_, rfl⟩ | refine ren_ag ?_ | refine ren_tu ?_ | refine ren_fn ?_ | refine ⟨?_, ?_⟩))
        repeat' (first | exact trivial | exact Ren.v _ | exact Ren.sl _ _ | exact Ren.ep _ | exact Ren.ptr _ _ _ _ rfl | exact Ren.nil _ | exact Ren.own _ _ _ _ ⟨_, rfl⟩ | refine ren_ag ?_ | refine ren_tu ?_ | refine ren_fn ?_ | refine ⟨?_, ?_⟩)
end Go.Proofs.YtaoegbmgombhdaaDoor
