/- calendar.Minutes at few spans, equal spans, drawn spans, by the abstract machine; conditions: none. -/
import Derived.Test.YtdejgacclogaiaaDoorSnB
set_option linter.unusedVariables false
set_option linter.unusedSimpArgs false
namespace Go.Proofs.YtdejgacclogaiaaDoor
open Go Go.RowKit
set_option maxRecDepth 10000
variable {G : Nat → Option (List Value)}
def Spn.vals (s : Spn) : List Value := [.int .i64 s.from_, .int .i64 s.until_]
theorem held_Spn : Tryd.prog.stoodInHeld 48 = false := by kernel_rfl
theorem spnEq (a b : Spn) (w : World) (d : Nat) : (Op.equalIn (d + 2) 48 (.agg ⟨a.vals⟩) (.agg ⟨b.vals⟩)).run Tryd.prog w = .ok (decide (a = b)) w := by
  obtain ⟨k, i⟩ := a
  obtain ⟨k', i'⟩ := b
  rw [run_equalIn_struct w (d + 1) 48 _ _ (by kernel_rfl) held_Spn]
  simp only [Spn.mk.injEq]
  by_cases h1 : k = k' <;> by_cases h2 : i = i' <;> simp [Spn.vals, Program.fieldsOf, Tryd.underlying48, Op.eqFields, go_sem, Tryd.underlying3, h1, h2]
theorem spnEql (x y : Operand) (a b : Spn) (w : World) : (do eqGuard .eql 48 x y (.agg ⟨a.vals⟩) (.agg ⟨b.vals⟩); binOp .eql 48 (.agg ⟨a.vals⟩) (.agg ⟨b.vals⟩) : Sem Value).run Tryd.prog w = .ok (.bool (decide (a = b))) w := by
  have hg : (eqGuard .eql 48 x y (.agg ⟨a.vals⟩) (.agg ⟨b.vals⟩)).run Tryd.prog w = .ok () w := by
    unfold eqGuard
    simp [show Tryd.prog.eqGuardType Tryd.prog.depth 48 = false by kernel_rfl]
  rw [Sem.run_bind, hg]
  simp only [Result.andThen_ok, binOp]
  simp [Op.equal, Op.maxDepth, spnEq a b w 9998]
theorem spnNeq (x y : Operand) (a b : Spn) (w : World) : (do eqGuard .neq 48 x y (.agg ⟨a.vals⟩) (.agg ⟨b.vals⟩); binOp .neq 48 (.agg ⟨a.vals⟩) (.agg ⟨b.vals⟩) : Sem Value).run Tryd.prog w = .ok (.bool (!decide (a = b))) w := by
  have hg : (eqGuard .neq 48 x y (.agg ⟨a.vals⟩) (.agg ⟨b.vals⟩)).run Tryd.prog w = .ok () w := by
    unfold eqGuard
    simp [show Tryd.prog.eqGuardType Tryd.prog.depth 48 = false by kernel_rfl]
  rw [Sem.run_bind, hg]
  simp only [Result.andThen_ok, binOp]
  simp [Op.equal, Op.maxDepth, spnEq a b w 9998]
theorem same_A (L : List Spn) (hm : L.length ≤ 1000) : ACalls Tryd.prog G 27 [.sl 2 (L.map Spn.av), .sl 2 (L.map Spn.av)] [] (.v (.bool true)) [] := by
  have q : (((L.map Spn.av).length : Int) != ((L.map Spn.av).length : Int)) = false := by simp
  refine acalls_of tbOk (enter_of Tryd.func27 (by kernel_rfl) rfl) Tryd.func27 rfl _ Tryd.ntmps27 (Nat.le_of_ble_eq_true rfl) fun X hX => ?_
  subst hX
  repeat (first | ((with_reducible refine k_move ?_); refine m_move rfl ?_) | ((with_reducible refine k_assign ?_); refine m_assign rfl ?_) | ((with_reducible refine k_call ?_); refine x_len tbOk rfl rfl ?_) | ((with_reducible refine k_bin ?_); refine m_binI rfl rfl rfl ?_)  | refine e_nrm ?_ | refine x_none rfl ?_ | with_reducible refine q_then ?_ | with_reducible refine awp_seq ?_ | with_reducible refine awp_block ?_ | with_reducible refine awp_skip ?_ | ((with_reducible refine w_region ?_ ?_); kernel_rfl) | refine w_cond_f rfl (by first | rfl | assumption) ?_)
  refine awp_loop (ι := Nat) (fun j => j ≤ L.length) (fun j => L.length - j) (fun v j => [(0, .sl 2 (L.map Spn.av)), (1, .sl 2 (L.map Spn.av)), (12, .v (.int .i64 L.length)), (13, .v (.int .i64 j))]) (fun v j => []) ?_ ?_
  · refine ⟨0, Nat.zero_le _, trivial, ⟨rfl, rfl, ?_, rfl, trivial⟩, trivial⟩
    exact congrArg (fun k : Nat => AV.v (.int .i64 k)) (List.length_map ..)
  rintro v j hj
  repeat (first | ((with_reducible refine k_bin ?_); refine m_binI rfl rfl rfl ?_)  | refine e_nrm ?_ | refine x_none rfl ?_ | with_reducible refine q_then ?_ | with_reducible refine awp_seq ?_ | ((with_reducible refine w_region ?_ ?_); kernel_rfl))
  refine w_cond rfl (fun h => ?_) (fun h => ?_)
  · have hlt : j < L.length := by simpa using h
    obtain ⟨x, hx⟩ := some_at hlt
    have hy := spn_at hx
    have q2 : (!decide (x = x)) = false := by simp
    repeat (first | ((with_reducible refine k_move ?_); refine m_move rfl ?_) | ((with_reducible refine k_assign ?_); refine m_assign rfl ?_) | ((with_reducible refine k_load ?_); refine x_load_ep_agg tbOk rfl rfl (Nat.le_of_ble_eq_true rfl) ?_) | ((with_reducible refine k_indexAddr ?_); refine x_indexAddr_n tbOk rfl rfl rfl rfl (by assumption) ?_)  | refine e_nrm ?_ | refine x_none rfl ?_ | with_reducible refine q_then ?_ | with_reducible refine awp_seq ?_ | with_reducible refine awp_block ?_ | with_reducible refine awp_skip ?_ | ((with_reducible refine w_region ?_ ?_); kernel_rfl) | ((with_reducible refine w_draw mixd ?_ ?_); kernel_rfl))
    with_reducible refine k_bin ?_
    refine x_bin_ag rfl rfl (rfl : concL _ = some x.vals) (rfl : concL _ = some x.vals) (fun w => spnNeq _ _ _ _ w) ?_
    repeat (first | ((with_reducible refine k_move ?_); refine m_move rfl ?_) | ((with_reducible refine k_bin ?_); refine x_add_in rfl rfl (by omega) ?_)  | refine e_nrm ?_ | refine e_drw (by kernel_rfl) ?_ | refine x_none rfl ?_ | with_reducible refine q_then ?_ | with_reducible refine q_block ?_ | with_reducible refine awp_skip ?_ | ((with_reducible refine w_region ?_ ?_); kernel_rfl) | refine w_cond_f rfl (by first | rfl | assumption) ?_)
    exact ⟨j + 1, by show j + 1 ≤ L.length; omega, by show L.length - (j + 1) < L.length - j; omega, ⟨rfl, rfl, rfl, rfl, trivial⟩, trivial⟩
  · repeat (first | ((with_reducible refine k_assign ?_); refine m_assign rfl ?_)  | refine e_nrm ?_ | refine x_none rfl ?_ | with_reducible refine q_then ?_ | with_reducible refine q_then_exit ?_ | with_reducible refine awp_seq ?_ | with_reducible refine awp_exit ?_ | with_reducible refine awp_ret ?_ | ((with_reducible refine q_block_exit ?_ ?_); rfl) | ((with_reducible refine w_region ?_ ?_); kernel_rfl))
    refine ret_v (by first | exact .inr rfl | exact .inl rfl) rfl rfl ?_
    rfl
set_option maxHeartbeats 1000000 in
theorem minutes_A (L : List Spn) (hm : L.length ≤ 12) : ACalls Tryd.prog G 26 [.sl 2 (L.map Spn.av)] [] (.tu [.v (.int .i64 (lenS (unionP L).1)), .v (.int .i64 (unionP L).2)]) [] := by
  have hv := union_valid L
  have hul := union_len L
  refine acalls_of tbOk (enter_of Tryd.func26 (by kernel_rfl) rfl) Tryd.func26 rfl _ Tryd.ntmps26 (Nat.le_of_ble_eq_true rfl) fun X hX => ?_
  subst hX
  repeat (first | ((with_reducible refine k_move ?_); refine m_move rfl ?_) | ((with_reducible refine k_assign ?_); refine m_assign rfl ?_)  | refine e_nrm ?_ | refine x_none rfl ?_ | with_reducible refine q_then ?_ | with_reducible refine awp_seq ?_ | ((with_reducible refine w_region ?_ ?_); kernel_rfl))
  refine x_call0 (union_A L hm) (by repeat' (first | exact trivial | exact Ren.v _ | exact Ren.sl _ _ | exact Ren.ep _ | exact Ren.ptr _ _ _ _ rfl | exact Ren.bs _ _ _ _ _ rfl | exact Ren.nil _ | exact Ren.own _ _ _ _ ⟨_, rfl⟩ | refine ren_ag ?_ | refine ren_tu ?_ | refine ren_fn ?_ | refine ⟨?_, ?_⟩)) (by repeat' (first | exact trivial | exact RenB.v _ | exact RenB.sl _ _ | exact RenB.ep _ | exact RenB.ptr _ _ _ _ rfl | refine renb_ag ?_ | refine renb_tu ?_ | refine ⟨?_, ?_⟩)) ?_
  repeat (first | ((with_reducible refine k_move ?_); refine m_move rfl ?_) | ((with_reducible refine k_assign ?_); refine m_assign rfl ?_) | ((with_reducible refine k_extract ?_); refine x_extract rfl rfl ?_) | ((with_reducible refine k_call ?_); refine x_len tbOk rfl rfl ?_)  | refine e_nrm ?_ | refine x_none rfl ?_ | with_reducible refine q_then ?_ | with_reducible refine awp_seq ?_ | with_reducible refine awp_block ?_ | ((with_reducible refine w_region ?_ ?_); kernel_rfl))
  refine awp_loop (ι := Nat) (fun j => j ≤ (unionP L).1.length) (fun j => (unionP L).1.length - j) (fun v j => [(5, .v (.int .i64 (unionP L).2)), (6, .v (.int .i64 (lenS ((unionP L).1.take j)))), (14, .sl 2 ((unionP L).1.map Spn.av)), (15, .v (.int .i64 (unionP L).1.length)), (16, .v (.int .i64 j))]) (fun v j => []) ?_ ?_
  · refine ⟨0, Nat.zero_le _, trivial, ⟨rfl, rfl, rfl, ?_, rfl, trivial⟩, trivial⟩
    exact congrArg (fun k : Nat => AV.v (.int .i64 k)) (List.length_map ..)
  rintro v j hj
  repeat (first | ((with_reducible refine k_bin ?_); refine m_binI rfl rfl rfl ?_)  | refine e_nrm ?_ | refine x_none rfl ?_ | with_reducible refine q_then ?_ | with_reducible refine awp_seq ?_ | ((with_reducible refine w_region ?_ ?_); kernel_rfl))
  refine w_cond rfl (fun h => ?_) (fun h => ?_)
  · have hlt : j < (unionP L).1.length := by simpa using h
    obtain ⟨x, hx⟩ := some_at hlt
    have hy := spn_at hx
    have hxv := validB_iff.1 (hv x (List.mem_of_getElem? hx))
    have ht := lenS_take hv j
    repeat (first | ((with_reducible refine k_move ?_); refine m_move rfl ?_) | ((with_reducible refine k_assign ?_); refine m_assign rfl ?_) | ((with_reducible refine k_fieldAddr ?_); refine x_fieldAddr_ptr tbOk rfl rfl rfl rfl ?_) | ((with_reducible refine k_load ?_); refine x_load_one tbOk rfl rfl rfl rfl rfl ?_) | ((with_reducible refine k_load ?_); refine x_load_ep_agg tbOk rfl rfl (Nat.le_of_ble_eq_true rfl) ?_) | ((with_reducible refine k_store ?_); refine m_store tbOk rfl rfl rfl rfl rfl rfl rfl (Nat.le_of_ble_eq_true rfl) rfl ?_) | ((with_reducible refine k_alloc ?_); refine x_alloc tbOk rfl rfl ?_) | ((with_reducible refine k_indexAddr ?_); refine x_indexAddr_n tbOk rfl rfl rfl rfl (by assumption) ?_) | ((with_reducible refine k_bin ?_); refine x_add_in rfl rfl (by omega) ?_) | ((with_reducible refine k_bin ?_); refine x_sub_in rfl rfl (by omega) ?_)  | refine e_nrm ?_ | refine x_none rfl ?_ | with_reducible refine q_then ?_ | with_reducible refine q_block ?_ | with_reducible refine awp_seq ?_ | with_reducible refine awp_block ?_ | with_reducible refine awp_skip ?_ | ((with_reducible refine w_region ?_ ?_); kernel_rfl))
    refine ⟨j + 1, by show j + 1 ≤ (unionP L).1.length; omega, by show (unionP L).1.length - (j + 1) < (unionP L).1.length - j; omega, ⟨rfl, ?_, rfl, rfl, rfl, trivial⟩, trivial⟩
    exact congrArg (fun k : Int => AV.v (.int .i64 k)) (lenS_next hx).symm
  · have hje : j = (unionP L).1.length := by have : ¬ j < (unionP L).1.length := by simpa using h
                                             omega
    subst hje
    have ht : lenS ((unionP L).1.take (unionP L).1.length) = lenS (unionP L).1 := by rw [List.take_length]
    repeat (first | ((with_reducible refine k_move ?_); refine m_move rfl ?_) | ((with_reducible refine k_assign ?_); refine m_assign rfl ?_)  | refine e_nrm ?_ | refine x_none rfl ?_ | with_reducible refine q_then ?_ | with_reducible refine q_then_exit ?_ | with_reducible refine awp_seq ?_ | with_reducible refine awp_exit ?_ | with_reducible refine awp_ret ?_ | ((with_reducible refine q_block_exit ?_ ?_); rfl) | ((with_reducible refine w_region ?_ ?_); kernel_rfl))
    refine ret0_2 (by first | exact .inr rfl | exact .inl rfl) rfl rfl rfl ?_
    rw [ht]
    repeat' (first | exact trivial | exact Ren.v _ | exact Ren.sl _ _ | exact Ren.ep _ | exact Ren.ptr _ _ _ _ rfl | exact Ren.bs _ _ _ _ _ rfl | exact Ren.nil _ | exact Ren.own _ _ _ _ ⟨_, rfl⟩ | refine ren_ag ?_ | refine ren_tu ?_ | refine ren_fn ?_ | refine ⟨?_, ?_⟩)
/-- A span that a deck gives. -/
def spanP (D : Dk) (n : Int) : Spn := ⟨D.val n, D.val n + 1 + D.next.val (n / 2 + 1)⟩
theorem spanP_rng (D : Dk) {n : Int} (h1 : 1 ≤ n) (h2 : n ≤ 1000) : 0 ≤ (spanP D n).from_ ∧ (spanP D n).from_ < n ∧ (spanP D n).from_ < (spanP D n).until_ ∧ (spanP D n).until_ ≤ n + n / 2 + 1 := by
  have a := D.val_range (n := n) (by omega)
  have b := D.next.val_range (n := n / 2 + 1) (by omega)
  have a2 := a.2.1 h1
  have b2 := b.2.1 (by omega)
  unfold spanP
  simp only
  omega
theorem span_A (D : Dk) (n : Int) (hD : DkOk D) (h1 : 1 ≤ n) (h2 : n ≤ 1000) : ACalls Tryd.prog G 24 [.ptr (refB + 0) 0 0, .v (.int .i64 n)] [D.cells] (spanP D n).av [D.next.next.cells] := by
  have a := D.val_range (n := n) (by omega)
  have b := D.next.val_range (n := n / 2 + 1) (by omega)
  have a2 := a.2.1 h1
  have b2 := b.2.1 (by omega)
  have e3 : IntKind.i64.wrap (IntKind.i64.wrap (n.tdiv 2) + 1) = n / 2 + 1 := by
    have i : IntKind.i64.wrap (n / 2) = n / 2 := wrap_i64_in (by omega)
    rw [Int.tdiv_eq_ediv_of_nonneg (by omega), i, wrap_i64_in (by omega)]
  refine acalls_of tbOk (enter_of Tryd.func24 (by kernel_rfl) rfl) Tryd.func24 rfl _ Tryd.ntmps24 (Nat.le_of_ble_eq_true rfl) fun X hX => ?_
  subst hX
  repeat (first | ((with_reducible refine k_move ?_); refine m_move rfl ?_) | ((with_reducible refine k_alloc ?_); refine x_alloc tbOk rfl rfl ?_)  | refine e_nrm ?_ | refine x_none rfl ?_ | with_reducible refine q_then ?_ | with_reducible refine awp_seq ?_ | ((with_reducible refine w_region ?_ ?_); kernel_rfl))
  refine x_call (ss := [(refB + 0, 0)]) (next_A D n hD (by omega) (by omega)) (by repeat' (first | exact trivial | exact Ren.v _ | exact Ren.sl _ _ | exact Ren.ep _ | exact Ren.ptr _ _ _ _ rfl | exact Ren.bs _ _ _ _ _ rfl | exact Ren.nil _ | exact Ren.own _ _ _ _ ⟨_, rfl⟩ | refine ren_ag ?_ | refine ren_tu ?_ | refine ren_fn ?_ | refine ⟨?_, ?_⟩)) (by simp) (in1 rfl rfl) rfl (back1 rfl) (by repeat' (first | exact trivial | exact RenB.v _ | exact RenB.sl _ _ | exact RenB.ep _ | exact RenB.ptr _ _ _ _ rfl | refine renb_ag ?_ | refine renb_tu ?_ | refine ⟨?_, ?_⟩)) ?_
  repeat (first | ((with_reducible refine k_move ?_); refine m_move rfl ?_) | ((with_reducible refine k_assign ?_); refine m_assign rfl ?_) | ((with_reducible refine k_bin ?_); refine x_add_in rfl rfl (by omega) ?_) | ((with_reducible refine k_bin ?_); refine m_binI rfl rfl rfl ?_) | ((with_reducible refine k_bin ?_); refine x_quo rfl rfl (by first | decide | assumption | omega) ?_)  | refine e_nrm ?_ | refine x_none rfl ?_ | with_reducible refine q_then ?_ | with_reducible refine awp_seq ?_ | ((with_reducible refine w_region ?_ ?_); kernel_rfl))
  rw [e3]
  repeat (first | fail    )
  refine x_call (ss := [(refB + 0, 0)]) (next_A D.next (n / 2 + 1) hD.next (by omega) (by omega)) (by repeat' (first | exact trivial | exact Ren.v _ | exact Ren.sl _ _ | exact Ren.ep _ | exact Ren.ptr _ _ _ _ rfl | exact Ren.bs _ _ _ _ _ rfl | exact Ren.nil _ | exact Ren.own _ _ _ _ ⟨_, rfl⟩ | refine ren_ag ?_ | refine ren_tu ?_ | refine ren_fn ?_ | refine ⟨?_, ?_⟩)) (by simp) (in1 rfl rfl) rfl (back1 rfl) (by repeat' (first | exact trivial | exact RenB.v _ | exact RenB.sl _ _ | exact RenB.ep _ | exact RenB.ptr _ _ _ _ rfl | refine renb_ag ?_ | refine renb_tu ?_ | refine ⟨?_, ?_⟩)) ?_
  repeat (first | ((with_reducible refine k_store ?_); refine m_store tbOk rfl rfl rfl rfl rfl rfl rfl (Nat.le_of_ble_eq_true rfl) rfl ?_) | ((with_reducible refine k_build ?_); refine m_build tbOk rfl rfl rfl rfl rfl ?_) | ((with_reducible refine k_bin ?_); refine x_add_in rfl rfl (by omega) ?_)  | refine e_nrm ?_ | refine x_none rfl ?_ | with_reducible refine q_then ?_ | with_reducible refine awp_ret ?_ )
  refine ret1_cell (by first | exact .inr rfl | exact .inl rfl) rfl rfl rfl rfl rfl rfl (by first | rfl | assumption) ?_ rfl ?_ rfl
  · rfl
  · rfl
end Go.Proofs.YtdejgacclogaiaaDoor
