/- keys.Held, and maps whose keys are holders, by the abstract machine; conditions: the table of classes stands. -/
import Derived.Test.YtbacidnhjmdnlaaDoorAbsK
import Derived.Test.YtbacidnhjmdnlaaDoorKyF
import Derived.Test.YtbacidnhjmdnlaaDoorOcP
set_option linter.unusedVariables false
set_option linter.unusedSimpArgs false
namespace Go.Proofs.YtbacidnhjmdnlaaDoor
open Go Go.RowKit
set_option maxRecDepth 10000
variable {G : Nat → Option (List Value)}
theorem holEql (x y : Operand) (a b : Hol) (w : World) : (do eqGuard .eql 30 x y (.agg ⟨a.vals⟩) (.agg ⟨b.vals⟩); binOp .eql 30 (.agg ⟨a.vals⟩) (.agg ⟨b.vals⟩) : Sem Value).run Tryd.prog w = .ok (.bool (decide (a = b))) w := by
  have hg : (eqGuard .eql 30 x y (.agg ⟨a.vals⟩) (.agg ⟨b.vals⟩)).run Tryd.prog w = .ok () w := by
    unfold eqGuard
    simp [show Tryd.prog.eqGuardType Tryd.prog.depth 30 = false by kernel_rfl]
  rw [Sem.run_bind, hg]
  simp only [Result.andThen_ok, binOp]
  simp [Op.equal, Op.maxDepth, holEq a b w 9998]
def mH (S : List Hol) : List (Value × Value) := S.map fun h => (hv h, .bool true)
theorem chkH (h : Hol) (b : Bool) (w : World) : (Instr.checkKey b 10000 30 (hv h)).run Tryd.prog w = .ok () w := by
  obtain ⟨k, i, n⟩ := h
  kernel_rfl
theorem askH (h : Hol) (w : World) : ∀ (S : List Hol) (es : List MapEntry) (i : Nat), es.map (fun e => (e.key, e.val)) = mH S → ∃ q, (Instr.findAsking 30 (hv h) es i).run Tryd.prog w = .ok q w ∧ q.map (·.2) = if h ∈ S then some (.bool true) else none
  | [], [], i, _ => ⟨none, rfl, rfl⟩
  | [], e :: es, i, he => by simp [mH] at he
  | x :: S, [], i, he => by simp [mH] at he
  | x :: S, e :: es, i, he => by
    simp only [mH, List.map_cons, List.cons.injEq, Prod.mk.injEq] at he
    obtain ⟨⟨h1, h2⟩, h3⟩ := he
    obtain ⟨q, q1, q2⟩ := askH h w S es (i + 1) h3
    have hq : (Op.equal 30 (hv h) e.key).run Tryd.prog w = .ok (decide (h = x)) w := by
      rw [h1]
      unfold hv
      simp [Op.equal, Op.maxDepth, holEq h x w 9998]
    unfold Instr.findAsking
    rw [Sem.run_bind, hq]
    simp only [Result.andThen_ok]
    by_cases hx : h = x
    · subst hx
      exact ⟨some (i, e.val), by simp, by simp [h2]⟩
    · refine ⟨q, by simpa [hx] using q1, ?_⟩
      rw [q2]
      simp [hx]
theorem findH (S : List Hol) (h : Hol) : FindK Tryd.prog 30 (hv h) (mH S) (if h ∈ S then some (.bool true) else none) := fun es w he => by
  obtain ⟨q, q1, q2⟩ := askH h w S es 0 he
  refine ⟨q, ?_, q2⟩
  unfold Instr.findKey
  rw [Sem.run_bind, run_underlying Tryd.underlying30]
  simp only [Result.andThen_ok]
  cases es with
  | nil => exact q1
  | cons e es => exact q1
theorem heldP_next {R : List Rw} {k : Nat} {r : Rw} (hr : R[k]? = some r) (h : Hol) : heldP (R.take (k + 1)) h = heldP (R.take k) h ++ if r.h = h then [r.num] else [] := by
  rw [take_at hr]
  unfold heldP
  rw [List.filter_append, List.map_append]
  congr 1
  by_cases hh : r.h = h
  · rw [if_pos hh, List.filter_cons_of_pos (by simpa using hh)]; rfl
  · rw [if_neg hh, List.filter_cons_of_neg (by simpa using hh)]; rfl
theorem heldP_len (R : List Rw) (h : Hol) : (heldP R h).length ≤ R.length := by
  unfold heldP
  rw [List.length_map]
  exact List.length_filter_le _ _
set_option maxHeartbeats 1000000 in
/-- Of rows that are valid. -/
theorem held_A (R : List Rw) (h : Hol) (hc : chk R = 0) (hG : GCls G) (hs : ∀ r ∈ R, r.h.n.size ≤ maxLen) : ACalls Tryd.prog G 31 [.sl 4 (R.map Rw.av), h.av] [] (.sl 1 ((heldP R h).map iv)) [] := by
  have h128 := ((chk_iff R).1 hc).1
  have hm : R.length ≤ maxLen := by unfold maxLen; omega
  have hk := kcheck_A (G := G) R hG hs hm
  rw [hc] at hk
  refine acalls_of tbOk (enter_of Tryd.func31 (by kernel_rfl) rfl) Tryd.func31 rfl _ Tryd.ntmps31 (Nat.le_of_ble_eq_true rfl) fun X hX => ?_
  subst hX
  repeat (first | ((with_reducible refine k_move ?_); refine m_move rfl ?_) | ((with_reducible refine k_assign ?_); refine m_assign rfl ?_) | ((with_reducible refine k_box ?_); refine m_box rfl rfl rfl ?_)  | refine e_nrm ?_ | refine x_none rfl ?_ | with_reducible refine q_then ?_ | with_reducible refine awp_seq ?_ | ((with_reducible refine w_region ?_ ?_); kernel_rfl))
  refine x_call0 (hk) (by repeat' (first | exact trivial | exact Ren.v _ | exact Ren.sl _ _ | exact Ren.ep _ | exact Ren.ptr _ _ _ _ rfl | exact Ren.nil _ | exact Ren.own _ _ _ _ ⟨_, rfl⟩ | refine ren_ag ?_ | refine ren_tu ?_ | refine ren_fn ?_ | refine ⟨?_, ?_⟩)) (by repeat' (first | exact trivial | exact RenB.v _ | exact RenB.sl _ _ | exact RenB.ep _ | exact RenB.ptr _ _ _ _ rfl | refine renb_ag ?_ | refine renb_tu ?_ | refine ⟨?_, ?_⟩)) ?_
  repeat (first | ((with_reducible refine k_move ?_); refine m_move rfl ?_) | ((with_reducible refine k_assign ?_); refine m_assign rfl ?_) | ((with_reducible refine k_call ?_); refine x_len tbOk rfl rfl ?_) | ((with_reducible refine k_bin ?_); refine m_binI rfl rfl rfl ?_)  | refine e_nrm ?_ | refine x_none rfl ?_ | with_reducible refine q_then ?_ | with_reducible refine awp_seq ?_ | with_reducible refine awp_block ?_ | with_reducible refine awp_skip ?_ | ((with_reducible refine w_region ?_ ?_); kernel_rfl) | refine w_cond_f rfl (by first | rfl | assumption) ?_)
  refine awp_own (t := 5) (s := 25) 3 1 rfl rfl ?_
  refine awp_loop (ι := Nat) (fun k => k ≤ R.length) (fun k => R.length - k) (fun v k => [(3, .ptr 3 (v 3) 0), (5, .own 25 (v 25)), (11, .sl 4 (R.map Rw.av)), (12, .v (.int .i64 (R.map Rw.av).length)), (13, .v (.int .i64 k))]) (fun v k => [(3, .box h.av.cells), (25, .buf 3 1 ((heldP (R.take k) h).map iv))]) ?_ ?_
  · exact ⟨0, Nat.zero_le _, trivial, ⟨rfl, rfl, rfl, rfl, rfl, trivial⟩, ⟨rfl, rfl, trivial⟩⟩
  · rintro v k hk
    repeat (first | ((with_reducible refine k_bin ?_); refine m_binI rfl rfl rfl ?_)  | refine e_nrm ?_ | refine x_none rfl ?_ | with_reducible refine q_then ?_ | with_reducible refine awp_seq ?_ | ((with_reducible refine w_region ?_ ?_); kernel_rfl))
    refine w_cond rfl (fun c => ?_) (fun c => ?_)
    · have hlt : k < R.length := by simpa using c
      obtain ⟨r, hr⟩ := some_at hlt
      have hry : (R.map Rw.av)[k]? = some r.av := by rw [List.getElem?_map, hr]; rfl
      have hn := heldP_next hr h
      have hle := heldP_len (R.take k) h
      rw [List.length_take] at hle
      repeat (first | ((with_reducible refine k_fieldAddr ?_); refine x_fieldAddr_ptr tbOk rfl rfl rfl rfl ?_) | ((with_reducible refine k_load ?_); refine x_load_agg tbOk rfl rfl rfl rfl (Nat.le_of_ble_eq_true rfl) ?_) | ((with_reducible refine k_load ?_); refine x_load_ep_agg tbOk rfl rfl (Nat.le_of_ble_eq_true rfl) ?_) | ((with_reducible refine k_store ?_); refine m_store tbOk rfl rfl rfl rfl rfl rfl rfl (Nat.le_of_ble_eq_true rfl) rfl ?_) | ((with_reducible refine k_alloc ?_); refine x_alloc tbOk rfl rfl ?_) | ((with_reducible refine k_indexAddr ?_); refine x_indexAddr_n tbOk rfl rfl rfl rfl (by assumption) ?_)  | refine e_nrm ?_ | refine x_none rfl ?_ | with_reducible refine q_then ?_ | with_reducible refine awp_seq ?_ | with_reducible refine awp_block ?_ | with_reducible refine awp_skip ?_ | ((with_reducible refine w_region ?_ ?_); kernel_rfl))
      refine x_bin_ag rfl rfl (rfl : concL _ = some r.h.vals) (rfl : concL _ = some h.vals) (fun w => holEql _ _ r.h h w) ?_
      repeat (first   | refine e_nrm ?_ | with_reducible refine q_then ?_ )
      refine w_cond rfl (fun c => ?_) (fun c => ?_)
      · rw [if_pos (by simpa using c)] at hn
        repeat (first | ((with_reducible refine k_move ?_); refine m_move rfl ?_) | ((with_reducible refine k_fieldAddr ?_); refine x_fieldAddr_ptr tbOk rfl rfl rfl rfl ?_) | ((with_reducible refine k_load ?_); refine x_load_one tbOk rfl rfl rfl rfl rfl ?_) | ((with_reducible refine k_buildSlice ?_); refine m_buildSlice tbOk rfl rfl rfl rfl rfl (by omega) rfl rfl rfl ?_) | refine x_none rfl ?_  | ((with_reducible refine w_region ?_ ?_); kernel_rfl))
        refine x_append_own tbOk rfl rfl rfl rfl rfl (by decide) rfl rfl rfl rfl rfl (fun x hx => by simp at hx; subst hx; rfl) (by simp only [List.length_map, List.length_cons, List.length_nil]; omega) (by simp only [List.length_map, List.length_cons, List.length_nil]; omega) ?_
        repeat (first | ((with_reducible refine k_move ?_); refine m_move rfl ?_) | ((with_reducible refine k_assign ?_); refine m_assign rfl ?_) | ((with_reducible refine k_bin ?_); refine x_add_in rfl rfl (by omega) ?_)  | refine e_nrm ?_ | refine x_none rfl ?_ | with_reducible refine q_then ?_ | with_reducible refine q_block ?_ | ((with_reducible refine w_region ?_ ?_); kernel_rfl))
        refine ⟨k + 1, by omega, by omega, ⟨rfl, rfl, rfl, rfl, rfl, trivial⟩, ⟨rfl, ?_, trivial⟩⟩
        exact hc_buf (by rw [hn, List.map_append]; rfl)
      · rw [if_neg (by simpa using c), List.append_nil] at hn
        repeat (first | ((with_reducible refine k_move ?_); refine m_move rfl ?_) | ((with_reducible refine k_bin ?_); refine x_add_in rfl rfl (by omega) ?_)  | refine e_nrm ?_ | refine x_none rfl ?_ | with_reducible refine q_then ?_ | with_reducible refine q_block ?_ | with_reducible refine awp_skip ?_ | ((with_reducible refine w_region ?_ ?_); kernel_rfl))
        refine ⟨k + 1, by omega, by omega, ⟨rfl, rfl, rfl, rfl, rfl, trivial⟩, ⟨rfl, ?_, trivial⟩⟩
        exact hc_buf (by rw [hn])
    · obtain rfl : k = R.length := by simp at c; omega
      rw [List.take_length]
      repeat (first | ((with_reducible refine k_move ?_); refine m_move rfl ?_) | ((with_reducible refine k_assign ?_); refine m_assign rfl ?_)  | refine e_nrm ?_ | refine x_none rfl ?_ | with_reducible refine q_then ?_ | with_reducible refine q_then_exit ?_ | with_reducible refine awp_seq ?_ | with_reducible refine awp_exit ?_ | with_reducible refine awp_ret ?_ | ((with_reducible refine q_block_exit ?_ ?_); rfl) | ((with_reducible refine w_region ?_ ?_); kernel_rfl))
      refine ret0_1 (by first | exact .inr rfl | exact .inl rfl) rfl rfl ?_
      repeat' (first | exact trivial | exact Ren.v _ | exact Ren.sl _ _ | exact Ren.ep _ | exact Ren.ptr _ _ _ _ rfl | exact Ren.nil _ | exact Ren.own _ _ _ _ ⟨_, rfl⟩ | refine ren_ag ?_ | refine ren_tu ?_ | refine ren_fn ?_ | refine ⟨?_, ?_⟩)
end Go.Proofs.YtbacidnhjmdnlaaDoor
