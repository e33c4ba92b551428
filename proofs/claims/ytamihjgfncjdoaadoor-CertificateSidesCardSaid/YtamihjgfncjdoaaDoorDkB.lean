/- permitofficeref28.SameCertificate(s), and the example of the laws of certificates, by the abstract machine; conditions: the tables of classes and powers stand / Deck.One, by the abstract machine; conditions: none. -/
import Derived.Test.YtamihjgfncjdoaaDoorCeC
import Derived.Test.YtamihjgfncjdoaaDoorCeD
import Derived.Test.YtamihjgfncjdoaaDoorDkA
set_option linter.unusedVariables false
set_option linter.unusedSimpArgs false
namespace Go.Proofs.YtamihjgfncjdoaaDoor
open Go Go.RowKit
set_option maxRecDepth 10000
variable {G : Nat → Option (List Value)}
def awN : List Nd := [⟨⟨#[65]⟩, 0, 0⟩]
def awV : List Dv := [⟨⟨#[69]⟩, 4, 0, -1, 2⟩]
def awC : Ce := ⟨4, 1, 2, 1, [⟨0, 2, 9⟩]⟩
def awT : List UInt8 := [99, 101, 114, 116, 105, 102, 105, 99, 97, 116, 101, 32, 49, 32, 52, 32, 103, 105, 118, 101, 114, 32, 50, 32, 115, 116, 97, 116, 101, 32, 50, 32, 108, 111, 99, 107, 32, 69, 32, 99, 108, 111, 115, 101, 100, 32, 107, 101, 121, 32, 57]
theorem aw1 : askC awN awV [] 1 awC = ([awC], 0) := by decide +kernel
theorem aw2 : hearC awN awV [] 2 awC = ([awC], 0) := by decide +kernel
theorem aw3 : giveC awN awV [awC] 2 1 4 = ([stC awC 2], 0) := by decide +kernel
theorem aw4 : hearC awN awV [awC] 1 (stC awC 2) = ([stC awC 3], 0) := by decide +kernel
theorem aw5 : printC awN awV (stC awC 2) = (awT, 0) := by decide +kernel
set_option maxRecDepth 100000 in
set_option maxHeartbeats 2000000 in
theorem awake_A (hG : GCls G) (hP : GPow G) : ACalls Tryd.prog G 4 [] [] (.v (.bool true)) [] := by
  have n1 : ∀ x ∈ awN, x.n.size ≤ 1000 := by decide
  have n2 : ∀ x ∈ awV, x.n.size ≤ 1000 := by decide
  have n1' : ∀ x ∈ awN, x.n.size ≤ maxLen := by decide
  have n2' : ∀ x ∈ awV, x.n.size ≤ maxLen := by decide
  have m0 : CeMax [] := fun c hc => by cases hc
  have m1 : CeMax [awC] := fun c hc => by simp at hc; subst hc; decide
  have a1 := ask_A (G := G) awN awV [] 1 awC hG n1' n2' (by decide) (by decide) m0 (by decide) (by decide)
  rw [aw1] at a1
  have a2 := hear_A (G := G) awN awV [] 2 awC hG n1' n2' (by decide) (by decide) m0 (by decide) (by decide)
  rw [aw2] at a2
  have a3 := give_A (G := G) awN awV [awC] 2 1 4 hG n1' n2' (by decide) (by decide) m1 (by decide)
  rw [aw3] at a3
  have a4 := hear_A (G := G) awN awV [awC] 1 (stC awC 2) hG n1' n2' (by decide) (by decide) m1 (by decide) (by decide)
  rw [aw4] at a4
  have a5 := cprint_A (G := G) awN awV (stC awC 2) hG hP n1 n2 (by decide) (by decide) (by decide)
  rw [aw5] at a5
  refine acalls_of tbOk (enter_of Tryd.func4 (by kernel_rfl) rfl) Tryd.func4 rfl _ Tryd.ntmps4 (Nat.le_of_ble_eq_true rfl) fun X hX => ?_
  subst hX
  repeat (first | ((with_reducible refine k_assign ?_); refine m_assign rfl ?_) | ((with_reducible refine k_load ?_); refine x_load_agg tbOk rfl rfl rfl rfl (Nat.le_of_ble_eq_true rfl) ?_) | ((with_reducible refine k_store ?_); refine m_store tbOk rfl rfl rfl rfl rfl rfl rfl (Nat.le_of_ble_eq_true rfl) rfl ?_) | ((with_reducible refine k_alloc ?_); refine x_alloc tbOk rfl rfl ?_) | ((with_reducible refine k_build ?_); refine m_build tbOk rfl rfl rfl rfl rfl ?_) | ((with_reducible refine k_buildSlice ?_); refine m_buildSlice tbOk rfl rfl rfl rfl rfl (by omega) rfl rfl rfl ?_) | refine e_nrm ?_ | refine x_none rfl ?_ | with_reducible (first | refine q_then ?_ | refine awp_seq ?_) | ((with_reducible refine w_region ?_ ?_); kernel_rfl))
  refine x_call0 (a1) (by repeat' (first | exact trivial | exact Ren.v _ | exact Ren.sl _ _ | exact Ren.nil _ | refine ren_ag ?_ | refine ⟨?_, ?_⟩)) (by repeat' (first | exact trivial | exact RenB.v _ | exact RenB.sl _ _ | refine renb_tu ?_ | refine ⟨?_, ?_⟩)) ?_
  repeat (first | ((with_reducible refine k_move ?_); refine m_move rfl ?_) | ((with_reducible refine k_assign ?_); refine m_assign rfl ?_) | ((with_reducible refine k_load ?_); refine x_load_agg tbOk rfl rfl rfl rfl (Nat.le_of_ble_eq_true rfl) ?_) | ((with_reducible refine k_extract ?_); refine x_extract rfl rfl ?_)  | refine e_nrm ?_ | refine x_none rfl ?_ | with_reducible (first | refine q_then ?_ | refine awp_seq ?_) | ((with_reducible refine w_region ?_ ?_); kernel_rfl))
  refine x_call0 (a2) (by repeat' (first | exact trivial | exact Ren.v _ | exact Ren.sl _ _ | exact Ren.nil _ | refine ren_ag ?_ | refine ⟨?_, ?_⟩)) (by repeat' (first | exact trivial | exact RenB.v _ | exact RenB.sl _ _ | refine renb_tu ?_ | refine ⟨?_, ?_⟩)) ?_
  repeat (first | ((with_reducible refine k_move ?_); refine m_move rfl ?_) | ((with_reducible refine k_assign ?_); refine m_assign rfl ?_) | ((with_reducible refine k_load ?_); refine x_load_agg tbOk rfl rfl rfl rfl (Nat.le_of_ble_eq_true rfl) ?_) | ((with_reducible refine k_extract ?_); refine x_extract rfl rfl ?_)  | refine e_nrm ?_ | refine x_none rfl ?_ | with_reducible (first | refine q_then ?_ | refine awp_seq ?_) | ((with_reducible refine w_region ?_ ?_); kernel_rfl))
  refine x_call0 (a3) (by repeat' (first | exact trivial | exact Ren.v _ | exact Ren.sl _ _ | refine ren_ag ?_ | refine ⟨?_, ?_⟩)) (by repeat' (first | exact trivial | exact RenB.v _ | exact RenB.sl _ _ | refine renb_tu ?_ | refine ⟨?_, ?_⟩)) ?_
  repeat (first | ((with_reducible refine k_move ?_); refine m_move rfl ?_) | ((with_reducible refine k_assign ?_); refine m_assign rfl ?_) | ((with_reducible refine k_fieldAddr ?_); refine x_fieldAddr_ptr tbOk rfl rfl rfl rfl ?_) | ((with_reducible refine k_load ?_); refine x_load_agg tbOk rfl rfl rfl rfl (Nat.le_of_ble_eq_true rfl) ?_) | ((with_reducible refine k_store ?_); refine m_store tbOk rfl rfl rfl rfl rfl rfl rfl (Nat.le_of_ble_eq_true rfl) rfl ?_) | ((with_reducible refine k_extract ?_); refine x_extract rfl rfl ?_)  | refine e_nrm ?_ | refine x_none rfl ?_ | with_reducible (first | refine q_then ?_ | refine awp_seq ?_) | ((with_reducible refine w_region ?_ ?_); kernel_rfl))
  refine x_call0 (a4) (by repeat' (first | exact trivial | exact Ren.v _ | exact Ren.sl _ _ | refine ren_ag ?_ | refine ⟨?_, ?_⟩)) (by repeat' (first | exact trivial | exact RenB.v _ | exact RenB.sl _ _ | refine renb_tu ?_ | refine ⟨?_, ?_⟩)) ?_
  repeat (first | ((with_reducible refine k_move ?_); refine m_move rfl ?_) | ((with_reducible refine k_assign ?_); refine m_assign rfl ?_) | ((with_reducible refine k_load ?_); refine x_load_agg tbOk rfl rfl rfl rfl (Nat.le_of_ble_eq_true rfl) ?_) | ((with_reducible refine k_extract ?_); refine x_extract rfl rfl ?_)  | refine e_nrm ?_ | refine x_none rfl ?_ | with_reducible (first | refine q_then ?_ | refine awp_seq ?_) | ((with_reducible refine w_region ?_ ?_); kernel_rfl))
  refine x_call0 (a5) (by repeat' (first | exact trivial | exact Ren.v _ | exact Ren.sl _ _ | refine ren_ag ?_ | refine ⟨?_, ?_⟩)) (by repeat' (first | exact trivial | exact RenB.v _ | refine renb_tu ?_ | refine ⟨?_, ?_⟩)) ?_
  have h0 : ([stC awC 3].map Ce.av)[0]? = some (stC awC 3).av := rfl
  have h1 : ([stC awC 2].map Ce.av)[0]? = some (stC awC 2).av := rfl
  repeat (first | ((with_reducible refine k_move ?_); refine m_move rfl ?_) | ((with_reducible refine k_assign ?_); refine m_assign rfl ?_) | ((with_reducible refine k_fieldAddr ?_); refine x_fieldAddr_ep tbOk rfl rfl rfl rfl ?_) | ((with_reducible refine k_load ?_); refine x_load_ep_one tbOk rfl rfl rfl ?_) | ((with_reducible refine k_extract ?_); refine x_extract rfl rfl ?_) | ((with_reducible refine k_pick ?_); refine m_pickt rfl (by first | rfl | assumption) rfl ?_) | ((with_reducible refine k_indexAddr ?_); refine x_indexAddr_n tbOk rfl rfl rfl rfl (by assumption) ?_) | ((with_reducible refine k_call ?_); refine x_len tbOk rfl rfl ?_) | ((with_reducible refine k_bin ?_); (first | refine m_binI rfl rfl rfl ?_ | refine m_binS rfl rfl rfl ?_))  | refine e_nrm ?_ | refine x_none rfl ?_ | refine x_run_t rfl rfl (by first | rfl | assumption) ?_ | with_reducible (first | refine q_then ?_ | refine awp_seq ?_ | refine awp_ret ?_) | ((with_reducible refine w_region ?_ ?_); kernel_rfl))
  refine ret_v (by first | exact .inr rfl | exact .inl rfl) rfl rfl ?_
  exact congrArg (fun b => AV.v (.bool b)) (strEq_iff.2 rfl).symm
end Go.Proofs.YtamihjgfncjdoaaDoor
namespace Go.Proofs.YtamihjgfncjdoaaDoor
open Go Go.RowKit
set_option maxRecDepth 10000
variable {G : Nat → Option (List Value)}
theorem one_A (D : Dk) (n : Int) (hD : DkOk D) (h1 : -9223372036854775808 ≤ n) (h2 : n ≤ 9223372036854775807) : ACalls Tryd.prog G 16 [.ptr (refB + 0) 0 0, .v (.int .i64 n)] [D.cells] (.v (.bool (D.val n == 0))) [D.next.cells] := by
  refine acalls_of tbOk (enter_of Tryd.func16 (by kernel_rfl) rfl) Tryd.func16 rfl _ Tryd.ntmps16 (Nat.le_of_ble_eq_true rfl) fun X hX => ?_
  subst hX
  repeat (first | ((with_reducible refine k_move ?_); refine m_move rfl ?_) | ((with_reducible refine k_assign ?_); refine m_assign rfl ?_)  | refine e_nrm ?_ | refine x_none rfl ?_ | with_reducible (first | refine q_then ?_ | refine awp_seq ?_) | ((with_reducible refine w_region ?_ ?_); kernel_rfl))
  refine zD (ss := [(refB + 0, 0)]) (next_A D n hD h1 h2) (by simp) (in1 rfl rfl) rfl (back1 rfl) ?_
  repeat (first | ((with_reducible refine k_assign ?_); refine m_assign rfl ?_) | ((with_reducible refine k_bin ?_); refine m_binI rfl rfl rfl ?_)  | refine e_nrm ?_ | refine x_none rfl ?_ | with_reducible (first | refine q_then ?_ | refine awp_ret ?_) )
  refine ret1_v (by first | exact .inr rfl | exact .inl rfl) rfl rfl rfl (by first | rfl | assumption) ?_ ?_ (by repeat' (first | exact trivial | exact Ren.v _ | exact Ren.sl _ _ | exact Ren.ep _ | exact Ren.ptr _ _ _ _ rfl | exact Ren.bs _ _ _ _ _ rfl | exact Ren.nil _ | exact Ren.own _ _ _ _ ⟨_, rfl⟩ | refine ren_ag ?_ | refine ren_tu ?_ | refine ren_fn ?_ | refine ⟨?_, ?_⟩)) <;> rfl
end Go.Proofs.YtamihjgfncjdoaaDoor
