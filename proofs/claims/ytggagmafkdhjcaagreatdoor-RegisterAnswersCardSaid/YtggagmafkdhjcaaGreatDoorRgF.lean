/- permitofficelaw05.some, awake and RegisterCan, by the abstract machine; conditions: the table of classes stands. -/
import Derived.Test.YtggagmafkdhjcaaGreatDoorRgE
import Derived.Test.YtggagmafkdhjcaaGreatDoorRgC
set_option linter.unusedVariables false
set_option linter.unusedSimpArgs false
namespace Go.Proofs.YtggagmafkdhjcaaGreatDoor
open Go Go.RowKit
set_option maxRecDepth 10000
variable {G : Nat → Option (List Value)}
def Good (L : List Per) : Prop := L.length ≤ 64 ∧ ∀ q ∈ L, PerOk q
theorem addR_good {L : List Per} {p : Per} (hL : Good L) (hp : PerOk p) : Good (addR L p).1 := by
  unfold addR
  repeat' split
  all_goals first
    | exact ⟨Nat.zero_le _, fun q hq => absurd hq List.not_mem_nil⟩
    | (refine ⟨by simp only [List.length_append, List.length_take, List.length_drop, List.length_cons, List.length_nil]; omega, fun q hq => ?_⟩
       simp only [List.mem_append, List.mem_singleton] at hq
       rcases hq with (hq | rfl) | hq
       · exact hL.2 q (List.mem_of_mem_take hq)
       · exact hp
       · exact hL.2 q (List.mem_of_mem_drop hq))
def someK : Nat → Dk → List Per → Dk × List Per
  | 0, D, L => (D, L)
  | m + 1, D, L => someK m (perD D) (if (addR L (perOf D)).2 = 0 then (addR L (perOf D)).1 else L)
theorem someK_ok : ∀ (m : Nat) (D : Dk) (L : List Per), DkOk D → Good L → DkOk (someK m D L).1 ∧ Good (someK m D L).2
  | 0, D, L, h, g => ⟨h, g⟩
  | m + 1, D, L, h, g => by
    refine someK_ok m _ _ (perD_ok h) ?_
    split
    · exact addR_good g (perOf_ok D)
    · exact g
theorem Good.len {L : List Per} (h : Good L) : L.length ≤ maxLen := by have := h.1; unfold maxLen; omega
theorem Good.nam {L : List Per} (h : Good L) : ∀ q ∈ L, q.n.size ≤ maxLen := fun q hq => by have := (h.2 q hq).1; unfold maxLen; omega
theorem PerOk.nam {p : Per} (h : PerOk p) : p.n.size ≤ maxLen := by have := h.1; unfold maxLen; omega
set_option maxHeartbeats 1000000 in
theorem some_A (D : Dk) (hD : DkOk D) (hG : GCls G) :
    ACalls Tryz.prog G 8 [.ptr (refB + 0) 0 0] [D.cells] (regAV (someK (D.val 7).toNat D.next []).2) [(someK (D.val 7).toNat D.next []).1.cells] := by
  obtain ⟨r0, r1, -⟩ := D.val_range (n := 7) (by omega)
  obtain ⟨m, hm⟩ := Int.eq_ofNat_of_zero_le r0
  have hn := next_A (G := G) D 7 hD (by omega) (by omega)
  rw [hm] at hn
  rw [hm, Int.toNat_natCast]
  have hm7 : m < 7 := by have := r1 (by omega); omega
  refine acalls_of tbOk (enter_of Tryz.func8 (by kernel_rfl) rfl) Tryz.func8 rfl _ Tryz.ntmps8 (Nat.le_of_ble_eq_true rfl) fun X hX => ?_
  subst hX
  repeat (first | ((with_reducible refine k_move ?_); refine m_move rfl ?_) | ((with_reducible refine k_alloc ?_); refine x_alloc tbOk rfl rfl ?_)  | refine e_nrm ?_ | refine x_none rfl ?_ | with_reducible (first | refine q_then ?_ | refine awp_seq ?_) | ((with_reducible refine w_region ?_ ?_); kernel_rfl))
  refine zD (ss := [(refB + 0, 0)]) (hn) (by simp) (in1 rfl rfl) rfl (back1 rfl) ?_
  repeat (first | ((with_reducible refine k_assign ?_); refine m_assign rfl ?_)  | refine e_nrm ?_ | refine x_none rfl ?_ | with_reducible (first | refine q_then ?_ | refine awp_block ?_) )
  refine awp_box [.sl 5 []] (s := 3) (k := 1) rfl ⟨.inr ⟨rfl, 5, rfl⟩, trivial⟩ ?_
  refine awp_loopv (ι := Nat × Dk × List Per) (fun v i => v (refB + 0) = 0 ∧ DkOk i.2.1 ∧ Good i.2.2 ∧ i.1 < 7 ∧ someK i.1 i.2.1 i.2.2 = someK m D.next []) (fun i => i.1) (fun v i => [(0, .ptr (refB + 0) (v (refB + 0)) 0), (2, .ptr 2 (v 2) 0), (3, .ptr 3 (v 3) 0), (4, .v (.int .i64 (i.1 : Nat)))]) (fun v i => [(refB + 0, .box i.2.1.cells), (2, .box [.v (.slice none 0 0)]), (3, .box [.sl 5 (i.2.2.map Per.av)])]) ?_ ?_
  · exact ⟨(m, D.next, []), ⟨rfl, hD.next, ⟨by simp, by simp⟩, hm7, rfl⟩, trivial, ⟨rfl, rfl, rfl, rfl, trivial⟩, ⟨rfl, rfl, rfl, trivial⟩⟩
  · rintro v ⟨j, E, L⟩ ⟨hv0, hE, hL, hj, hf⟩
    repeat (first | ((with_reducible refine k_move ?_); refine m_move rfl ?_) | ((with_reducible refine k_bin ?_); refine m_binI rfl rfl rfl ?_)  | refine e_nrm ?_ | refine x_none rfl ?_ | with_reducible (first | refine q_then ?_ | refine awp_seq ?_) | ((with_reducible refine w_region ?_ ?_); kernel_rfl))
    refine w_cond rfl (fun h => ?_) (fun h => ?_)
    · obtain ⟨j, rfl⟩ : ∃ i, j = i + 1 := ⟨j - 1, by simp at h; omega⟩
      have ej : ((j + 1 : Nat) : Int) - 1 = (j : Nat) := by omega
      have hp := perOf_ok E
      repeat (first | ((with_reducible refine k_move ?_); refine m_move rfl ?_) | ((with_reducible refine k_load ?_); refine x_load_agg tbOk rfl rfl rfl rfl (Nat.le_of_ble_eq_true rfl) ?_)  | refine x_none rfl ?_ | with_reducible (first | refine q_then ?_ | refine awp_seq ?_ | refine awp_block ?_ | refine awp_skip ?_) | ((with_reducible refine w_draw mixd ?_ ?_); kernel_rfl))
      refine zD (y := (perOf E).av) (ss := [(refB + 0, v (refB + 0))]) (person_A E hE) (by simp) (in1 rfl rfl) rfl (back1 rfl) ?_
      repeat (first   | refine x_none rfl ?_  )
      refine zC (add_A L (perOf E) hG hL.nam hp.nam hL.len) ?_
      repeat (first | ((with_reducible refine k_move ?_); refine m_move rfl ?_) | ((with_reducible refine k_assign ?_); refine m_assign rfl ?_) | ((with_reducible refine k_store ?_); refine m_store tbOk rfl rfl rfl rfl rfl rfl rfl (Nat.le_of_ble_eq_true rfl) rfl ?_) | ((with_reducible refine k_alloc ?_); refine x_alloc tbOk rfl rfl ?_) | ((with_reducible refine k_extract ?_); refine x_extract rfl rfl ?_) | ((with_reducible refine k_bin ?_); refine m_binI rfl rfl rfl ?_)  | refine e_nrm ?_ | refine e_drw (by kernel_rfl) ?_ | refine x_none rfl ?_ | with_reducible (first | refine q_then ?_ | refine awp_seq ?_) | ((with_reducible refine w_region ?_ ?_); kernel_rfl))
      refine w_cond rfl (fun h => ?_) (fun h => ?_)
      · have h0 : (addR L (perOf E)).2 = 0 := by simpa using h
        repeat (first | ((with_reducible refine k_move ?_); refine m_move rfl ?_) | ((with_reducible refine k_assign ?_); refine m_assign rfl ?_) | ((with_reducible refine k_load ?_); refine x_load_agg tbOk rfl rfl rfl rfl (Nat.le_of_ble_eq_true rfl) ?_) | ((with_reducible refine k_store ?_); refine m_store tbOk rfl rfl rfl rfl rfl rfl rfl (Nat.le_of_ble_eq_true rfl) rfl ?_) | ((with_reducible refine k_bin ?_); refine x_sub_in rfl rfl (by omega) ?_)  | refine e_nrm ?_ | refine x_none rfl ?_ | with_reducible (first | refine q_then ?_ | refine q_block ?_) | ((with_reducible refine w_region ?_ ?_); kernel_rfl))
        refine ⟨(j, perD E, (addR L (perOf E)).1), ⟨hv0, perD_ok hE, addR_good hL hp, by omega, ?_⟩, by simp, ⟨rfl, rfl, rfl, congrArg (fun z => AV.v (.int .i64 z)) ej, trivial⟩, ⟨rfl, rfl, rfl, trivial⟩⟩
        rw [← hf, someK, if_pos h0]
      · have h0 : ¬ (addR L (perOf E)).2 = 0 := by simpa using h
        repeat (first | ((with_reducible refine k_move ?_); refine m_move rfl ?_) | ((with_reducible refine k_assign ?_); refine m_assign rfl ?_) | ((with_reducible refine k_bin ?_); refine x_sub_in rfl rfl (by omega) ?_)  | refine e_nrm ?_ | refine x_none rfl ?_ | with_reducible (first | refine q_then ?_ | refine q_block ?_ | refine awp_skip ?_) | ((with_reducible refine w_region ?_ ?_); kernel_rfl))
        refine ⟨(j, perD E, L), ⟨hv0, perD_ok hE, hL, by omega, ?_⟩, by simp, ⟨rfl, rfl, rfl, congrArg (fun z => AV.v (.int .i64 z)) ej, trivial⟩, ⟨rfl, rfl, rfl, trivial⟩⟩
        rw [← hf, someK, if_neg h0]
    · obtain rfl : j = 0 := by simp at h; omega
      rw [← hf]
      repeat (first | ((with_reducible refine k_load ?_); refine x_load_agg tbOk rfl rfl rfl rfl (Nat.le_of_ble_eq_true rfl) ?_) | ((with_reducible refine k_store ?_); refine m_store tbOk rfl rfl rfl rfl rfl rfl rfl (Nat.le_of_ble_eq_true rfl) rfl ?_)  | refine e_nrm ?_ | refine x_none rfl ?_ | with_reducible (first | refine q_then ?_ | refine q_then_exit ?_ | refine awp_seq ?_ | refine awp_exit ?_ | refine awp_ret ?_) | ((with_reducible refine q_block_exit ?_ ?_); rfl) | ((with_reducible refine w_region ?_ ?_); kernel_rfl))
      refine ret1_cell (by first | exact .inr rfl | exact .inl rfl) rfl rfl rfl rfl rfl rfl (by first | rfl | assumption) ?_ rfl ?_ rfl <;> rfl
def pA : Per := ⟨⟨#[65]⟩, 0, 8, 360, 840⟩
theorem awake_A (hG : GCls G) : ACalls Tryz.prog G 6 [] [] (.v (.bool true)) [] := by
  have hs : ∀ p ∈ [pA], p.n.size ≤ maxLen := by intro p hp; simp at hp; subst hp; decide
  have c1 := can_A (G := G) [pA] ⟨#[65]⟩ 8 360 hG hs (by decide) (by constructor <;> decide)
  have c2 := can_A (G := G) [pA] ⟨#[65]⟩ 8 840 hG hs (by decide) (by constructor <;> decide)
  have c3 := can_A (G := G) [pA] ⟨#[65]⟩ 0 400 hG hs (by decide) (by constructor <;> decide)
  have c4 := find_A (G := G) [pA] ⟨#[65]⟩ hG hs (by decide)
  rw [show canB pvalidE [pA] ⟨#[65]⟩ 8 360 = true by decide +kernel] at c1
  rw [show canB pvalidE [pA] ⟨#[65]⟩ 8 840 = false by decide +kernel] at c2
  rw [show canB pvalidE [pA] ⟨#[65]⟩ 0 400 = false by decide +kernel] at c3
  rw [show findI pvalidE [pA] ⟨#[65]⟩ = 0 by decide +kernel] at c4
  refine acalls_of tbOk (enter_of Tryz.func6 (by kernel_rfl) rfl) Tryz.func6 rfl _ Tryz.ntmps6 (Nat.le_of_ble_eq_true rfl) fun X hX => ?_
  subst hX
  repeat (first | ((with_reducible refine k_assign ?_); refine m_assign rfl ?_) | ((with_reducible refine k_load ?_); refine x_load_agg tbOk rfl rfl rfl rfl (Nat.le_of_ble_eq_true rfl) ?_) | ((with_reducible refine k_store ?_); refine m_store tbOk rfl rfl rfl rfl rfl rfl rfl (Nat.le_of_ble_eq_true rfl) rfl ?_) | ((with_reducible refine k_alloc ?_); refine x_alloc tbOk rfl rfl ?_) | ((with_reducible refine k_build ?_); refine m_build tbOk rfl rfl rfl rfl rfl ?_) | ((with_reducible refine k_buildSlice ?_); refine m_buildSlice tbOk rfl rfl rfl rfl rfl (by omega) rfl rfl rfl ?_) | refine e_nrm ?_ | refine x_none rfl ?_ | with_reducible (first | refine q_then ?_ | refine awp_seq ?_) | ((with_reducible refine w_region ?_ ?_); kernel_rfl))
  refine zC (c1) ?_
  repeat (first | ((with_reducible refine k_move ?_); refine m_move rfl ?_) | ((with_reducible refine k_load ?_); refine x_load_agg tbOk rfl rfl rfl rfl (Nat.le_of_ble_eq_true rfl) ?_)  | refine x_none rfl ?_ | refine x_run_t rfl rfl (by first | rfl | assumption) ?_  )
  refine zC (c2) ?_
  repeat (first | ((with_reducible refine k_move ?_); refine m_move rfl ?_) | ((with_reducible refine k_load ?_); refine x_load_agg tbOk rfl rfl rfl rfl (Nat.le_of_ble_eq_true rfl) ?_) | ((with_reducible refine k_un ?_); refine x_not rfl ?_) | ((with_reducible refine k_pick ?_); refine m_pickt rfl (by first | rfl | assumption) rfl ?_)  | refine x_none rfl ?_ | refine x_run_t rfl rfl (by first | rfl | assumption) ?_  )
  refine zC (c3) ?_
  repeat (first | ((with_reducible refine k_move ?_); refine m_move rfl ?_) | ((with_reducible refine k_load ?_); refine x_load_agg tbOk rfl rfl rfl rfl (Nat.le_of_ble_eq_true rfl) ?_) | ((with_reducible refine k_un ?_); refine x_not rfl ?_) | ((with_reducible refine k_pick ?_); refine m_pickt rfl (by first | rfl | assumption) rfl ?_)  | refine x_none rfl ?_ | refine x_run_t rfl rfl (by first | rfl | assumption) ?_  )
  refine zC (c4) ?_
  repeat (first | ((with_reducible refine k_assign ?_); refine m_assign rfl ?_) | ((with_reducible refine k_pick ?_); refine m_pickt rfl (by first | rfl | assumption) rfl ?_) | ((with_reducible refine k_bin ?_); refine m_binI rfl rfl rfl ?_)  | refine e_nrm ?_ | refine x_none rfl ?_ | refine x_run_t rfl rfl (by first | rfl | assumption) ?_ | with_reducible (first | refine q_then ?_ | refine awp_ret ?_) )
  refine ret_v (by first | exact .inr rfl | exact .inl rfl) rfl rfl ?_
  rfl
end Go.Proofs.YtggagmafkdhjcaaGreatDoor
