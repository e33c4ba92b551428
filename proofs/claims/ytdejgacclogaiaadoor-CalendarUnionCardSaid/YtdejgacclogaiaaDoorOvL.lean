/- permitofficelaw02.CalendarOverlap, by the abstract machine: it answers true for all arguments; conditions: the table of powers stands. -/
import Derived.Test.YtdejgacclogaiaaDoorSnC
import Derived.Test.YtdejgacclogaiaaDoorCaL
set_option linter.unusedVariables false
set_option linter.unusedSimpArgs false
namespace Go.Proofs.YtdejgacclogaiaaDoor
open Go Go.RowKit
set_option maxRecDepth 10000
variable {G : Nat → Option (List Value)}
def inB (a b : Spn) (t : Int) : Bool := decide (a.from_ ≤ t) && decide (t < a.until_) && (decide (b.from_ ≤ t) && decide (t < b.until_))
theorem ovS_comm (a b : Spn) : ovS b a = ovS a b := by unfold ovS; rw [Int.max_comm, Int.min_comm]
theorem ovB_comm (a b : Spn) : ovB b a = ovB a b := by
  unfold ovB
  rw [ovS_comm]
  cases validB a <;> cases validB b <;> rfl
theorem ovP_comm (a b : Spn) : ovP b a = ovP a b := by unfold ovP; rw [ovB_comm, ovS_comm]
theorem ovB_iff {a b : Spn} (ha : validB a = true) (hb : validB b = true) : ovB a b = true ↔ max a.from_ b.from_ < min a.until_ b.until_ := by
  unfold ovB
  rw [ha, hb, Bool.true_and, Bool.true_and, validB_iff]
  have h1 := validB_iff.1 ha
  have h2 := validB_iff.1 hb
  unfold ovS
  simp only
  omega
theorem cnt_and {p q : Int → Bool} : ∀ n, cnt (fun t => p t || q t) n + cnt (fun t => p t && q t) n = cnt p n + cnt q n
  | 0 => rfl
  | n + 1 => by
    have := cnt_and (p := p) (q := q) n
    simp only [cnt]
    by_cases hp : p (n : Int) = true <;> by_cases hq : q (n : Int) = true <;> simp [hp, hq] <;> omega
theorem cnt_inB (a b : Spn) (n : Nat) (ha : validB a = true) (hb : validB b = true) (han : a.until_ ≤ n) (hbn : b.until_ ≤ n) : cnt (inB a b) n = if ovB a b = true then min a.until_ b.until_ - max a.from_ b.from_ else 0 := by
  have h1 := validB_iff.1 ha
  have h2 := validB_iff.1 hb
  split
  · rename_i h
    rw [ovB_iff ha hb] at h
    rw [cnt_congr (q := fun t => decide (max a.from_ b.from_ ≤ t) && decide (t < min a.until_ b.until_)) (fun t => by
      rw [Bool.eq_iff_iff]
      simp only [inB, Bool.and_eq_true, decide_eq_true_eq]
      omega) n, cnt_in _ _ (by omega) (by omega)]
    omega
  · rename_i h
    rw [ovB_iff ha hb] at h
    rw [cnt_congr (q := fun t => decide ((0 : Int) ≤ t) && decide (t < 0)) (fun t => by
      rw [Bool.eq_iff_iff]
      simp only [inB, Bool.and_eq_true, decide_eq_true_eq]
      omega) n, cnt_in _ _ (by omega) (by omega)]
    omega
theorem minutes_two (a b : Spn) (n : Nat) (ha : validB a = true) (hb : validB b = true) (han : a.until_ ≤ n) (hbn : b.until_ ≤ n) : lenS (unionP [a, b]).1 = a.until_ - a.from_ + b.until_ - b.from_ - cnt (inB a b) n := by
  have h1 := validB_iff.1 ha
  have h2 := validB_iff.1 hb
  have hv : ∀ s ∈ [a, b], validB s = true := by simp [ha, hb]
  have hu : ∀ s ∈ (unionP [a, b]).1, s.until_ ≤ n := fun s hs => by
    have hsv := validB_iff.1 (union_valid _ s hs)
    have hc : covS (unionP [a, b]).1 (s.until_ - 1) = true := covS_iff.2 ⟨s, hs, by omega, by omega⟩
    rw [union_cov hv, covS_iff] at hc
    obtain ⟨x, hx, hx2⟩ := hc
    simp at hx
    rcases hx with rfl | rfl <;> omega
  rw [len_cnt (union_sep hv) (by omega) hu, cnt_congr (union_cov hv) n]
  have e1 : cnt (covS [a, b]) n = cnt (fun t => (decide (a.from_ ≤ t) && decide (t < a.until_)) || (decide (b.from_ ≤ t) && decide (t < b.until_))) n := cnt_congr (fun t => by simp [covS]) n
  have e2 := cnt_and (p := fun t => decide (a.from_ ≤ t) && decide (t < a.until_)) (q := fun t => decide (b.from_ ≤ t) && decide (t < b.until_)) n
  rw [cnt_in _ _ (by omega) (by omega), cnt_in _ _ (by omega) (by omega)] at e2
  rw [e1]
  have e3 : cnt (inB a b) n = cnt (fun t => (decide (a.from_ ≤ t) && decide (t < a.until_)) && (decide (b.from_ ≤ t) && decide (t < b.until_))) n := cnt_congr (fun t => rfl) n
  rw [e3]
  omega
set_option maxHeartbeats 8000000 in
theorem overlap_law (l : List Int) (hG : GPow G) : ACalls Tryd.prog G 8 [.sl 1 (l.map iv)] [] (.v (.bool true)) [] := by
  by_cases hl : l.length ≤ 400
  · have q0 : (!decide (((l.map iv).length : Int) ≤ 400)) = false := by simp; omega
    have hD := DkOk.new hl
    have r1 := spanP_rng (dk0 l) (n := 30) (by omega) (by omega)
    have r2 := spanP_rng (dk0 l).next.next (n := 30) (by omega) (by omega)
    generalize ha : spanP (dk0 l) 30 = a at r1
    generalize hb : spanP (dk0 l).next.next 30 = b at r2
    have hva : validB a = true := validB_iff.2 (by omega)
    have hvb : validB b = true := validB_iff.2 (by omega)
    have sa := span_A (G := G) (dk0 l) 30 hD (by omega) (by omega)
    have sb := span_A (G := G) (dk0 l).next.next 30 hD.next.next (by omega) (by omega)
    rw [ha] at sa
    rw [hb] at sb
    have ov := over_A (G := G) b a
    rw [ovB_comm, ovP_comm] at ov
    have hm := minutes_two a b 60 hva hvb (by omega) (by omega)
    have hc := cnt_inB a b 60 hva hvb (by omega) (by omega)
    have hcb := cnt_bound (inB a b) 60
    refine acalls_of tbOk (enter_of Tryd.func8 (by kernel_rfl) rfl) Tryd.func8 rfl _ Tryd.ntmps8 (Nat.le_of_ble_eq_true rfl) fun X hX => ?_
    subst hX
    repeat (first | ((with_reducible refine k_move ?_); refine m_move rfl ?_) | ((with_reducible refine k_assign ?_); refine m_assign rfl ?_)  | refine e_nrm ?_ | refine x_none rfl ?_ | with_reducible refine q_then ?_ | with_reducible refine awp_seq ?_ | ((with_reducible refine w_region ?_ ?_); kernel_rfl))
    refine x_call0 (few_A (l.map iv)) (by repeat' (first | exact trivial | exact Ren.v _ | exact Ren.sl _ _ | exact Ren.ep _ | exact Ren.ptr _ _ _ _ rfl | exact Ren.bs _ _ _ _ _ rfl | exact Ren.nil _ | exact Ren.own _ _ _ _ ⟨_, rfl⟩ | refine ren_ag ?_ | refine ren_tu ?_ | refine ren_fn ?_ | refine ⟨?_, ?_⟩)) (by repeat' (first | exact trivial | exact RenB.v _ | exact RenB.sl _ _ | exact RenB.ep _ | exact RenB.ptr _ _ _ _ rfl | refine renb_ag ?_ | refine renb_tu ?_ | refine ⟨?_, ?_⟩)) ?_
    repeat (first | ((with_reducible refine k_move ?_); refine m_move rfl ?_) | ((with_reducible refine k_un ?_); refine x_not rfl ?_)  | refine e_nrm ?_ | refine x_none rfl ?_ | with_reducible refine q_then ?_ | with_reducible refine awp_seq ?_ | with_reducible refine awp_skip ?_ | ((with_reducible refine w_region ?_ ?_); kernel_rfl) | refine w_cond_f rfl (by first | rfl | assumption) ?_)
    refine x_call_new (new_A l) (by repeat' (first | exact trivial | exact Ren.v _ | exact Ren.sl _ _ | exact Ren.ep _ | exact Ren.ptr _ _ _ _ rfl | exact Ren.bs _ _ _ _ _ rfl | exact Ren.nil _ | exact Ren.own _ _ _ _ ⟨_, rfl⟩ | refine ren_ag ?_ | refine ren_tu ?_ | refine ren_fn ?_ | refine ⟨?_, ?_⟩)) (by repeat' (first | exact trivial | exact RenB.v _ | exact RenB.sl _ _ | exact RenB.ep _ | exact RenB.ptr _ _ _ _ rfl | refine renb_ag ?_ | refine renb_tu ?_ | refine ⟨?_, ?_⟩)) rfl ?_
    repeat (first | ((with_reducible refine k_move ?_); refine m_move rfl ?_) | ((with_reducible refine k_assign ?_); refine m_assign rfl ?_)  | refine e_nrm ?_ | refine x_none rfl ?_ | with_reducible refine q_then ?_ | with_reducible refine awp_seq ?_ | ((with_reducible refine w_region ?_ ?_); kernel_rfl))
    refine x_call (y := a.av) (ss := [(20, 1)]) (sa) (by repeat' (first | exact trivial | exact Ren.v _ | exact Ren.sl _ _ | exact Ren.ep _ | exact Ren.ptr _ _ _ _ rfl | exact Ren.bs _ _ _ _ _ rfl | exact Ren.nil _ | exact Ren.own _ _ _ _ ⟨_, rfl⟩ | refine ren_ag ?_ | refine ren_tu ?_ | refine ren_fn ?_ | refine ⟨?_, ?_⟩)) (by simp) (in1 rfl rfl) rfl (back1 rfl) (by repeat' (first | exact trivial | exact RenB.v _ | exact RenB.sl _ _ | exact RenB.ep _ | exact RenB.ptr _ _ _ _ rfl | refine renb_ag ?_ | refine renb_tu ?_ | refine ⟨?_, ?_⟩)) ?_
    repeat (first | ((with_reducible refine k_move ?_); refine m_move rfl ?_)  | refine x_none rfl ?_  )
    refine x_call (y := b.av) (ss := [(20, 1)]) (sb) (by repeat' (first | exact trivial | exact Ren.v _ | exact Ren.sl _ _ | exact Ren.ep _ | exact Ren.ptr _ _ _ _ rfl | exact Ren.bs _ _ _ _ _ rfl | exact Ren.nil _ | exact Ren.own _ _ _ _ ⟨_, rfl⟩ | refine ren_ag ?_ | refine ren_tu ?_ | refine ren_fn ?_ | refine ⟨?_, ?_⟩)) (by simp) (in1 rfl rfl) rfl (back1 rfl) (by repeat' (first | exact trivial | exact RenB.v _ | exact RenB.sl _ _ | exact RenB.ep _ | exact RenB.ptr _ _ _ _ rfl | refine renb_ag ?_ | refine renb_tu ?_ | refine ⟨?_, ?_⟩)) ?_
    repeat (first | ((with_reducible refine k_load ?_); refine x_load_agg tbOk rfl rfl rfl rfl (Nat.le_of_ble_eq_true rfl) ?_) | ((with_reducible refine k_store ?_); refine m_store tbOk rfl rfl rfl rfl rfl rfl rfl (Nat.le_of_ble_eq_true rfl) rfl ?_) | ((with_reducible refine k_alloc ?_); refine x_alloc tbOk rfl rfl ?_)  | refine e_nrm ?_ | refine x_none rfl ?_ | with_reducible refine q_then ?_ | with_reducible refine awp_seq ?_ | ((with_reducible refine w_region ?_ ?_); kernel_rfl))
    refine x_call0 (over_A a b) (by repeat' (first | exact trivial | exact Ren.v _ | exact Ren.sl _ _ | exact Ren.ep _ | exact Ren.ptr _ _ _ _ rfl | exact Ren.bs _ _ _ _ _ rfl | exact Ren.nil _ | exact Ren.own _ _ _ _ ⟨_, rfl⟩ | refine ren_ag ?_ | refine ren_tu ?_ | refine ren_fn ?_ | refine ⟨?_, ?_⟩)) (by repeat' (first | exact trivial | exact RenB.v _ | exact RenB.sl _ _ | exact RenB.ep _ | exact RenB.ptr _ _ _ _ rfl | refine renb_ag ?_ | refine renb_tu ?_ | refine ⟨?_, ?_⟩)) ?_
    repeat (first | ((with_reducible refine k_move ?_); refine m_move rfl ?_) | ((with_reducible refine k_assign ?_); refine m_assign rfl ?_) | ((with_reducible refine k_load ?_); refine x_load_agg tbOk rfl rfl rfl rfl (Nat.le_of_ble_eq_true rfl) ?_) | ((with_reducible refine k_store ?_); refine m_store tbOk rfl rfl rfl rfl rfl rfl rfl (Nat.le_of_ble_eq_true rfl) rfl ?_) | ((with_reducible refine k_alloc ?_); refine x_alloc tbOk rfl rfl ?_) | ((with_reducible refine k_extract ?_); refine x_extract rfl rfl ?_)  | refine e_nrm ?_ | refine x_none rfl ?_ | with_reducible refine q_then ?_ | with_reducible refine awp_seq ?_ | ((with_reducible refine w_region ?_ ?_); kernel_rfl))
    refine x_call0 (ov) (by repeat' (first | exact trivial | exact Ren.v _ | exact Ren.sl _ _ | exact Ren.ep _ | exact Ren.ptr _ _ _ _ rfl | exact Ren.bs _ _ _ _ _ rfl | exact Ren.nil _ | exact Ren.own _ _ _ _ ⟨_, rfl⟩ | refine ren_ag ?_ | refine ren_tu ?_ | refine ren_fn ?_ | refine ⟨?_, ?_⟩)) (by repeat' (first | exact trivial | exact RenB.v _ | exact RenB.sl _ _ | exact RenB.ep _ | exact RenB.ptr _ _ _ _ rfl | refine renb_ag ?_ | refine renb_tu ?_ | refine ⟨?_, ?_⟩)) ?_
    repeat (first | ((with_reducible refine k_move ?_); refine m_move rfl ?_) | ((with_reducible refine k_assign ?_); refine m_assign rfl ?_) | ((with_reducible refine k_store ?_); refine m_store tbOk rfl rfl rfl rfl rfl rfl rfl (Nat.le_of_ble_eq_true rfl) rfl ?_) | ((with_reducible refine k_alloc ?_); refine x_alloc tbOk rfl rfl ?_) | ((with_reducible refine k_extract ?_); refine x_extract rfl rfl ?_)  | refine e_nrm ?_ | refine x_none rfl ?_ | with_reducible refine q_then ?_ | with_reducible refine awp_seq ?_ | with_reducible refine awp_block ?_ | ((with_reducible refine w_region ?_ ?_); kernel_rfl))
    refine awp_loop (ι := Nat) (fun t => t ≤ 60) (fun t => 60 - t) (fun v t => [(4, .ptr 4 (v 4) 0), (5, .ptr 5 (v 5) 0), (6, .ptr 6 (v 6) 0), (7, .v (.bool (ovB a b))), (8, .ptr 8 (v 8) 0), (9, .v (.bool (ovB a b))), (10, .v (.int .i64 (cnt (inB a b) t))), (11, .v (.int .i64 (t : Nat)))]) (fun v t => [(4, .box [.v (.int .i64 a.from_), .v (.int .i64 a.until_)]), (5, .box [.v (.int .i64 b.from_), .v (.int .i64 b.until_)]), (6, .box [.v (.int .i64 (ovP a b).from_), .v (.int .i64 (ovP a b).until_)]), (8, .box [.v (.int .i64 (ovP a b).from_), .v (.int .i64 (ovP a b).until_)])]) ?_ ?_
    · exact ⟨0, Nat.zero_le _, trivial, ⟨rfl, rfl, rfl, rfl, rfl, rfl, rfl, rfl, trivial⟩, ⟨rfl, rfl, rfl, rfl, trivial⟩⟩
    rintro v t ht
    repeat (first | ((with_reducible refine k_move ?_); refine m_move rfl ?_) | ((with_reducible refine k_bin ?_); refine m_binI rfl rfl rfl ?_)  | refine e_nrm ?_ | refine x_none rfl ?_ | with_reducible refine q_then ?_ | with_reducible refine awp_seq ?_ | ((with_reducible refine w_region ?_ ?_); kernel_rfl))
    refine w_cond rfl (fun h => ?_) (fun h => ?_)
    · have hlt : t < 60 := by simp at h; omega
      have hct := cnt_bound (inB a b) t
      have hx : ovB a b = true → (ovP a b).from_ = max a.from_ b.from_ ∧ (ovP a b).until_ = min a.until_ b.until_ := fun e => by
        unfold ovP
        rw [e]
        exact ⟨rfl, rfl⟩
      have hoi := ovB_iff hva hvb
      by_cases hin : inB a b t = true
      · have hin2 := hin
        simp only [inB, Bool.and_eq_true, decide_eq_true_eq] at hin2
        have hob : ovB a b = true := hoi.2 (by omega)
        obtain ⟨hx1, hx2⟩ := hx hob
        have p1 : decide (a.from_ ≤ (t : Int)) = true := decide_eq_true (by omega)
        have p2 : decide ((t : Int) < a.until_) = true := decide_eq_true (by omega)
        have p3 : decide (b.from_ ≤ (t : Int)) = true := decide_eq_true (by omega)
        have p4 : decide ((t : Int) < b.until_) = true := decide_eq_true (by omega)
        have p5 : decide ((ovP a b).from_ ≤ (t : Int)) = true := decide_eq_true (by omega)
        have p6 : decide ((t : Int) < (ovP a b).until_) = true := decide_eq_true (by omega)
        have p7 : (decide ((t : Int) < b.until_) != decide ((t : Int) < (ovP a b).until_)) = false := by rw [p6, p4]; rfl
        have hcn : cnt (inB a b) (t + 1) = cnt (inB a b) t + 1 := by rw [cnt, if_pos hin]
        clear hoi hx hc hcb hm
        repeat (first | ((with_reducible refine k_move ?_); refine m_move rfl ?_) | ((with_reducible refine k_assign ?_); refine m_assign rfl ?_) | ((with_reducible refine k_fieldAddr ?_); refine x_fieldAddr_ptr tbOk rfl rfl rfl rfl ?_) | ((with_reducible refine k_load ?_); refine x_load_one tbOk rfl rfl rfl rfl rfl ?_) | ((with_reducible refine k_pick ?_); refine m_pickt rfl (by first | rfl | assumption) rfl ?_) | ((with_reducible refine k_bin ?_); refine x_add_in rfl rfl (by omega) ?_) | ((with_reducible refine k_bin ?_); refine m_binI rfl rfl rfl ?_) | ((with_reducible refine k_bin ?_); refine x_neq_b (by exact Tryd.underlying4) rfl rfl ?_)  | refine e_nrm ?_ | refine x_none rfl ?_ | refine x_run_t rfl rfl (by first | rfl | assumption) ?_ | with_reducible refine q_then ?_ | with_reducible refine q_block ?_ | with_reducible refine awp_seq ?_ | with_reducible refine awp_block ?_ | with_reducible refine awp_skip ?_ | ((with_reducible refine w_region ?_ ?_); kernel_rfl) | refine w_cond_t rfl (by first | rfl | assumption) ?_ | refine w_cond_f rfl (by first | rfl | assumption) ?_)
        exact ⟨t + 1, by show t + 1 ≤ 60; omega, by show 60 - (t + 1) < 60 - t; omega, ⟨rfl, rfl, rfl, rfl, rfl, rfl, congrArg (fun k : Int => AV.v (.int .i64 k)) hcn.symm, rfl, trivial⟩, ⟨rfl, rfl, rfl, rfl, trivial⟩⟩
      · have hin2 := hin
        simp only [inB, Bool.and_eq_true, decide_eq_true_eq] at hin2
        have hcn : cnt (inB a b) (t + 1) = cnt (inB a b) t := by rw [cnt, if_neg hin]; omega
        cases hob : ovB a b
        · clear hoi hx hc hcb hm
          repeat' (first | ((with_reducible refine k_move ?_); refine m_move rfl ?_) | ((with_reducible refine k_assign ?_); refine m_assign rfl ?_) | ((with_reducible refine k_fieldAddr ?_); refine x_fieldAddr_ptr tbOk rfl rfl rfl rfl ?_) | ((with_reducible refine k_load ?_); refine x_load_one tbOk rfl rfl rfl rfl rfl ?_) | ((with_reducible refine k_pick ?_); refine m_pickt rfl (by first | rfl | assumption) rfl ?_) | ((with_reducible refine k_pick ?_); refine m_pickf rfl (by first | rfl | assumption) rfl ?_) | ((with_reducible refine k_bin ?_); refine x_add_in rfl rfl (by omega) ?_) | ((with_reducible refine k_bin ?_); refine m_binI rfl rfl rfl ?_) | ((with_reducible refine k_bin ?_); refine x_neq_b (by exact Tryd.underlying4) rfl rfl ?_)  | refine e_nrm ?_ | refine x_none rfl ?_ | refine x_run_t rfl rfl (by first | rfl | assumption) ?_ | refine x_skip_t rfl rfl (by first | rfl | assumption) ?_ | with_reducible refine q_then ?_ | with_reducible refine q_then_ret ?_ | with_reducible refine q_block ?_ | with_reducible refine q_block_ret ?_ | with_reducible refine awp_seq ?_ | with_reducible refine awp_block ?_ | with_reducible refine awp_skip ?_ | with_reducible refine awp_ret ?_ | ((with_reducible refine w_region ?_ ?_); kernel_rfl) | refine w_cond_f rfl (by first | rfl | assumption) ?_ | refine x_split rfl rfl (fun _ => ?_) (fun _ => ?_) | refine w_cond rfl (fun _ => ?_) (fun _ => ?_))
          all_goals first
            | exact ⟨t + 1, by show t + 1 ≤ 60; omega, by show 60 - (t + 1) < 60 - t; omega, ⟨rfl, rfl, rfl, rfl, rfl, rfl, congrArg (fun k : Int => AV.v (.int .i64 k)) hcn.symm, rfl, trivial⟩, ⟨rfl, rfl, rfl, rfl, trivial⟩⟩
            | (exfalso
               clear hG hD ha hb hcn hva hvb q0 hin
               simp at * <;> omega)
        · obtain ⟨hx1, hx2⟩ := hx hob
          clear hoi hx hc hcb hm
          repeat' (first | ((with_reducible refine k_move ?_); refine m_move rfl ?_) | ((with_reducible refine k_assign ?_); refine m_assign rfl ?_) | ((with_reducible refine k_fieldAddr ?_); refine x_fieldAddr_ptr tbOk rfl rfl rfl rfl ?_) | ((with_reducible refine k_load ?_); refine x_load_one tbOk rfl rfl rfl rfl rfl ?_) | ((with_reducible refine k_pick ?_); refine m_pickt rfl (by first | rfl | assumption) rfl ?_) | ((with_reducible refine k_pick ?_); refine m_pickf rfl (by first | rfl | assumption) rfl ?_) | ((with_reducible refine k_bin ?_); refine x_add_in rfl rfl (by omega) ?_) | ((with_reducible refine k_bin ?_); refine m_binI rfl rfl rfl ?_) | ((with_reducible refine k_bin ?_); refine x_neq_b (by exact Tryd.underlying4) rfl rfl ?_)  | refine e_nrm ?_ | refine x_none rfl ?_ | refine x_run_t rfl rfl (by first | rfl | assumption) ?_ | refine x_skip_t rfl rfl (by first | rfl | assumption) ?_ | with_reducible refine q_then ?_ | with_reducible refine q_then_ret ?_ | with_reducible refine q_block ?_ | with_reducible refine q_block_ret ?_ | with_reducible refine awp_seq ?_ | with_reducible refine awp_block ?_ | with_reducible refine awp_skip ?_ | with_reducible refine awp_ret ?_ | ((with_reducible refine w_region ?_ ?_); kernel_rfl) | refine w_cond_f rfl (by first | rfl | assumption) ?_ | refine x_split rfl rfl (fun _ => ?_) (fun _ => ?_) | refine w_cond rfl (fun _ => ?_) (fun _ => ?_))
          all_goals first
            | exact ⟨t + 1, by show t + 1 ≤ 60; omega, by show 60 - (t + 1) < 60 - t; omega, ⟨rfl, rfl, rfl, rfl, rfl, rfl, congrArg (fun k : Int => AV.v (.int .i64 k)) hcn.symm, rfl, trivial⟩, ⟨rfl, rfl, rfl, rfl, trivial⟩⟩
            | (exfalso
               clear hG hD ha hb hcn hva hvb q0 hin
               simp at * <;> omega)
    · have hte : t = 60 := by simp at h; omega
      subst hte
      repeat (first | ((with_reducible refine k_load ?_); refine x_load_agg tbOk rfl rfl rfl rfl (Nat.le_of_ble_eq_true rfl) ?_) | ((with_reducible refine k_buildSlice ?_); refine m_buildSlice tbOk rfl rfl rfl rfl rfl (by omega) rfl rfl rfl ?_) | refine x_none rfl ?_ | with_reducible refine q_then ?_ | with_reducible refine q_then_exit ?_ | with_reducible refine awp_seq ?_ | with_reducible refine awp_exit ?_ | ((with_reducible refine q_block_exit ?_ ?_); rfl) | ((with_reducible refine w_region ?_ ?_); kernel_rfl))
      have hoi := ovB_iff hva hvb
      have q1 : (ovB a b == ovB a b) = true := by simp
      have q2 : decide (ovP a b = ovP a b) = true := by simp
      have q3 : (ovB a b == decide (cnt (inB a b) 60 > 0)) = true := by
        cases hob : ovB a b
        · rw [hob] at hc
          rw [hc]; rfl
        · rw [hob] at hc
          have := hoi.1 hob
          rw [if_pos rfl] at hc
          have : cnt (inB a b) 60 > 0 := by omega
          simp [this]
      have q4 : ((unionP [a, b]).2 == 0) = true := by
        rw [union_ok (by simp [hva, hvb])]; rfl
      have q5 : (lenS (unionP [a, b]).1 == a.until_ - a.from_ + b.until_ - b.from_ - cnt (inB a b) 60) = true := by
        rw [hm]; exact beq_self_eq_true _
      refine x_call0 (minutes_A [a, b] (by simp)) (by repeat' (first | exact trivial | exact Ren.v _ | exact Ren.sl _ _ | exact Ren.ep _ | exact Ren.ptr _ _ _ _ rfl | exact Ren.bs _ _ _ _ _ rfl | exact Ren.nil _ | exact Ren.own _ _ _ _ ⟨_, rfl⟩ | refine ren_ag ?_ | refine ren_tu ?_ | refine ren_fn ?_ | refine ⟨?_, ?_⟩)) (by repeat' (first | exact trivial | exact RenB.v _ | exact RenB.sl _ _ | exact RenB.ep _ | exact RenB.ptr _ _ _ _ rfl | refine renb_ag ?_ | refine renb_tu ?_ | refine ⟨?_, ?_⟩)) ?_
      repeat (first | ((with_reducible refine k_move ?_); refine m_move rfl ?_) | ((with_reducible refine k_assign ?_); refine m_assign rfl ?_) | ((with_reducible refine k_load ?_); refine x_load_agg tbOk rfl rfl rfl rfl (Nat.le_of_ble_eq_true rfl) ?_) | ((with_reducible refine k_extract ?_); refine x_extract rfl rfl ?_) | ((with_reducible refine k_bin ?_); refine x_eql_b (by exact Tryd.underlying4) rfl rfl ?_)  | refine e_nrm ?_ | refine x_none rfl ?_ | refine x_run_t rfl rfl (by first | rfl | assumption) ?_ | with_reducible refine q_then ?_ | with_reducible refine awp_seq ?_ | ((with_reducible refine w_region ?_ ?_); kernel_rfl))
      with_reducible refine k_bin ?_
      refine x_bin_ag rfl rfl (rfl : concL _ = some (ovP a b).vals) (rfl : concL _ = some (ovP a b).vals) (fun w => spnEql _ _ _ _ w) ?_
      repeat (first | ((with_reducible refine k_move ?_); refine m_move rfl ?_) | ((with_reducible refine k_fieldAddr ?_); refine x_fieldAddr_ptr tbOk rfl rfl rfl rfl ?_) | ((with_reducible refine k_load ?_); refine x_load_one tbOk rfl rfl rfl rfl rfl ?_) | ((with_reducible refine k_load ?_); refine x_load_agg tbOk rfl rfl rfl rfl (Nat.le_of_ble_eq_true rfl) ?_) | ((with_reducible refine k_pick ?_); refine m_pickt rfl (by first | rfl | assumption) rfl ?_) | ((with_reducible refine k_bin ?_); refine x_add_in rfl rfl (by omega) ?_) | ((with_reducible refine k_bin ?_); refine x_sub_in rfl rfl (by omega) ?_) | ((with_reducible refine k_bin ?_); refine m_binI rfl rfl rfl ?_) | ((with_reducible refine k_bin ?_); refine x_eql_b (by exact Tryd.underlying4) rfl rfl ?_)  | refine x_none rfl ?_ | refine x_run_t rfl rfl (by first | rfl | assumption) ?_  )
      refine x_call0 (valid_A a) (by repeat' (first | exact trivial | exact Ren.v _ | exact Ren.sl _ _ | exact Ren.ep _ | exact Ren.ptr _ _ _ _ rfl | exact Ren.bs _ _ _ _ _ rfl | exact Ren.nil _ | exact Ren.own _ _ _ _ ⟨_, rfl⟩ | refine ren_ag ?_ | refine ren_tu ?_ | refine ren_fn ?_ | refine ⟨?_, ?_⟩)) (by repeat' (first | exact trivial | exact RenB.v _ | exact RenB.sl _ _ | exact RenB.ep _ | exact RenB.ptr _ _ _ _ rfl | refine renb_ag ?_ | refine renb_tu ?_ | refine ⟨?_, ?_⟩)) ?_
      repeat (first | ((with_reducible refine k_move ?_); refine m_move rfl ?_) | ((with_reducible refine k_pick ?_); refine m_pickt rfl (by first | rfl | assumption) rfl ?_)  | refine x_none rfl ?_ | refine x_run_t rfl rfl (by first | rfl | assumption) ?_  )
      refine x_call0 (awake_A hG) (by repeat' (first | exact trivial | exact Ren.v _ | exact Ren.sl _ _ | exact Ren.ep _ | exact Ren.ptr _ _ _ _ rfl | exact Ren.bs _ _ _ _ _ rfl | exact Ren.nil _ | exact Ren.own _ _ _ _ ⟨_, rfl⟩ | refine ren_ag ?_ | refine ren_tu ?_ | refine ren_fn ?_ | refine ⟨?_, ?_⟩)) (by repeat' (first | exact trivial | exact RenB.v _ | exact RenB.sl _ _ | exact RenB.ep _ | exact RenB.ptr _ _ _ _ rfl | refine renb_ag ?_ | refine renb_tu ?_ | refine ⟨?_, ?_⟩)) ?_
      repeat (first | ((with_reducible refine k_assign ?_); refine m_assign rfl ?_) | ((with_reducible refine k_pick ?_); refine m_pickt rfl (by first | rfl | assumption) rfl ?_)  | refine e_nrm ?_ | refine x_none rfl ?_ | with_reducible refine q_then ?_ | with_reducible refine awp_ret ?_ )
      refine ret_v (by first | exact .inr rfl | exact .inl rfl) rfl rfl ?_
      rfl
  · have q0 : (!decide (((l.map iv).length : Int) ≤ 400)) = true := by simp; omega
    refine acalls_of tbOk (enter_of Tryd.func8 (by kernel_rfl) rfl) Tryd.func8 rfl _ Tryd.ntmps8 (Nat.le_of_ble_eq_true rfl) fun X hX => ?_
    subst hX
    repeat (first | ((with_reducible refine k_move ?_); refine m_move rfl ?_) | ((with_reducible refine k_assign ?_); refine m_assign rfl ?_)  | refine e_nrm ?_ | refine x_none rfl ?_ | with_reducible refine q_then ?_ | with_reducible refine awp_seq ?_ | ((with_reducible refine w_region ?_ ?_); kernel_rfl))
    refine x_call0 (few_A (l.map iv)) (by repeat' (first | exact trivial | exact Ren.v _ | exact Ren.sl _ _ | exact Ren.ep _ | exact Ren.ptr _ _ _ _ rfl | exact Ren.bs _ _ _ _ _ rfl | exact Ren.nil _ | exact Ren.own _ _ _ _ ⟨_, rfl⟩ | refine ren_ag ?_ | refine ren_tu ?_ | refine ren_fn ?_ | refine ⟨?_, ?_⟩)) (by repeat' (first | exact trivial | exact RenB.v _ | exact RenB.sl _ _ | exact RenB.ep _ | exact RenB.ptr _ _ _ _ rfl | refine renb_ag ?_ | refine renb_tu ?_ | refine ⟨?_, ?_⟩)) ?_
    repeat (first | ((with_reducible refine k_un ?_); refine x_not rfl ?_)  | refine e_nrm ?_ | refine x_none rfl ?_ | with_reducible refine q_then ?_ | with_reducible refine awp_seq ?_ | ((with_reducible refine w_region ?_ ?_); kernel_rfl) | refine w_cond_t rfl (by first | rfl | assumption) ?_)
    refine x_call0 (awake_A hG) (by repeat' (first | exact trivial | exact Ren.v _ | exact Ren.sl _ _ | exact Ren.ep _ | exact Ren.ptr _ _ _ _ rfl | exact Ren.bs _ _ _ _ _ rfl | exact Ren.nil _ | exact Ren.own _ _ _ _ ⟨_, rfl⟩ | refine ren_ag ?_ | refine ren_tu ?_ | refine ren_fn ?_ | refine ⟨?_, ?_⟩)) (by repeat' (first | exact trivial | exact RenB.v _ | exact RenB.sl _ _ | exact RenB.ep _ | exact RenB.ptr _ _ _ _ rfl | refine renb_ag ?_ | refine renb_tu ?_ | refine ⟨?_, ?_⟩)) ?_
    repeat (first | ((with_reducible refine k_assign ?_); refine m_assign rfl ?_)  | refine e_nrm ?_ | refine x_none rfl ?_ | with_reducible refine q_then ?_ | with_reducible refine q_then_ret ?_ | with_reducible refine awp_ret ?_ )
    refine ret_v (by first | exact .inr rfl | exact .inl rfl) rfl rfl ?_
    rfl
end Go.Proofs.YtdejgacclogaiaaDoor
