/- permitofficelaw02.CalendarUnion, by the abstract machine: it answers true for all arguments; conditions: the table of powers stands. -/
import Derived.Test.YtdejgacclogaiaaDoorOvL
set_option linter.unusedVariables false
set_option linter.unusedSimpArgs false
namespace Go.Proofs.YtdejgacclogaiaaDoor
open Go Go.RowKit
set_option maxRecDepth 10000
variable {G : Nat → Option (List Value)}
theorem x_alloc_z {P : Program} {X : Ctx} {n : Nat} {ops : Array Oper} {os : List Oper} {acc : List Rule} {σ : AS} {K : List Rule → AS → Prop} {gt : List (Nat × AV)} {ty : TypeId} {ps : String} {af : Array Edge} {g : Option (Nat × Bool)} {d : Nat} {e : TypeId} (zs : List Value) {k0 : Nat} {c0 : Cont}
    (hz : ((P.info? e).bind fun i => i.zero.map fun z => z.cells.toList) = some zs) (hH : σ.H d = ⟨k0, c0⟩) (h : Exec P X n ops os (mkG gt σ [] [d] (some d) (.ptr d (k0 + 1) 0) [(d, ⟨k0 + 1, .box (zs.map .v)⟩)] :: acc) ((σ.hup d ⟨k0 + 1, .box (zs.map .v)⟩).put (some d) (.ptr d (k0 + 1) 0)) K) :
    Op1 P X n ops gt ⟨some d, .alloc e, ty, ps, af, g⟩ os acc σ K := by
  obtain rfl : (σ.H d).k = k0 := by rw [hH]
  refine ⟨⟨mkR σ [] [d] (some d) (.ptr d ((σ.H d).k + 1) 0) [(d, ⟨(σ.H d).k + 1, .box (zs.map .v)⟩)], rule_val rfl fun M ρ τ a w hf hR => ?_, mkR_fires _ _ _ _ _ _, h⟩⟩
  obtain ⟨i, h1, h2'⟩ := Option.bind_eq_some_iff.1 hz
  obtain ⟨z, h2, rfl⟩ := Option.map_eq_some_iff.1 h2'
  have hH := mkR_H hf (s := d) (by simp)
  have hN := hR.newBox d e (cs := z.cells.toList.map .v) (us := z.cells.toList) (by simp) (fun j x u a b => by
    rw [List.getElem?_map, b] at a
    injection a with a
    subst a
    exact .v _ _)
  refine ⟨.pointer (some ⟨w.heap.size, 0, none⟩), _, M, _, ?_, by rw [← hH]; exact hN, .ptr _ _ _ _ _ (by rw [← hH]; simp [updρ])⟩
  simp [execOp, Instr.alloc, zeroValue, typeInfo, h1, h2, newVar, newRow]
theorem arr120 : Tryd.prog.underlying 45 = some (.array 120 4) := Tryd.underlying45
def arrB (f : Int → Bool) : List Bool := (List.range 120).map fun t : Nat => f t
theorem arrB_len (f : Int → Bool) : (arrB f).length = 120 := by unfold arrB; rw [List.length_map, List.length_range]
theorem arrB_at (f : Int → Bool) {k : Nat} (h : k < 120) : (arrB f)[k]? = some (f k) := by
  unfold arrB
  rw [List.getElem?_map, List.getElem?_range h]
  rfl
theorem arrB_congr {f g : Int → Bool} (h : ∀ t : Int, f t = g t) : arrB f = arrB g := by
  unfold arrB
  exact List.map_congr_left fun t _ => h t
theorem arrB_set (f : Int → Bool) {k : Nat} (h : k < 120) : (arrB f).set k true = arrB fun t => f t || decide (t = k) := by
  refine List.ext_getElem? fun j => ?_
  by_cases hj : j < 120
  · rw [arrB_at _ hj]
    by_cases hjk : j = k
    · subst hjk
      rw [List.getElem?_set_self (by rw [arrB_len]; exact hj)]
      simp
    · rw [List.getElem?_set_ne (Ne.symm hjk), arrB_at _ hj]
      have : ¬ ((j : Int) = (k : Int)) := by omega
      simp [this]
  · rw [List.getElem?_eq_none (by rw [List.length_set, arrB_len]; omega), List.getElem?_eq_none (by rw [arrB_len]; omega)]
theorem covS_snoc (E : List Spn) (s : Spn) (t : Int) : covS (E ++ [s]) t = (covS E t || (decide (s.from_ ≤ t) && decide (t < s.until_))) := by
  unfold covS
  rw [List.any_append, List.any_cons, List.any_nil, Bool.or_false]
theorem covS_next {U : List Spn} {i : Nat} {x : Spn} (h : U[i]? = some x) (t : Int) : covS (U.take (i + 1)) t = (covS (U.take i) t || (decide (x.from_ ≤ t) && decide (t < x.until_))) := by
  rw [List.take_add_one, h]
  exact covS_snoc _ _ _
set_option maxHeartbeats 8000000 in
theorem union_law (l : List Int) (hG : GPow G) : ACalls Tryd.prog G 6 [.sl 1 (l.map iv)] [] (.v (.bool true)) [] := by
  by_cases hl : l.length ≤ 400
  · have q0 : (!decide (((l.map iv).length : Int) ≤ 400)) = false := by simp; omega
    have hD := DkOk.new hl
    have n1 := next_A (G := G) (dk0 l) 9 hD (by omega) (by omega)
    have n2 := (dk0 l).val_range (n := 9) (by omega)
    have n3 := n2.2.1 (by omega)
    obtain ⟨kn, hkn⟩ : ∃ k : Nat, (dk0 l).val 9 = k := ⟨((dk0 l).val 9).toNat, by omega⟩
    rw [hkn] at n1 n2 n3
    refine acalls_of tbOk (enter_of Tryd.func6 (by kernel_rfl) rfl) Tryd.func6 rfl _ Tryd.ntmps6 (Nat.le_of_ble_eq_true rfl) fun X hX => ?_
    subst hX
    repeat (first | ((with_reducible refine k_move ?_); refine m_move rfl ?_) | ((with_reducible refine k_assign ?_); refine m_assign rfl ?_)  | refine e_nrm ?_ | refine x_none rfl ?_ | with_reducible refine q_then ?_ | with_reducible refine awp_seq ?_ | ((with_reducible refine w_region ?_ ?_); kernel_rfl))
    refine x_call0 (few_A (l.map iv)) (by repeat' (first | exact trivial | exact Ren.v _ | exact Ren.sl _ _ | exact Ren.ep _ | exact Ren.ptr _ _ _ _ rfl | exact Ren.bs _ _ _ _ _ rfl | exact Ren.nil _ | exact Ren.own _ _ _ _ ⟨_, rfl⟩ | refine ren_ag ?_ | refine ren_tu ?_ | refine ren_fn ?_ | refine ⟨?_, ?_⟩)) (by repeat' (first | exact trivial | exact RenB.v _ | exact RenB.sl _ _ | exact RenB.ep _ | exact RenB.ptr _ _ _ _ rfl | refine renb_ag ?_ | refine renb_tu ?_ | refine ⟨?_, ?_⟩)) ?_
    repeat (first | ((with_reducible refine k_move ?_); refine m_move rfl ?_) | ((with_reducible refine k_un ?_); refine x_not rfl ?_)  | refine e_nrm ?_ | refine x_none rfl ?_ | with_reducible refine q_then ?_ | with_reducible refine awp_seq ?_ | with_reducible refine awp_skip ?_ | ((with_reducible refine w_region ?_ ?_); kernel_rfl) | refine w_cond_f rfl (by first | rfl | assumption) ?_)
    refine x_call_new (new_A l) (by repeat' (first | exact trivial | exact Ren.v _ | exact Ren.sl _ _ | exact Ren.ep _ | exact Ren.ptr _ _ _ _ rfl | exact Ren.bs _ _ _ _ _ rfl | exact Ren.nil _ | exact Ren.own _ _ _ _ ⟨_, rfl⟩ | refine ren_ag ?_ | refine ren_tu ?_ | refine ren_fn ?_ | refine ⟨?_, ?_⟩)) (by repeat' (first | exact trivial | exact RenB.v _ | exact RenB.sl _ _ | exact RenB.ep _ | exact RenB.ptr _ _ _ _ rfl | refine renb_ag ?_ | refine renb_tu ?_ | refine ⟨?_, ?_⟩)) rfl ?_
    repeat (first | ((with_reducible refine k_assign ?_); refine m_assign rfl ?_)  | refine e_nrm ?_ | refine x_none rfl ?_ | with_reducible refine q_then ?_ | with_reducible refine awp_seq ?_ | ((with_reducible refine w_region ?_ ?_); kernel_rfl))
    with_reducible refine k_alloc ?_
    refine x_alloc_z (List.replicate 120 (.bool false)) (by kernel_rfl) rfl ?_
    repeat (first | ((with_reducible refine k_move ?_); refine m_move rfl ?_)  | refine e_nrm ?_ | refine x_none rfl ?_ | with_reducible refine q_then ?_ | with_reducible refine awp_seq ?_ | ((with_reducible refine w_region ?_ ?_); kernel_rfl))
    refine x_call (ss := [(26, 1)]) (n1) (by repeat' (first | exact trivial | exact Ren.v _ | exact Ren.sl _ _ | exact Ren.ep _ | exact Ren.ptr _ _ _ _ rfl | exact Ren.bs _ _ _ _ _ rfl | exact Ren.nil _ | exact Ren.own _ _ _ _ ⟨_, rfl⟩ | refine ren_ag ?_ | refine ren_tu ?_ | refine ren_fn ?_ | refine ⟨?_, ?_⟩)) (by simp) (in1 rfl rfl) rfl (back1 rfl) (by repeat' (first | exact trivial | exact RenB.v _ | exact RenB.sl _ _ | exact RenB.ep _ | exact RenB.ptr _ _ _ _ rfl | refine renb_ag ?_ | refine renb_tu ?_ | refine ⟨?_, ?_⟩)) ?_
    repeat (first | ((with_reducible refine k_assign ?_); refine m_assign rfl ?_)  | refine e_nrm ?_ | refine x_none rfl ?_ | with_reducible refine q_then ?_ | with_reducible refine awp_block ?_ )
    refine awp_own (t := 4) (s := 38) 48 2 rfl rfl ?_
    refine awp_loop (ι := Nat × Dk × List Spn) (fun i => DkOk i.2.1 ∧ i.2.2.length + i.1 ≤ 8 ∧ ∀ s ∈ i.2.2, validB s = true ∧ s.until_ ≤ 120) (fun i => i.1) (fun v i => [(3, .ptr 26 (v 26) 0), (4, .own 38 (v 38)), (5, .ptr 5 (v 5) 0), (6, .v (.int .i64 (i.1 : Nat)))]) (fun v i => [(26, .box i.2.1.cells), (5, .box (bsv (arrB (covS i.2.2)))), (38, .buf 48 2 (i.2.2.map Spn.av))]) ?_ ?_
    · exact ⟨(kn, (dk0 l).next, []), ⟨hD.next, by simp; omega, fun s hs => by cases hs⟩, trivial, ⟨rfl, rfl, rfl, rfl, trivial⟩, ⟨rfl, hc_box (by kernel_rfl), rfl, trivial⟩⟩
    rintro v ⟨k, D, E⟩ ⟨hDk, hEk, hE⟩
    simp only at hDk hEk hE
    dsimp only
    repeat (first | ((with_reducible refine k_move ?_); refine m_move rfl ?_) | ((with_reducible refine k_bin ?_); refine m_binI rfl rfl rfl ?_)  | refine e_nrm ?_ | refine x_none rfl ?_ | with_reducible refine q_then ?_ | with_reducible refine awp_seq ?_ | ((with_reducible refine w_region ?_ ?_); kernel_rfl))
    refine w_cond rfl (fun h => ?_) (fun h => ?_)
    · obtain ⟨k, rfl⟩ : ∃ j, k = j + 1 := ⟨k - 1, by simp at h; omega⟩
      have r1 := spanP_rng D (n := 60) (by omega) (by omega)
      have sa := span_A (G := X.G) D 60 hDk (by omega) (by omega)
      generalize spanP D 60 = s at r1 sa
      have hN : ∀ y ∈ [s.av], allOne y.cells = true := fun y hy => by simp at hy; subst hy; rfl
      have hEl : (E.map Spn.av).length ≤ 8 := by rw [List.length_map]; omega
      repeat (first | ((with_reducible refine k_move ?_); refine m_move rfl ?_)  | refine x_none rfl ?_ | with_reducible refine q_then ?_ | with_reducible refine awp_seq ?_ | with_reducible refine awp_block ?_ | with_reducible refine awp_skip ?_ | ((with_reducible refine w_region ?_ ?_); kernel_rfl))
      refine x_call (y := s.av) (ss := [(26, (v 26))]) (sa) (by repeat' (first | exact trivial | exact Ren.v _ | exact Ren.sl _ _ | exact Ren.ep _ | exact Ren.ptr _ _ _ _ rfl | exact Ren.bs _ _ _ _ _ rfl | exact Ren.nil _ | exact Ren.own _ _ _ _ ⟨_, rfl⟩ | refine ren_ag ?_ | refine ren_tu ?_ | refine ren_fn ?_ | refine ⟨?_, ?_⟩)) (by simp) (in1 rfl rfl) rfl (back1 rfl) (by repeat' (first | exact trivial | exact RenB.v _ | exact RenB.sl _ _ | exact RenB.ep _ | exact RenB.ptr _ _ _ _ rfl | refine renb_ag ?_ | refine renb_tu ?_ | refine ⟨?_, ?_⟩)) ?_
      repeat (first | ((with_reducible refine k_move ?_); refine m_move rfl ?_) | ((with_reducible refine k_load ?_); refine x_load_agg tbOk rfl rfl rfl rfl (Nat.le_of_ble_eq_true rfl) ?_) | ((with_reducible refine k_store ?_); refine m_store tbOk rfl rfl rfl rfl rfl rfl rfl (Nat.le_of_ble_eq_true rfl) rfl ?_) | ((with_reducible refine k_alloc ?_); refine x_alloc tbOk rfl rfl ?_) | ((with_reducible refine k_buildSlice ?_); refine m_buildSlice tbOk rfl rfl rfl rfl rfl (by omega) rfl rfl rfl ?_) | refine e_nrm ?_ | refine x_none rfl ?_ | with_reducible refine q_then ?_ | with_reducible refine awp_seq ?_ | ((with_reducible refine w_region ?_ ?_); kernel_rfl))
      refine x_append_own tbOk rfl rfl rfl rfl rfl (by decide) rfl rfl rfl rfl rfl hN (by simp at hEl ⊢; omega) (by simp at hEl ⊢; omega) ?_
      repeat (first | ((with_reducible refine k_assign ?_); refine m_assign rfl ?_) | ((with_reducible refine k_fieldAddr ?_); refine x_fieldAddr_ptr tbOk rfl rfl rfl rfl ?_) | ((with_reducible refine k_load ?_); refine x_load_one tbOk rfl rfl rfl rfl rfl ?_)  | refine e_nrm ?_ | refine x_none rfl ?_ | with_reducible refine q_then ?_ | with_reducible refine awp_seq ?_ | with_reducible refine awp_block ?_ | ((with_reducible refine w_region ?_ ?_); kernel_rfl))
      obtain ⟨c0, hc0⟩ : ∃ c : Nat, s.from_ = c := ⟨s.from_.toNat, by omega⟩
      refine awp_loop (ι := Nat) (fun c => s.from_ ≤ c ∧ (c : Int) ≤ s.until_) (fun c => (s.until_ - c).toNat) (fun v c => [(3, .ptr 26 (v 26) 0), (4, .own 38 (v 38)), (5, .ptr 5 (v 5) 0), (6, .v (.int .i64 ((k + 1 : Nat) : Int))), (7, .ptr 7 (v 7) 0), (8, .v (.int .i64 (c : Nat)))]) (fun v c => [(26, .box D.next.next.cells), (5, .box (bsv (arrB fun t => covS E t || (decide (s.from_ ≤ t) && decide (t < c))))), (7, .box [.v (.int .i64 s.from_), .v (.int .i64 s.until_)]), (38, .buf 48 2 ((E ++ [s]).map Spn.av))]) ?_ ?_
      · refine ⟨c0, ⟨by omega, by omega⟩, trivial, ⟨rfl, rfl, rfl, rfl, rfl, congrArg (fun k : Int => AV.v (.int .i64 k)) hc0, trivial⟩, ⟨rfl, hc_box (congrArg bsv (arrB_congr fun t => ?_)), rfl, hc_buf (by rw [List.map_append]; rfl), trivial⟩⟩
        have : (decide (s.from_ ≤ t) && decide (t < (c0 : Int))) = false := by
          rw [Bool.eq_false_iff]
          simp only [ne_eq, Bool.and_eq_true, decide_eq_true_eq]
          omega
        rw [this, Bool.or_false]
      rintro v c ⟨hc1, hc2⟩
      by_cases hcu : (c : Int) < s.until_
      · have p1 : decide ((c : Int) < s.until_) = true := decide_eq_true hcu
        have p2 : decide ((c : Int) < 120) = true := decide_eq_true (by omega)
        repeat (first | ((with_reducible refine k_move ?_); refine m_move rfl ?_) | ((with_reducible refine k_fieldAddr ?_); refine x_fieldAddr_ptr tbOk rfl rfl rfl rfl ?_) | ((with_reducible refine k_load ?_); refine x_load_one tbOk rfl rfl rfl rfl rfl ?_) | ((with_reducible refine k_pick ?_); refine m_pickt rfl (by first | rfl | assumption) rfl ?_) | ((with_reducible refine k_bin ?_); refine m_binI rfl rfl rfl ?_)  | refine e_nrm ?_ | refine x_none rfl ?_ | refine x_run_t rfl rfl (by first | rfl | assumption) ?_ | with_reducible refine q_then ?_ | with_reducible refine awp_seq ?_ | with_reducible refine awp_block ?_ | with_reducible refine awp_skip ?_ | ((with_reducible refine w_region ?_ ?_); kernel_rfl) | refine w_cond_t rfl (by first | rfl | assumption) ?_)
        with_reducible refine k_indexAddr ?_
        refine x_indexAddr_arr tbOk arr120 rfl rfl rfl ⟨by omega, by omega⟩ ?_
        repeat (first   | refine x_none rfl ?_  )
        with_reducible refine k_store ?_
        refine m_store tbOk rfl rfl rfl rfl rfl rfl rfl (by rw [bsv_length, arrB_len]; omega) rfl ?_
        repeat (first | ((with_reducible refine k_move ?_); refine m_move rfl ?_) | ((with_reducible refine k_assign ?_); refine m_assign rfl ?_) | ((with_reducible refine k_bin ?_); refine x_add_in rfl rfl (by omega) ?_)  | refine e_nrm ?_ | refine x_none rfl ?_ | with_reducible refine q_then ?_ | with_reducible refine q_block ?_ | ((with_reducible refine w_region ?_ ?_); kernel_rfl))
        refine ⟨c + 1, ⟨by push_cast; omega, by push_cast; omega⟩, by push_cast; omega, ⟨rfl, rfl, rfl, rfl, rfl, rfl, trivial⟩, ⟨rfl, ?_, rfl, rfl, trivial⟩⟩
        refine hc_box (show putL (bsv _) (0 + (c : Int).toNat * 1) [.v (.bool true)] = _ from ?_)
        rw [Nat.zero_add, Nat.mul_one, Int.toNat_natCast, bsv_set, arrB_set _ (by omega)]
        refine congrArg bsv (arrB_congr fun t => ?_)
        rw [Bool.or_assoc]
        congr 1
        rw [Bool.eq_iff_iff]
        simp only [Bool.or_eq_true, Bool.and_eq_true, decide_eq_true_eq]
        omega
      · have p1 : decide ((c : Int) < s.until_) = false := decide_eq_false hcu
        repeat (first | ((with_reducible refine k_move ?_); refine m_move rfl ?_) | ((with_reducible refine k_assign ?_); refine m_assign rfl ?_) | ((with_reducible refine k_fieldAddr ?_); refine x_fieldAddr_ptr tbOk rfl rfl rfl rfl ?_) | ((with_reducible refine k_load ?_); refine x_load_one tbOk rfl rfl rfl rfl rfl ?_) | ((with_reducible refine k_pick ?_); refine m_pickf rfl (by first | rfl | assumption) rfl ?_) | ((with_reducible refine k_bin ?_); refine x_sub_in rfl rfl (by omega) ?_) | ((with_reducible refine k_bin ?_); refine m_binI rfl rfl rfl ?_)  | refine e_nrm ?_ | refine x_none rfl ?_ | refine x_skip_t rfl rfl (by first | rfl | assumption) ?_ | with_reducible refine q_then ?_ | with_reducible refine q_then_exit ?_ | with_reducible refine q_block ?_ | with_reducible refine awp_seq ?_ | with_reducible refine awp_exit ?_ | ((with_reducible refine q_block_exit ?_ ?_); rfl) | ((with_reducible refine w_region ?_ ?_); kernel_rfl) | refine w_cond_f rfl (by first | rfl | assumption) ?_)
        refine ⟨(k, D.next.next, E ++ [s]), ⟨hDk.next.next, by simp at hEk ⊢; omega, fun x hx => ?_⟩, by show k < k + 1; omega, ⟨rfl, rfl, rfl, ?_, trivial⟩, ⟨rfl, hc_box (congrArg bsv (arrB_congr fun t => ?_)), rfl, trivial⟩⟩
        · rcases List.mem_append.1 hx with hx | hx
          · exact hE x hx
          · simp at hx
            subst hx
            exact ⟨validB_iff.2 (by omega), by omega⟩
        · show AV.v (.int .i64 _) = AV.v (.int .i64 _)
          congr 2
          push_cast
          omega
        · rw [covS_snoc]
          congr 1
          rw [Bool.eq_iff_iff]
          simp only [Bool.and_eq_true, decide_eq_true_eq]
          omega
    · have hEv : ∀ s ∈ E, validB s = true := fun s hs => (hE s hs).1
      have hE12 : E.length ≤ 12 := by omega
      have hUl := union_len E
      have eU2 : (unionP E).2 = 0 := by rw [union_ok hEv]
      have hcov := union_cov hEv
      have hsep := union_sep hEv
      have hu120 : ∀ s ∈ (unionP E).1, s.until_ ≤ 120 := fun s hs => by
        have hsv := validB_iff.1 (union_valid _ s hs)
        have hc : covS (unionP E).1 (s.until_ - 1) = true := covS_iff.2 ⟨s, hs, by omega, by omega⟩
        rw [hcov, covS_iff] at hc
        obtain ⟨x, hx, hx2⟩ := hc
        have := (hE x hx).2
        omega
      have hlen := len_cnt (n := 120) hsep (by omega) hu120
      rw [cnt_congr hcov 120] at hlen
      have uA := union_A (G := X.G) E hE12
      have uB := union_A (G := X.G) (unionP E).1 (by omega)
      have uC := minutes_A (G := X.G) E hE12
      rw [union_union hEv] at uB
      rw [eU2] at uA uC
      rw [hlen] at uC
      generalize hU : (unionP E).1 = U at uA uB hUl hcov hsep hu120
      repeat (first   | with_reducible refine q_then ?_ | with_reducible refine q_then_exit ?_ | with_reducible refine awp_seq ?_ | with_reducible refine awp_exit ?_ | ((with_reducible refine q_block_exit ?_ ?_); rfl))
      refine awp_freeze (t := 4) (s := 38) rfl rfl ?_
      repeat (first | ((with_reducible refine k_move ?_); refine m_move rfl ?_)  | refine x_none rfl ?_  | ((with_reducible refine w_region ?_ ?_); kernel_rfl))
      refine x_call0 (uA) (by repeat' (first | exact trivial | exact Ren.v _ | exact Ren.sl _ _ | exact Ren.ep _ | exact Ren.ptr _ _ _ _ rfl | exact Ren.bs _ _ _ _ _ rfl | exact Ren.nil _ | exact Ren.own _ _ _ _ ⟨_, rfl⟩ | refine ren_ag ?_ | refine ren_tu ?_ | refine ren_fn ?_ | refine ⟨?_, ?_⟩)) (by repeat' (first | exact trivial | exact RenB.v _ | exact RenB.sl _ _ | exact RenB.ep _ | exact RenB.ptr _ _ _ _ rfl | refine renb_ag ?_ | refine renb_tu ?_ | refine ⟨?_, ?_⟩)) ?_
      repeat (first | ((with_reducible refine k_move ?_); refine m_move rfl ?_) | ((with_reducible refine k_assign ?_); refine m_assign rfl ?_) | ((with_reducible refine k_extract ?_); refine x_extract rfl rfl ?_)  | refine e_nrm ?_ | refine x_none rfl ?_ | with_reducible refine q_then ?_ | with_reducible refine awp_seq ?_ | ((with_reducible refine w_region ?_ ?_); kernel_rfl))
      refine x_call0 (uB) (by repeat' (first | exact trivial | exact Ren.v _ | exact Ren.sl _ _ | exact Ren.ep _ | exact Ren.ptr _ _ _ _ rfl | exact Ren.bs _ _ _ _ _ rfl | exact Ren.nil _ | exact Ren.own _ _ _ _ ⟨_, rfl⟩ | refine ren_ag ?_ | refine ren_tu ?_ | refine ren_fn ?_ | refine ⟨?_, ?_⟩)) (by repeat' (first | exact trivial | exact RenB.v _ | exact RenB.sl _ _ | exact RenB.ep _ | exact RenB.ptr _ _ _ _ rfl | refine renb_ag ?_ | refine renb_tu ?_ | refine ⟨?_, ?_⟩)) ?_
      repeat (first | ((with_reducible refine k_move ?_); refine m_move rfl ?_) | ((with_reducible refine k_assign ?_); refine m_assign rfl ?_) | ((with_reducible refine k_extract ?_); refine x_extract rfl rfl ?_)  | refine e_nrm ?_ | refine x_none rfl ?_ | with_reducible refine q_then ?_ | with_reducible refine awp_seq ?_ | ((with_reducible refine w_region ?_ ?_); kernel_rfl))
      refine x_call0 (uC) (by repeat' (first | exact trivial | exact Ren.v _ | exact Ren.sl _ _ | exact Ren.ep _ | exact Ren.ptr _ _ _ _ rfl | exact Ren.bs _ _ _ _ _ rfl | exact Ren.nil _ | exact Ren.own _ _ _ _ ⟨_, rfl⟩ | refine ren_ag ?_ | refine ren_tu ?_ | refine ren_fn ?_ | refine ⟨?_, ?_⟩)) (by repeat' (first | exact trivial | exact RenB.v _ | exact RenB.sl _ _ | exact RenB.ep _ | exact RenB.ptr _ _ _ _ rfl | refine renb_ag ?_ | refine renb_tu ?_ | refine ⟨?_, ?_⟩)) ?_
      repeat (first | ((with_reducible refine k_move ?_); refine m_move rfl ?_) | ((with_reducible refine k_assign ?_); refine m_assign rfl ?_) | ((with_reducible refine k_extract ?_); refine x_extract rfl rfl ?_)  | refine e_nrm ?_ | refine x_none rfl ?_ | with_reducible refine q_then ?_ | with_reducible refine awp_seq ?_ | with_reducible refine awp_block ?_ | ((with_reducible refine w_region ?_ ?_); kernel_rfl))
      have hUm : U.length ≤ 1000 := by omega
      have q9 : (cnt (covS E) 120 == cnt (covS E) 120) = true := beq_self_eq_true _
      have hfin : ∀ t : Int, covS (U.take U.length) t = covS E t := fun t => by rw [List.take_length, hcov]
      refine awp_loop (ι := Nat) (fun t => t ≤ 120) (fun t => 120 - t) (fun v t => [(5, .ptr 5 (v 5) 0), (9, .sl 2 (U.map Spn.av)), (10, .v (.int .i64 0)), (11, .sl 2 (U.map Spn.av)), (12, .v (.int .i64 0)), (13, .v (.int .i64 (cnt (covS E) 120))), (14, .v (.int .i64 0)), (15, .v (.int .i64 (cnt (covS E) t))), (68, .v (.int .i64 (t : Nat)))]) (fun v t => [(5, .box (bsv (arrB (covS E))))]) ?_ ?_
      · exact ⟨0, Nat.zero_le _, trivial, ⟨rfl, rfl, rfl, rfl, rfl, rfl, rfl, rfl, rfl, trivial⟩, ⟨rfl, trivial⟩⟩
      rintro v t ht
      repeat (first | ((with_reducible refine k_bin ?_); refine m_binI rfl rfl rfl ?_)  | refine e_nrm ?_ | refine x_none rfl ?_ | with_reducible refine q_then ?_ | with_reducible refine awp_seq ?_ | ((with_reducible refine w_region ?_ ?_); kernel_rfl))
      refine w_cond rfl (fun h => ?_) (fun h => ?_)
      · have hlt : t < 120 := by simp at h; omega
        have hcb := cnt_bound (covS E) t
        repeat (first | ((with_reducible refine k_move ?_); refine m_move rfl ?_) | ((with_reducible refine k_assign ?_); refine m_assign rfl ?_) | ((with_reducible refine k_call ?_); refine x_len tbOk rfl rfl ?_)  | refine e_nrm ?_ | refine x_none rfl ?_ | with_reducible refine q_then ?_ | with_reducible refine awp_seq ?_ | with_reducible refine awp_block ?_ | with_reducible refine awp_skip ?_ | ((with_reducible refine w_region ?_ ?_); kernel_rfl))
        refine awp_loop (ι := Nat) (fun i => i ≤ U.length) (fun i => U.length - i) (fun v i => [(5, .ptr 5 (v 5) 0), (9, .sl 2 (U.map Spn.av)), (10, .v (.int .i64 0)), (11, .sl 2 (U.map Spn.av)), (12, .v (.int .i64 0)), (13, .v (.int .i64 (cnt (covS E) 120))), (14, .v (.int .i64 0)), (15, .v (.int .i64 (cnt (covS E) t))), (68, .v (.int .i64 (t : Nat))), (16, .v (.int .i64 (t : Nat))), (17, .v (.bool (covS (U.take i) t))), (71, .sl 2 (U.map Spn.av)), (72, .v (.int .i64 U.length)), (73, .v (.int .i64 (i : Nat)))]) (fun v i => [(5, .box (bsv (arrB (covS E))))]) ?_ ?_
        · exact ⟨0, Nat.zero_le _, trivial, ⟨rfl, rfl, rfl, rfl, rfl, rfl, rfl, rfl, rfl, rfl, rfl, rfl, congrArg (fun k : Nat => AV.v (.int .i64 k)) (List.length_map ..), rfl, trivial⟩, ⟨rfl, trivial⟩⟩
        rintro v i hi
        repeat (first | ((with_reducible refine k_bin ?_); refine m_binI rfl rfl rfl ?_)  | refine e_nrm ?_ | refine x_none rfl ?_ | with_reducible refine q_then ?_ | with_reducible refine awp_seq ?_ | ((with_reducible refine w_region ?_ ?_); kernel_rfl))
        refine w_cond rfl (fun h => ?_) (fun h => ?_)
        · have hlt2 : i < U.length := by simpa using h
          obtain ⟨x, hx⟩ := some_at hlt2
          have hy := spn_at hx
          have hn := covS_next hx t
          cases hh : covS (U.take i) t
          · rw [hh, Bool.false_or] at hn
            by_cases c1 : x.from_ ≤ (t : Int)
            · have p1 : decide (x.from_ ≤ (t : Int)) = true := decide_eq_true c1
              rw [p1, Bool.true_and] at hn
              repeat (first | ((with_reducible refine k_move ?_); refine m_move rfl ?_) | ((with_reducible refine k_assign ?_); refine m_assign rfl ?_) | ((with_reducible refine k_fieldAddr ?_); refine x_fieldAddr_ptr tbOk rfl rfl rfl rfl ?_) | ((with_reducible refine k_load ?_); refine x_load_one tbOk rfl rfl rfl rfl rfl ?_) | ((with_reducible refine k_load ?_); refine x_load_ep_agg tbOk rfl rfl (Nat.le_of_ble_eq_true rfl) ?_) | ((with_reducible refine k_store ?_); refine m_store tbOk rfl rfl rfl rfl rfl rfl rfl (Nat.le_of_ble_eq_true rfl) rfl ?_) | ((with_reducible refine k_alloc ?_); refine x_alloc tbOk rfl rfl ?_) | ((with_reducible refine k_pick ?_); refine m_pickt rfl (by first | rfl | assumption) rfl ?_) | ((with_reducible refine k_pick ?_); refine m_pickf rfl (by first | rfl | assumption) rfl ?_) | ((with_reducible refine k_indexAddr ?_); refine x_indexAddr_n tbOk rfl rfl rfl rfl (by assumption) ?_) | ((with_reducible refine k_bin ?_); refine x_add_in rfl rfl (by omega) ?_) | ((with_reducible refine k_bin ?_); refine m_binI rfl rfl rfl ?_)  | refine e_nrm ?_ | refine x_none rfl ?_ | refine x_run_t rfl rfl (by first | rfl | assumption) ?_ | refine x_run_f rfl rfl (by first | rfl | assumption) ?_ | with_reducible refine q_then ?_ | with_reducible refine q_block ?_ | with_reducible refine awp_seq ?_ | with_reducible refine awp_block ?_ | with_reducible refine awp_skip ?_ | ((with_reducible refine w_region ?_ ?_); kernel_rfl))
              exact ⟨i + 1, by show i + 1 ≤ U.length; omega, by show U.length - (i + 1) < U.length - i; omega, ⟨rfl, rfl, rfl, rfl, rfl, rfl, rfl, rfl, rfl, rfl, congrArg (fun b : Bool => AV.v (.bool b)) hn.symm, rfl, rfl, rfl, trivial⟩, ⟨rfl, trivial⟩⟩
            · have p1 : decide (x.from_ ≤ (t : Int)) = false := decide_eq_false c1
              rw [p1, Bool.false_and] at hn
              repeat (first | ((with_reducible refine k_move ?_); refine m_move rfl ?_) | ((with_reducible refine k_assign ?_); refine m_assign rfl ?_) | ((with_reducible refine k_fieldAddr ?_); refine x_fieldAddr_ptr tbOk rfl rfl rfl rfl ?_) | ((with_reducible refine k_load ?_); refine x_load_one tbOk rfl rfl rfl rfl rfl ?_) | ((with_reducible refine k_load ?_); refine x_load_ep_agg tbOk rfl rfl (Nat.le_of_ble_eq_true rfl) ?_) | ((with_reducible refine k_store ?_); refine m_store tbOk rfl rfl rfl rfl rfl rfl rfl (Nat.le_of_ble_eq_true rfl) rfl ?_) | ((with_reducible refine k_alloc ?_); refine x_alloc tbOk rfl rfl ?_) | ((with_reducible refine k_pick ?_); refine m_pickf rfl (by first | rfl | assumption) rfl ?_) | ((with_reducible refine k_indexAddr ?_); refine x_indexAddr_n tbOk rfl rfl rfl rfl (by assumption) ?_) | ((with_reducible refine k_bin ?_); refine x_add_in rfl rfl (by omega) ?_) | ((with_reducible refine k_bin ?_); refine m_binI rfl rfl rfl ?_)  | refine e_nrm ?_ | refine x_none rfl ?_ | refine x_skip_t rfl rfl (by first | rfl | assumption) ?_ | refine x_run_f rfl rfl (by first | rfl | assumption) ?_ | with_reducible refine q_then ?_ | with_reducible refine q_block ?_ | with_reducible refine awp_seq ?_ | with_reducible refine awp_block ?_ | with_reducible refine awp_skip ?_ | ((with_reducible refine w_region ?_ ?_); kernel_rfl))
              exact ⟨i + 1, by show i + 1 ≤ U.length; omega, by show U.length - (i + 1) < U.length - i; omega, ⟨rfl, rfl, rfl, rfl, rfl, rfl, rfl, rfl, rfl, rfl, congrArg (fun b : Bool => AV.v (.bool b)) hn.symm, rfl, rfl, rfl, trivial⟩, ⟨rfl, trivial⟩⟩
          · rw [hh, Bool.true_or] at hn
            repeat (first | ((with_reducible refine k_move ?_); refine m_move rfl ?_) | ((with_reducible refine k_assign ?_); refine m_assign rfl ?_) | ((with_reducible refine k_load ?_); refine x_load_ep_agg tbOk rfl rfl (Nat.le_of_ble_eq_true rfl) ?_) | ((with_reducible refine k_store ?_); refine m_store tbOk rfl rfl rfl rfl rfl rfl rfl (Nat.le_of_ble_eq_true rfl) rfl ?_) | ((with_reducible refine k_alloc ?_); refine x_alloc tbOk rfl rfl ?_) | ((with_reducible refine k_pick ?_); refine m_pickt rfl (by first | rfl | assumption) rfl ?_) | ((with_reducible refine k_indexAddr ?_); refine x_indexAddr_n tbOk rfl rfl rfl rfl (by assumption) ?_) | ((with_reducible refine k_bin ?_); refine x_add_in rfl rfl (by omega) ?_)  | refine e_nrm ?_ | refine x_none rfl ?_ | refine x_skip_f rfl rfl (by first | rfl | assumption) ?_ | refine x_skip' rfl rfl rfl ?_ | with_reducible refine q_then ?_ | with_reducible refine q_block ?_ | with_reducible refine awp_seq ?_ | with_reducible refine awp_block ?_ | with_reducible refine awp_skip ?_ | ((with_reducible refine w_region ?_ ?_); kernel_rfl))
            exact ⟨i + 1, by show i + 1 ≤ U.length; omega, by show U.length - (i + 1) < U.length - i; omega, ⟨rfl, rfl, rfl, rfl, rfl, rfl, rfl, rfl, rfl, rfl, congrArg (fun b : Bool => AV.v (.bool b)) hn.symm, rfl, rfl, rfl, trivial⟩, ⟨rfl, trivial⟩⟩
        · have hie : i = U.length := by have : ¬ i < U.length := by simpa using h
                                        omega
          subst hie
          rw [hfin]
          have p1 : (covS E t != covS E t) = false := by simp
          repeat (first | ((with_reducible refine k_move ?_); refine m_move rfl ?_)  | refine x_none rfl ?_ | with_reducible refine q_then ?_ | with_reducible refine q_then_exit ?_ | with_reducible refine awp_seq ?_ | with_reducible refine awp_exit ?_ | ((with_reducible refine q_block_exit ?_ ?_); rfl) | ((with_reducible refine w_region ?_ ?_); kernel_rfl))
          with_reducible refine k_indexAddr ?_
          refine x_indexAddr_arr tbOk arr120 rfl rfl rfl ⟨by omega, by omega⟩ ?_
          repeat (first   | refine x_none rfl ?_  )
          with_reducible refine k_load ?_
          refine x_load_one (y := .v (.bool (covS E t))) tbOk rfl rfl rfl rfl (by rw [Nat.zero_add, Nat.mul_one, Int.toNat_natCast]; exact bsv_at (arrB_at _ hlt)) ?_
          repeat (first | ((with_reducible refine k_move ?_); refine m_move rfl ?_) | ((with_reducible refine k_bin ?_); refine x_neq_b (by exact Tryd.underlying4) rfl rfl ?_)  | refine e_nrm ?_ | refine x_none rfl ?_ | with_reducible refine q_then ?_ | with_reducible refine awp_seq ?_ | with_reducible refine awp_skip ?_ | ((with_reducible refine w_region ?_ ?_); kernel_rfl) | refine w_cond_f rfl (by first | rfl | assumption) ?_)
          with_reducible refine k_indexAddr ?_
          refine x_indexAddr_arr tbOk arr120 rfl rfl rfl ⟨by omega, by omega⟩ ?_
          repeat (first   | refine x_none rfl ?_  )
          with_reducible refine k_load ?_
          refine x_load_one (y := .v (.bool (covS E t))) tbOk rfl rfl rfl rfl (by rw [Nat.zero_add, Nat.mul_one, Int.toNat_natCast]; exact bsv_at (arrB_at _ hlt)) ?_
          repeat (first   | refine e_nrm ?_ | with_reducible refine q_then ?_ )
          cases he : covS E t
          · have hcn : cnt (covS E) (t + 1) = cnt (covS E) t := by rw [cnt, he]; simp
            repeat (first | ((with_reducible refine k_move ?_); refine m_move rfl ?_) | ((with_reducible refine k_bin ?_); refine x_add_in rfl rfl (by omega) ?_)  | refine e_nrm ?_ | refine x_none rfl ?_ | with_reducible refine q_then ?_ | with_reducible refine q_block ?_ | with_reducible refine awp_skip ?_ | ((with_reducible refine w_region ?_ ?_); kernel_rfl) | refine w_cond_f rfl (by first | rfl | assumption) ?_)
            exact ⟨t + 1, by show t + 1 ≤ 120; omega, by show 120 - (t + 1) < 120 - t; omega, ⟨rfl, rfl, rfl, rfl, rfl, rfl, rfl, congrArg (fun k : Int => AV.v (.int .i64 k)) hcn.symm, rfl, trivial⟩, ⟨rfl, trivial⟩⟩
          · have hcn : cnt (covS E) (t + 1) = cnt (covS E) t + 1 := by rw [cnt, he]; simp
            repeat (first | ((with_reducible refine k_move ?_); refine m_move rfl ?_) | ((with_reducible refine k_assign ?_); refine m_assign rfl ?_) | ((with_reducible refine k_bin ?_); refine x_add_in rfl rfl (by omega) ?_)  | refine e_nrm ?_ | refine x_none rfl ?_ | with_reducible refine q_then ?_ | with_reducible refine q_block ?_ | ((with_reducible refine w_region ?_ ?_); kernel_rfl) | refine w_cond_t rfl (by first | rfl | assumption) ?_)
            exact ⟨t + 1, by show t + 1 ≤ 120; omega, by show 120 - (t + 1) < 120 - t; omega, ⟨rfl, rfl, rfl, rfl, rfl, rfl, rfl, congrArg (fun k : Int => AV.v (.int .i64 k)) hcn.symm, rfl, trivial⟩, ⟨rfl, trivial⟩⟩
      · have hte : t = 120 := by simp at h; omega
        subst hte
        repeat (first | ((with_reducible refine k_assign ?_); refine m_assign rfl ?_)  | refine e_nrm ?_ | refine x_none rfl ?_ | with_reducible refine q_then ?_ | with_reducible refine q_then_exit ?_ | with_reducible refine awp_seq ?_ | with_reducible refine awp_block ?_ | with_reducible refine awp_exit ?_ | ((with_reducible refine q_block_exit ?_ ?_); rfl) | ((with_reducible refine w_region ?_ ?_); kernel_rfl))
        refine awp_loop (ι := Nat) (fun i => 1 ≤ i) (fun i => U.length - i) (fun v i => [(9, .sl 2 (U.map Spn.av)), (10, .v (.int .i64 0)), (11, .sl 2 (U.map Spn.av)), (12, .v (.int .i64 0)), (13, .v (.int .i64 (cnt (covS E) 120))), (14, .v (.int .i64 0)), (15, .v (.int .i64 (cnt (covS E) 120))), (20, .v (.int .i64 (i : Nat)))]) (fun v i => []) ?_ ?_
        · exact ⟨1, Nat.le_refl _, trivial, ⟨rfl, rfl, rfl, rfl, rfl, rfl, rfl, rfl, trivial⟩, trivial⟩
        rintro v i hi
        repeat (first | ((with_reducible refine k_move ?_); refine m_move rfl ?_) | ((with_reducible refine k_call ?_); refine x_len tbOk rfl rfl ?_) | ((with_reducible refine k_bin ?_); refine m_binI rfl rfl rfl ?_)  | refine e_nrm ?_ | refine x_none rfl ?_ | with_reducible refine q_then ?_ | with_reducible refine awp_seq ?_ | ((with_reducible refine w_region ?_ ?_); kernel_rfl))
        refine w_cond rfl (fun h => ?_) (fun h => ?_)
        · have hlt2 : i < U.length := by simpa using h
          obtain ⟨k, rfl⟩ : ∃ k, i = k + 1 := ⟨i - 1, by omega⟩
          obtain ⟨x, hx⟩ := some_at (L := U) (k := k) (by omega)
          obtain ⟨y, hy⟩ := some_at (L := U) (k := k + 1) hlt2
          have hs := sep_at hsep hx hy
          have hya := spn_at hy
          have hxa : (U.map Spn.av)[(((k + 1 : Nat) : Int) - 1).toNat]? = some x.av := by
            rw [show (((k + 1 : Nat) : Int) - 1).toNat = k by omega]
            exact spn_at hx
          have p1 : decide (y.from_ ≤ x.until_) = false := decide_eq_false (by omega)
          repeat (first | ((with_reducible refine k_move ?_); refine m_move rfl ?_) | ((with_reducible refine k_assign ?_); refine m_assign rfl ?_) | ((with_reducible refine k_fieldAddr ?_); refine x_fieldAddr_ep tbOk rfl rfl rfl rfl ?_) | ((with_reducible refine k_load ?_); refine x_load_ep_one tbOk rfl rfl rfl ?_) | ((with_reducible refine k_indexAddr ?_); refine x_indexAddr_n tbOk rfl rfl rfl rfl (by assumption) ?_) | ((with_reducible refine k_indexAddr ?_); refine x_indexAddr tbOk rfl rfl rfl rfl (by omega) (by assumption) ?_) | ((with_reducible refine k_bin ?_); refine x_add_in rfl rfl (by omega) ?_) | ((with_reducible refine k_bin ?_); refine x_sub_in rfl rfl (by omega) ?_) | ((with_reducible refine k_bin ?_); refine m_binI rfl rfl rfl ?_)  | refine e_nrm ?_ | refine e_drw (by kernel_rfl) ?_ | refine x_none rfl ?_ | with_reducible refine q_then ?_ | with_reducible refine q_block ?_ | with_reducible refine awp_seq ?_ | with_reducible refine awp_block ?_ | with_reducible refine awp_skip ?_ | ((with_reducible refine w_region ?_ ?_); kernel_rfl) | ((with_reducible refine w_draw mixd ?_ ?_); kernel_rfl) | refine w_cond_f rfl (by first | rfl | assumption) ?_)
          exact ⟨k + 1 + 1, by show 1 ≤ k + 1 + 1; omega, by show U.length - (k + 1 + 1) < U.length - (k + 1); omega, ⟨rfl, rfl, rfl, rfl, rfl, rfl, rfl, rfl, trivial⟩, trivial⟩
        · repeat (first | ((with_reducible refine k_move ?_); refine m_move rfl ?_) | ((with_reducible refine k_pick ?_); refine m_pickt rfl (by first | rfl | assumption) rfl ?_) | ((with_reducible refine k_bin ?_); refine m_binI rfl rfl rfl ?_)  | refine x_none rfl ?_ | refine x_run_t rfl rfl (by first | rfl | assumption) ?_ | with_reducible refine q_then ?_ | with_reducible refine q_then_exit ?_ | with_reducible refine awp_seq ?_ | with_reducible refine awp_exit ?_ | ((with_reducible refine q_block_exit ?_ ?_); rfl) | ((with_reducible refine w_region ?_ ?_); kernel_rfl))
          refine x_call0 (same_A U hUm) (by repeat' (first | exact trivial | exact Ren.v _ | exact Ren.sl _ _ | exact Ren.ep _ | exact Ren.ptr _ _ _ _ rfl | exact Ren.bs _ _ _ _ _ rfl | exact Ren.nil _ | exact Ren.own _ _ _ _ ⟨_, rfl⟩ | refine ren_ag ?_ | refine ren_tu ?_ | refine ren_fn ?_ | refine ⟨?_, ?_⟩)) (by repeat' (first | exact trivial | exact RenB.v _ | exact RenB.sl _ _ | exact RenB.ep _ | exact RenB.ptr _ _ _ _ rfl | refine renb_ag ?_ | refine renb_tu ?_ | refine ⟨?_, ?_⟩)) ?_
          repeat (first | ((with_reducible refine k_move ?_); refine m_move rfl ?_) | ((with_reducible refine k_pick ?_); refine m_pickt rfl (by first | rfl | assumption) rfl ?_) | ((with_reducible refine k_bin ?_); refine m_binI rfl rfl rfl ?_)  | refine x_none rfl ?_ | refine x_run_t rfl rfl (by first | rfl | assumption) ?_  )
          refine x_call0 (awake_A hG) (by repeat' (first | exact trivial | exact Ren.v _ | exact Ren.sl _ _ | exact Ren.ep _ | exact Ren.ptr _ _ _ _ rfl | exact Ren.bs _ _ _ _ _ rfl | exact Ren.nil _ | exact Ren.own _ _ _ _ ⟨_, rfl⟩ | refine ren_ag ?_ | refine ren_tu ?_ | refine ren_fn ?_ | refine ⟨?_, ?_⟩)) (by repeat' (first | exact trivial | exact RenB.v _ | exact RenB.sl _ _ | exact RenB.ep _ | exact RenB.ptr _ _ _ _ rfl | refine renb_ag ?_ | refine renb_tu ?_ | refine ⟨?_, ?_⟩)) ?_
          repeat (first | ((with_reducible refine k_assign ?_); refine m_assign rfl ?_) | ((with_reducible refine k_pick ?_); refine m_pickt rfl (by first | rfl | assumption) rfl ?_)  | refine e_nrm ?_ | refine x_none rfl ?_ | with_reducible refine q_then ?_ | with_reducible refine awp_ret ?_ )
          refine ret_v (by first | exact .inr rfl | exact .inl rfl) rfl rfl ?_
          rfl
  · have q0 : (!decide (((l.map iv).length : Int) ≤ 400)) = true := by simp; omega
    refine acalls_of tbOk (enter_of Tryd.func6 (by kernel_rfl) rfl) Tryd.func6 rfl _ Tryd.ntmps6 (Nat.le_of_ble_eq_true rfl) fun X hX => ?_
    subst hX
    repeat (first | ((with_reducible refine k_move ?_); refine m_move rfl ?_) | ((with_reducible refine k_assign ?_); refine m_assign rfl ?_)  | refine e_nrm ?_ | refine x_none rfl ?_ | with_reducible refine q_then ?_ | with_reducible refine awp_seq ?_ | ((with_reducible refine w_region ?_ ?_); kernel_rfl))
    refine x_call0 (few_A (l.map iv)) (by repeat' (first | exact trivial | exact Ren.v _ | exact Ren.sl _ _ | exact Ren.ep _ | exact Ren.ptr _ _ _ _ rfl | exact Ren.bs _ _ _ _ _ rfl | exact Ren.nil _ | exact Ren.own _ _ _ _ ⟨_, rfl⟩ | refine ren_ag ?_ | refine ren_tu ?_ | refine ren_fn ?_ | refine ⟨?_, ?_⟩)) (by repeat' (first | exact trivial | exact RenB.v _ | exact RenB.sl _ _ | exact RenB.ep _ | exact RenB.ptr _ _ _ _ rfl | refine renb_ag ?_ | refine renb_tu ?_ | refine ⟨?_, ?_⟩)) ?_
    repeat (first | ((with_reducible refine k_un ?_); refine x_not rfl ?_)  | refine e_nrm ?_ | refine x_none rfl ?_ | with_reducible refine q_then ?_ | with_reducible refine awp_seq ?_ | ((with_reducible refine w_region ?_ ?_); kernel_rfl) | refine w_cond_t rfl (by first | rfl | assumption) ?_)
    refine x_call0 (awake_A hG) (by repeat' (first | exact trivial | exact Ren.v _ | exact Ren.sl _ _ | exact Ren.ep _ | exact Ren.ptr _ _ _ _ rfl | exact Ren.bs _ _ _ _ _ rfl | exact Ren.nil _ | exact Ren.own _ _ _ _ ⟨_, rfl⟩ | refine ren_ag ?_ | refine ren_tu ?_ | refine ren_fn ?_ | refine ⟨?_, ?_⟩)) (by repeat' (first | exact trivial | exact RenB.v _ | exact RenB.sl _ _ | exact RenB.ep _ | exact RenB.ptr _ _ _ _ rfl | refine renb_ag ?_ | refine renb_tu ?_ | refine ⟨?_, ?_⟩)) ?_
    repeat (first | ((with_reducible refine k_assign ?_); refine m_assign rfl ?_)  | refine e_nrm ?_ | refine x_none rfl ?_ | with_reducible refine q_then ?_ | with_reducible refine q_then_ret ?_ | with_reducible refine awp_ret ?_ )
    refine ret_v (by first | exact .inr rfl | exact .inl rfl) rfl rfl ?_
    rfl
end Go.Proofs.YtdejgacclogaiaaDoor
