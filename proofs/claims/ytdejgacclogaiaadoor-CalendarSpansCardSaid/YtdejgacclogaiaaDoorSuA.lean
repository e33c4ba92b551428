/- calendar.Union and Minutes, and the references of both, at up to 20 spans, by the abstract machine; conditions: none. -/
import Derived.Test.YtdejgacclogaiaaDoorSuP
import Derived.Test.YtdejgacclogaiaaDoorSnC
import Derived.Test.YtdejgacclogaiaaDoorAbsO
import Derived.Test.YtdejgacclogaiaaDoorAbsY
import Derived.Test.YtdejgacclogaiaaDoorShelf
set_option linter.unusedVariables false
set_option linter.unusedSimpArgs false
namespace Go.Proofs.YtdejgacclogaiaaDoor
open Go Go.RowKit Go.Sort
set_option maxRecDepth 10000
variable {G : Nat → Option (List Value)}
theorem cmpL_eq (a b : Int) : Lib.compareInt a b = cmpI a b := by
  unfold Lib.compareInt cmpI
  split
  · rfl
  · split <;> rfl
set_option maxHeartbeats 1000000 in
theorem closK (x y : Spn) (W : World) : Calls Tryd.prog 47 #[.agg #[.int .i64 x.from_, .int .i64 x.until_], .agg #[.int .i64 y.from_, .int .i64 y.until_]] W fun e w' => e = .returned (.int .i64 (cmpS x y)) ∧ ∃ q os', w' = grow (W.drewN q) os' := by
  have hcon := fun W' => Tryd.cmp_Compare_int x.from_ y.from_ W'
  rw [cmpL_eq] at hcon
  change ∀ W', Calls Tryd.prog 48 _ _ _ at hcon
  unfold cmpS
  generalize cmpI x.from_ y.from_ = r at hcon ⊢
  go_enter Tryd.func47, Tryd.ntmps47
  go_wp2_with (go_at_call 48; refine (hcon _).mono ?_; rintro e w' ⟨rfl, rfl⟩)
  go_ret
  exact ⟨rfl, 0, _, by rw [alloc_eq_grow, alloc_eq_grow, grow_grow]; rfl⟩
theorem aggS (w : World) : (isAgg (Tryd.sortK_ren.t 24)).run Tryd.prog w = .ok true w := run_agg tbOk (t := 48) rfl w
theorem szS (w : World) : (Go.sizeOf (Tryd.sortK_ren.t 24)).run Tryd.prog w = .ok 2 w := run_size tbOk (t := 48) rfl w
theorem sortK_A (L : List Spn) (J : List AV) (hJ : ∀ x ∈ J, x = AV.junk) (hm : L.length ≤ 20) : ACalls Tryd.prog G 46 [.bs (refB + 0) 0 2 L.length, .fn 47 []] [bsC (L.map Spn.av) J] (.tu []) [bsC ((pdqL cmpS L).map Spn.av) J] :=
  acalls_sort (enc := Spn.vals) (cf := cmpS) (k := 2) (enter_of Tryd.func46 (by kernel_rfl) rfl) (fun _ => rfl) (by decide) swo_S L J hJ (by omega) (fun blk cap d w hH hb hs =>
    AnyQ.slices_SortFunc_eq Tryd.sortK 2 aggS szS Spn.vals (fun _ => rfl) (fun x v hv => by simp [Spn.vals] at hv; rcases hv with rfl | rfl <;> rfl) cmpS swo_S 47 #[] blk 0 cap d w (enter_of Tryd.func47 (by kernel_rfl) rfl) (fun _ _ _ _ x y => closK x y _) hH hb hs)
set_option maxHeartbeats 4000000 in
theorem union20_A (L : List Spn) (hm : L.length ≤ 20) : ACalls Tryd.prog G 25 [.sl 2 (L.map Spn.av)] [] (.tu [.sl 2 ((unionP L).1.map Spn.av), .v (.int .i64 (unionP L).2)]) [] := by
  refine acalls_of0 tbOk (enter_of Tryd.func25 (by kernel_rfl) rfl) Tryd.func25 rfl _ Tryd.ntmps25 (Nat.le_of_ble_eq_true rfl) fun X hX hgs => ?_
  subst hX
  repeat (first | ((with_reducible refine k_move ?_); refine m_move rfl ?_) | ((with_reducible refine k_assign ?_); refine m_assign rfl ?_) | ((with_reducible refine k_call ?_); refine x_len tbOk rfl rfl ?_)  | refine e_nrm ?_ | refine x_none rfl ?_ | with_reducible refine q_then ?_ | with_reducible refine awp_seq ?_ | with_reducible refine awp_block ?_ | ((with_reducible refine w_region ?_ ?_); kernel_rfl))
  refine awp_loop (ι := Nat) (fun j => j ≤ L.length ∧ (L.drop j).all validB = L.all validB) (fun j => L.length - j) (fun v j => [(0, .sl 2 (L.map Spn.av)), (10, .sl 2 (L.map Spn.av)), (11, .v (.int .i64 L.length)), (12, .v (.int .i64 j))]) (fun v j => []) ?_ ?_
  · refine ⟨0, ⟨Nat.zero_le _, rfl⟩, trivial, ⟨rfl, rfl, ?_, rfl, trivial⟩, trivial⟩
    exact congrArg (fun k : Nat => AV.v (.int .i64 k)) (List.length_map ..)
  rintro v j ⟨hj, hall⟩
  repeat (first | ((with_reducible refine k_bin ?_); refine m_binI rfl rfl rfl ?_)  | refine e_nrm ?_ | refine x_none rfl ?_ | with_reducible refine q_then ?_ | with_reducible refine awp_seq ?_ | ((with_reducible refine w_region ?_ ?_); kernel_rfl))
  refine w_cond rfl (fun h => ?_) (fun h => ?_)
  · have hlt : j < L.length := by simpa using h
    obtain ⟨x, hx⟩ := some_at hlt
    have hy := spn_at hx
    rw [all_drop hx] at hall
    repeat (first | ((with_reducible refine k_load ?_); refine x_load_agg tbOk rfl rfl rfl rfl (Nat.le_of_ble_eq_true rfl) ?_) | ((with_reducible refine k_load ?_); refine x_load_ep_agg tbOk rfl rfl (Nat.le_of_ble_eq_true rfl) ?_) | ((with_reducible refine k_store ?_); refine m_store tbOk rfl rfl rfl rfl rfl rfl rfl (Nat.le_of_ble_eq_true rfl) rfl ?_) | ((with_reducible refine k_alloc ?_); refine x_alloc tbOk rfl rfl ?_) | ((with_reducible refine k_indexAddr ?_); refine x_indexAddr_n tbOk rfl rfl rfl rfl (by assumption) ?_)  | refine e_nrm ?_ | refine x_none rfl ?_ | with_reducible refine q_then ?_ | with_reducible refine awp_seq ?_ | with_reducible refine awp_block ?_ | with_reducible refine awp_skip ?_ | ((with_reducible refine w_region ?_ ?_); kernel_rfl))
    refine x_call0 (valid_A x) (by repeat' (first | exact trivial | exact Ren.v _ | exact Ren.sl _ _ | exact Ren.ep _ | exact Ren.ptr _ _ _ _ rfl | exact Ren.bs _ _ _ _ _ rfl | exact Ren.nil _ | exact Ren.own _ _ _ _ ⟨_, rfl⟩ | refine ren_ag ?_ | refine ren_tu ?_ | refine ren_fn ?_ | refine ⟨?_, ?_⟩)) (by repeat' (first | exact trivial | exact RenB.v _ | exact RenB.sl _ _ | exact RenB.ep _ | exact RenB.ptr _ _ _ _ rfl | refine renb_ag ?_ | refine renb_tu ?_ | refine ⟨?_, ?_⟩)) ?_
    cases hvx : validB x
    · have e1 : unionP L = ([], 11) := by unfold unionP; rw [← hall, hvx]; rfl
      rw [e1]
      repeat (first | ((with_reducible refine k_assign ?_); refine m_assign rfl ?_) | ((with_reducible refine k_un ?_); refine x_not rfl ?_)  | refine e_nrm ?_ | refine x_none rfl ?_ | with_reducible refine q_then ?_ | with_reducible refine q_then_ret ?_ | with_reducible refine q_block_ret ?_ | with_reducible refine awp_seq ?_ | with_reducible refine awp_ret ?_ | ((with_reducible refine w_region ?_ ?_); kernel_rfl) | refine w_cond_t rfl (by first | rfl | assumption) ?_)
      refine ret0_2 (by first | exact .inr rfl | exact .inl rfl) rfl rfl rfl ?_
      repeat' (first | exact trivial | exact Ren.v _ | exact Ren.sl _ _ | exact Ren.ep _ | exact Ren.ptr _ _ _ _ rfl | exact Ren.bs _ _ _ _ _ rfl | exact Ren.nil _ | exact Ren.own _ _ _ _ ⟨_, rfl⟩ | refine ren_ag ?_ | refine ren_tu ?_ | refine ren_fn ?_ | refine ⟨?_, ?_⟩)
    · rw [hvx, Bool.true_and] at hall
      repeat (first | ((with_reducible refine k_move ?_); refine m_move rfl ?_) | ((with_reducible refine k_un ?_); refine x_not rfl ?_) | ((with_reducible refine k_bin ?_); refine x_add_in rfl rfl (by omega) ?_)  | refine e_nrm ?_ | refine x_none rfl ?_ | with_reducible refine q_then ?_ | with_reducible refine q_block ?_ | with_reducible refine awp_skip ?_ | ((with_reducible refine w_region ?_ ?_); kernel_rfl) | refine w_cond_f rfl (by first | rfl | assumption) ?_)
      exact ⟨j + 1, ⟨by omega, hall⟩, by omega, ⟨rfl, rfl, rfl, rfl, trivial⟩, trivial⟩
  have hje : j = L.length := by have : ¬ j < L.length := by simpa using h
                                omega
  subst hje
  have hval : L.all validB = true := by rw [← hall, List.drop_length]; rfl
  have eu : unionP L = (mrg (pdqL cmpS L), 0) := by rw [mrg_pdq (List.all_eq_true.1 hval)]; unfold unionP; rw [if_pos hval]
  rw [eu]
  repeat (first | ((with_reducible refine k_move ?_); refine m_move rfl ?_)  | refine x_none rfl ?_ | with_reducible refine q_then ?_ | with_reducible refine q_then_exit ?_ | with_reducible refine awp_seq ?_ | with_reducible refine awp_exit ?_ | ((with_reducible refine q_block_exit ?_ ?_); rfl) | ((with_reducible refine w_region ?_ ?_); kernel_rfl))
  with_reducible refine k_call ?_
  refine x_call_own (clone_OP (L.map Spn.av) (spn_one L) (by simp; omega)) (by repeat' (first | exact trivial | exact Ren.v _ | exact Ren.sl _ _ | exact Ren.ep _ | exact Ren.ptr _ _ _ _ rfl | exact Ren.bs _ _ _ _ _ rfl | exact Ren.nil _ | exact Ren.own _ _ _ _ ⟨_, rfl⟩ | refine ren_ag ?_ | refine ren_tu ?_ | refine ren_fn ?_ | refine ⟨?_, ?_⟩)) rfl ?_
  repeat (first | ((with_reducible refine k_assign ?_); refine m_assign rfl ?_) | refine e_nrm ?_ | refine x_none rfl ?_ | with_reducible refine q_then ?_ | with_reducible refine awp_seq ?_)
  by_cases hL : L = []
  · subst hL
    rw [show pdqL cmpS ([] : List Spn) = [] from List.eq_nil_of_length_eq_zero (pdqL_len swo_S [])]
    refine awp_freeze_at (s := 21) [(0, .sl 2 [])] [] rfl ⟨.inl (.inr ⟨rfl, rfl⟩), trivial⟩ trivial ?_
    repeat (first | ((with_reducible refine k_move ?_); refine m_move rfl ?_)  | refine x_none rfl ?_  | ((with_reducible refine w_region ?_ ?_); kernel_rfl))
    refine x_call0 (sortf0_A) (by repeat' (first | exact trivial | exact Ren.v _ | exact Ren.sl _ _ | exact Ren.ep _ | exact Ren.ptr _ _ _ _ rfl | exact Ren.bs _ _ _ _ _ rfl | exact Ren.nil _ | exact Ren.own _ _ _ _ ⟨_, rfl⟩ | refine ren_ag ?_ | refine ren_tu ?_ | refine ren_fn ?_ | refine ⟨?_, ?_⟩)) (by repeat' (first | exact trivial | exact RenB.v _ | exact RenB.sl _ _ | exact RenB.ep _ | exact RenB.ptr _ _ _ _ rfl | refine renb_ag ?_ | refine renb_tu ?_ | refine ⟨?_, ?_⟩)) ?_
    repeat (first | ((with_reducible refine k_move ?_); refine m_move rfl ?_) | ((with_reducible refine k_assign ?_); refine m_assign rfl ?_) | ((with_reducible refine k_call ?_); refine x_len tbOk rfl rfl ?_)  | refine e_nrm ?_ | refine x_none rfl ?_ | with_reducible refine q_then ?_ | with_reducible refine awp_seq ?_ | with_reducible refine awp_block ?_ | ((with_reducible refine w_region ?_ ?_); kernel_rfl))
    refine awp_loop (ι := Unit) (fun i => True) (fun i => 0) (fun v i => [(6, .v (.slice none 0 0)), (24, .sl 2 []), (25, .v (.int .i64 0)), (26, .v (.int .i64 0))]) (fun v i => []) ?_ ?_
    · exact ⟨(), trivial, trivial, ⟨rfl, rfl, rfl, rfl, trivial⟩, trivial⟩
    rintro v ⟨⟩ -
    repeat (first | ((with_reducible refine k_move ?_); refine m_move rfl ?_) | ((with_reducible refine k_assign ?_); refine m_assign rfl ?_) | ((with_reducible refine k_bin ?_); refine m_binI rfl rfl rfl ?_)  | refine e_nrm ?_ | refine x_none rfl ?_ | with_reducible refine q_then ?_ | with_reducible refine q_then_exit ?_ | with_reducible refine awp_seq ?_ | with_reducible refine awp_exit ?_ | with_reducible refine awp_ret ?_ | ((with_reducible refine q_block_exit ?_ ?_); rfl) | ((with_reducible refine w_region ?_ ?_); kernel_rfl) | refine w_cond_f rfl (by first | rfl | assumption) ?_)
    refine ret0_2 (by first | exact .inr rfl | exact .inl rfl) rfl rfl rfl ?_
    repeat' (first | exact trivial | exact Ren.v _ | exact Ren.sl _ _ | exact Ren.ep _ | exact Ren.ptr _ _ _ _ rfl | exact Ren.bs _ _ _ _ _ rfl | exact Ren.nil _ | exact Ren.own _ _ _ _ ⟨_, rfl⟩ | refine ren_ag ?_ | refine ren_tu ?_ | refine ren_fn ?_ | refine ⟨?_, ?_⟩)
  refine awp_buf_box (k := v 21 + 1) (L := L.map Spn.av) [(0, .bs 21 (v 21 + 1 + 1) 2 (L.map Spn.av).length)] rfl (by rw [List.length_map]; exact List.length_pos_iff.2 hL) (fun J => ⟨.inl (.inr ⟨rfl, rfl⟩), trivial⟩) (fun J hJ => ?_)
  rw [List.length_map]
  repeat (first | ((with_reducible refine k_move ?_); refine m_move rfl ?_)  | refine x_none rfl ?_  | ((with_reducible refine w_region ?_ ?_); kernel_rfl))
  with_reducible refine k_call ?_
  refine x_call (y := .tu []) (ss := [(21, (v 21 + 1 + 1))]) (sortK_A L J hJ hm) (by repeat' (first | exact trivial | exact Ren.v _ | exact Ren.sl _ _ | exact Ren.ep _ | exact Ren.ptr _ _ _ _ rfl | exact Ren.bs _ _ _ _ _ rfl | exact Ren.nil _ | exact Ren.own _ _ _ _ ⟨_, rfl⟩ | refine ren_ag ?_ | refine ren_tu ?_ | refine ren_fn ?_ | refine ⟨?_, ?_⟩)) (by simp) (in1_pj rfl (bsC_pj (spn_pu _) hJ)) rfl (back1_pj (bsC_pj (spn_pu _) hJ)) (by repeat' (first | exact trivial | exact RenB.v _ | exact RenB.sl _ _ | exact RenB.ep _ | exact RenB.ptr _ _ _ _ rfl | refine renb_ag ?_ | refine renb_tu ?_ | refine ⟨?_, ?_⟩)) ?_
  repeat (first  | refine e_nrm ?_ | with_reducible refine q_then ?_ | with_reducible refine awp_seq ?_)
  refine awp_box_sl (s := 21) (k := v 21 + 1 + 1) (L := (pdqL cmpS L).map Spn.av) (J := J) (sz := 2) hgs [(0, .sl 2 ((pdqL cmpS L).map Spn.av))] rfl (spn_sz _) (by decide) (spn_pu _) (by rw [List.length_map, pdqL_len swo_S]; unfold maxLen; omega) ⟨.inl (.inr ⟨?_, rfl⟩), trivial⟩ ?_
  · show AV.bs 21 (v 21 + 1 + 1) 2 L.length = _
    rw [List.length_map, pdqL_len swo_S]
  repeat (first | ((with_reducible refine k_move ?_); refine m_move rfl ?_) | ((with_reducible refine k_assign ?_); refine m_assign rfl ?_) | ((with_reducible refine k_call ?_); refine x_len tbOk rfl rfl ?_)  | refine e_nrm ?_ | refine x_none rfl ?_ | with_reducible refine q_then ?_ | with_reducible refine awp_seq ?_ | with_reducible refine awp_block ?_ | ((with_reducible refine w_region ?_ ?_); kernel_rfl))
  refine awp_own (t := 6) (s := 60) 48 2 rfl rfl ?_
  refine awp_loop (ι := Nat × List Spn) (fun i => i.1 ≤ L.length ∧ i.2.length ≤ i.1 ∧ mrgFrom i.2 ((pdqL cmpS L).drop i.1) = mrg (pdqL cmpS L)) (fun i => L.length - i.1) (fun v i => [(6, .own 60 (v 60)), (24, .sl 2 ((pdqL cmpS L).map Spn.av)), (25, .v (.int .i64 L.length)), (26, .v (.int .i64 (i.1 : Nat)))]) (fun v i => [(60, .buf 48 2 (i.2.map Spn.av))]) ?_ ?_
  · refine ⟨(0, []), ⟨Nat.zero_le _, Nat.le_refl _, rfl⟩, trivial, ⟨rfl, rfl, ?_, rfl, trivial⟩, ⟨rfl, trivial⟩⟩
    exact congrArg (fun k : Nat => AV.v (.int .i64 k)) ((List.length_map ..).trans (pdqL_len swo_S L))
  rintro v ⟨j, A⟩ ⟨hj, hA, hf⟩
  simp only at hj hA hf
  dsimp only
  repeat (first | ((with_reducible refine k_bin ?_); refine m_binI rfl rfl rfl ?_)  | refine e_nrm ?_ | refine x_none rfl ?_ | with_reducible refine q_then ?_ | with_reducible refine awp_seq ?_ | ((with_reducible refine w_region ?_ ?_); kernel_rfl))
  refine w_cond rfl (fun h => ?_) (fun h => ?_)
  · have hlt : j < (pdqL cmpS L).length := by rw [pdqL_len swo_S]; simpa using h
    obtain ⟨x, hx⟩ := some_at hlt
    have hlt' : j < L.length := by rwa [pdqL_len swo_S] at hlt
    have hy := spn_at hx
    rw [drop_at hx] at hf
    rcases List.eq_nil_or_concat A with rfl | ⟨B, q, rfl⟩
    · repeat (first | ((with_reducible refine k_move ?_); refine m_move rfl ?_) | ((with_reducible refine k_assign ?_); refine m_assign rfl ?_) | ((with_reducible refine k_load ?_); refine x_load_agg tbOk rfl rfl rfl rfl (Nat.le_of_ble_eq_true rfl) ?_) | ((with_reducible refine k_load ?_); refine x_load_ep_agg tbOk rfl rfl (Nat.le_of_ble_eq_true rfl) ?_) | ((with_reducible refine k_store ?_); refine m_store tbOk rfl rfl rfl rfl rfl rfl rfl (Nat.le_of_ble_eq_true rfl) rfl ?_) | ((with_reducible refine k_alloc ?_); refine x_alloc tbOk rfl rfl ?_) | ((with_reducible refine k_pick ?_); refine m_pickf rfl (by first | rfl | assumption) rfl ?_) | ((with_reducible refine k_indexAddr ?_); refine x_indexAddr_n tbOk rfl rfl rfl rfl (by assumption) ?_) | ((with_reducible refine k_call ?_); refine x_len_own tbOk rfl rfl rfl rfl ?_) | ((with_reducible refine k_bin ?_); refine m_binI rfl rfl rfl ?_) | ((with_reducible refine k_buildSlice ?_); refine m_buildSlice tbOk rfl rfl rfl rfl rfl (by omega) rfl rfl rfl ?_) | refine e_nrm ?_ | refine e_drw (by kernel_rfl) ?_ | refine x_none rfl ?_ | refine x_skip_t rfl rfl (by first | rfl | assumption) ?_ | with_reducible refine q_then ?_ | with_reducible refine awp_seq ?_ | with_reducible refine awp_block ?_ | with_reducible refine awp_skip ?_ | ((with_reducible refine w_region ?_ ?_); kernel_rfl) | ((with_reducible refine w_draw mixd ?_ ?_); kernel_rfl) | refine w_cond_f rfl (by first | rfl | assumption) ?_)
      have hN : ∀ y ∈ [x.av], allOne y.cells = true := fun y hy => by simp at hy; subst hy; rfl
      refine x_append_own tbOk rfl rfl rfl rfl rfl (by decide) rfl rfl rfl rfl rfl hN (by simp) (by simp) ?_
      repeat (first | ((with_reducible refine k_move ?_); refine m_move rfl ?_) | ((with_reducible refine k_assign ?_); refine m_assign rfl ?_) | ((with_reducible refine k_bin ?_); refine x_add_in rfl rfl (by omega) ?_)  | refine e_nrm ?_ | refine x_none rfl ?_ | with_reducible refine q_then ?_ | with_reducible refine q_block ?_ | ((with_reducible refine w_region ?_ ?_); kernel_rfl))
      exact ⟨(j + 1, [x]), ⟨by show j + 1 ≤ _; omega, by simp, hf⟩, by show L.length - (j + 1) < L.length - j; omega, ⟨rfl, rfl, rfl, rfl, trivial⟩, ⟨rfl, trivial⟩⟩
    · rw [List.concat_eq_append] at *
      have hlen : (((B ++ [q]).map Spn.av).length : Int) - 1 = (B.length : Int) := by simp
      have hlp : 0 < ((B ++ [q]).map Spn.av).length := by simp
      have hle : ((B ++ [q]).map Spn.av).length ≤ 20 := by simp at hA ⊢; omega
      have p1 : decide ((B.length : Int) ≥ 0) = true := by simp
      have hoff : (B.length : Int).toNat * 2 + 1 = B.length * 2 + 1 := by rw [Int.toNat_natCast]
      rw [mrgFrom_snoc] at hf
      repeat (first | ((with_reducible refine k_move ?_); refine m_move rfl ?_) | ((with_reducible refine k_assign ?_); refine m_assign rfl ?_) | ((with_reducible refine k_load ?_); refine x_load_ep_agg tbOk rfl rfl (Nat.le_of_ble_eq_true rfl) ?_) | ((with_reducible refine k_store ?_); refine m_store tbOk rfl rfl rfl rfl rfl rfl rfl (Nat.le_of_ble_eq_true rfl) rfl ?_) | ((with_reducible refine k_alloc ?_); refine x_alloc tbOk rfl rfl ?_) | ((with_reducible refine k_indexAddr ?_); refine x_indexAddr_n tbOk rfl rfl rfl rfl (by assumption) ?_) | ((with_reducible refine k_call ?_); refine x_len_own tbOk rfl rfl rfl rfl ?_) | ((with_reducible refine k_bin ?_); refine x_sub_in rfl rfl (by omega) ?_) | ((with_reducible refine k_bin ?_); refine m_binI rfl rfl rfl ?_)  | refine e_nrm ?_ | refine x_none rfl ?_ | with_reducible refine q_then ?_ | with_reducible refine awp_seq ?_ | with_reducible refine awp_block ?_ | with_reducible refine awp_skip ?_ | ((with_reducible refine w_region ?_ ?_); kernel_rfl) | ((with_reducible refine w_draw mixd ?_ ?_); kernel_rfl))
      rw [hlen]
      repeat (first | ((with_reducible refine k_move ?_); refine m_move rfl ?_) | ((with_reducible refine k_fieldAddr ?_); refine x_fieldAddr_ptr tbOk rfl rfl rfl rfl ?_) | ((with_reducible refine k_load ?_); refine x_load_one tbOk rfl rfl rfl rfl rfl ?_)  | refine x_run_t rfl rfl (by first | rfl | assumption) ?_  )
      with_reducible refine k_indexAddr ?_
      refine x_indexAddr_own tbOk rfl rfl rfl rfl rfl rfl ⟨by omega, by simp; omega⟩ ?_
      repeat (first | ((with_reducible refine k_fieldAddr ?_); refine x_fieldAddr_po tbOk rfl rfl rfl rfl ?_)  | refine x_run_t rfl rfl (by first | rfl | assumption) ?_  )
      with_reducible refine k_load ?_
      refine x_load_po_one tbOk rfl rfl rfl rfl (by rw [hoff]; exact (flat_last B q).2) hlp ?_
      repeat (first | ((with_reducible refine k_pick ?_); refine m_pickt rfl (by first | rfl | assumption) rfl ?_) | ((with_reducible refine k_bin ?_); refine m_binI rfl rfl rfl ?_)  | refine e_drw (by kernel_rfl) ?_ | refine x_none rfl ?_ | refine x_run_t rfl rfl (by first | rfl | assumption) ?_ | with_reducible refine q_then ?_ )
      refine w_cond rfl (fun hc => ?_) (fun hc => ?_)
      · have hc' : x.from_ ≤ q.until_ := by simpa using hc
        rw [mrgGo, if_pos hc'] at hf
        repeat (first | ((with_reducible refine k_move ?_); refine m_move rfl ?_)  | refine x_none rfl ?_ | with_reducible refine awp_seq ?_ | ((with_reducible refine w_draw mixd ?_ ?_); kernel_rfl))
        with_reducible refine k_indexAddr ?_
        refine x_indexAddr_own tbOk rfl rfl rfl rfl rfl rfl ⟨by omega, by simp; omega⟩ ?_
        repeat (first | ((with_reducible refine k_fieldAddr ?_); refine x_fieldAddr_po tbOk rfl rfl rfl rfl ?_)  | refine x_none rfl ?_  )
        with_reducible refine k_load ?_
        refine x_load_po_one tbOk rfl rfl rfl rfl (by rw [hoff]; exact (flat_last B q).2) hlp ?_
        repeat (first | ((with_reducible refine k_fieldAddr ?_); refine x_fieldAddr_ptr tbOk rfl rfl rfl rfl ?_) | ((with_reducible refine k_load ?_); refine x_load_one tbOk rfl rfl rfl rfl rfl ?_)  | refine x_none rfl ?_  )
        (with_reducible refine k_call ?_); refine x_max rfl rfl ?_
        repeat (first   | refine x_none rfl ?_  )
        with_reducible refine k_indexAddr ?_
        refine x_indexAddr_own tbOk rfl rfl rfl rfl rfl rfl ⟨by omega, by simp; omega⟩ ?_
        repeat (first | ((with_reducible refine k_fieldAddr ?_); refine x_fieldAddr_po tbOk rfl rfl rfl rfl ?_)  | refine x_none rfl ?_  )
        with_reducible refine k_store ?_
        refine x_store_po (L' := (B ++ [(⟨q.from_, max q.until_ x.until_⟩ : Spn)]).map Spn.av) tbOk rfl rfl rfl rfl rfl rfl rfl rfl rfl ?_ ?_ (spn_sz _) ?_ ?_
        · rw [hoff, flat_len2]; simp; omega
        · simp
        · rw [hoff]; exact flat_put B q _
        repeat (first | ((with_reducible refine k_move ?_); refine m_move rfl ?_) | ((with_reducible refine k_bin ?_); refine x_add_in rfl rfl (by omega) ?_)  | refine e_nrm ?_ | refine e_drw (by kernel_rfl) ?_ | refine x_none rfl ?_ | with_reducible refine q_then ?_ | with_reducible refine q_then_exit ?_ | with_reducible refine awp_exit ?_ | ((with_reducible refine q_block_exit ?_ ?_); rfl) | ((with_reducible refine w_region ?_ ?_); kernel_rfl))
        exact ⟨(j + 1, B ++ [(⟨q.from_, max q.until_ x.until_⟩ : Spn)]), ⟨by show j + 1 ≤ _; omega, by simp at hA ⊢; omega, by rw [mrgFrom_snoc]; exact hf⟩, by show L.length - (j + 1) < L.length - j; omega, ⟨rfl, rfl, rfl, rfl, trivial⟩, ⟨rfl, trivial⟩⟩
      · have hc' : ¬ x.from_ ≤ q.until_ := by simpa using hc
        rw [mrgGo, if_neg hc'] at hf
        have hN : ∀ y ∈ [x.av], allOne y.cells = true := fun y hy => by simp at hy; subst hy; rfl
        repeat (first | ((with_reducible refine k_move ?_); refine m_move rfl ?_) | ((with_reducible refine k_load ?_); refine x_load_agg tbOk rfl rfl rfl rfl (Nat.le_of_ble_eq_true rfl) ?_) | ((with_reducible refine k_buildSlice ?_); refine m_buildSlice tbOk rfl rfl rfl rfl rfl (by omega) rfl rfl rfl ?_) | refine x_none rfl ?_ | with_reducible refine q_then ?_ | with_reducible refine awp_skip ?_ | ((with_reducible refine w_region ?_ ?_); kernel_rfl))
        refine x_append_own tbOk rfl rfl rfl rfl rfl (by decide) rfl rfl rfl rfl rfl hN (by simp at hA ⊢; omega) (by simp at hA ⊢; omega) ?_
        repeat (first | ((with_reducible refine k_move ?_); refine m_move rfl ?_) | ((with_reducible refine k_assign ?_); refine m_assign rfl ?_) | ((with_reducible refine k_bin ?_); refine x_add_in rfl rfl (by omega) ?_)  | refine e_nrm ?_ | refine x_none rfl ?_ | with_reducible refine q_then ?_ | with_reducible refine q_block ?_ | ((with_reducible refine w_region ?_ ?_); kernel_rfl))
        refine ⟨(j + 1, B ++ [q] ++ [x]), ⟨by show j + 1 ≤ _; omega, by simp at hA ⊢; omega, by rw [mrgFrom_snoc, List.append_assoc]; exact hf⟩, by show L.length - (j + 1) < L.length - j; omega, ⟨rfl, rfl, rfl, rfl, trivial⟩, ⟨hc_buf ?_, trivial⟩⟩
        show (B ++ [q]).map Spn.av ++ [x.av] = (B ++ [q] ++ [x]).map Spn.av
        simp
  · have hje : j = L.length := by have : ¬ j < L.length := by simpa using h
                                  omega
    subst hje
    rw [List.drop_of_length_le (by rw [pdqL_len swo_S]; omega)] at hf
    have hA2 : A = mrg (pdqL cmpS L) := by
      rw [← hf]
      unfold mrgFrom
      cases hg : A.getLast? with
      | none => rw [List.getLast?_eq_none_iff.1 hg]; rfl
      | some q =>
        obtain ⟨B, rfl⟩ := List.getLast?_eq_some_iff.1 hg
        simp [mrgGo]
    subst hA2
    repeat (first | ((with_reducible refine k_move ?_); refine m_move rfl ?_) | ((with_reducible refine k_assign ?_); refine m_assign rfl ?_)  | refine e_nrm ?_ | refine x_none rfl ?_ | with_reducible refine q_then ?_ | with_reducible refine q_then_exit ?_ | with_reducible refine awp_seq ?_ | with_reducible refine awp_exit ?_ | with_reducible refine awp_ret ?_ | ((with_reducible refine q_block_exit ?_ ?_); rfl) | ((with_reducible refine w_region ?_ ?_); kernel_rfl))
    refine ret0_2 (by first | exact .inr rfl | exact .inl rfl) rfl rfl rfl ?_
    repeat' (first | exact trivial | exact Ren.v _ | exact Ren.sl _ _ | exact Ren.ep _ | exact Ren.ptr _ _ _ _ rfl | exact Ren.bs _ _ _ _ _ rfl | exact Ren.nil _ | exact Ren.own _ _ _ _ ⟨_, rfl⟩ | refine ren_ag ?_ | refine ren_tu ?_ | refine ren_fn ?_ | refine ⟨?_, ?_⟩)
set_option maxHeartbeats 4000000 in
theorem minutes20_A (L : List Spn) (hm : L.length ≤ 20) : ACalls Tryd.prog G 26 [.sl 2 (L.map Spn.av)] [] (.tu [.v (.int .i64 (lenS (unionP L).1)), .v (.int .i64 (unionP L).2)]) [] := by
  have hv := union_valid L
  have hul := union_len L
  refine acalls_of tbOk (enter_of Tryd.func26 (by kernel_rfl) rfl) Tryd.func26 rfl _ Tryd.ntmps26 (Nat.le_of_ble_eq_true rfl) fun X hX => ?_
  subst hX
  repeat (first | ((with_reducible refine k_move ?_); refine m_move rfl ?_) | ((with_reducible refine k_assign ?_); refine m_assign rfl ?_)  | refine e_nrm ?_ | refine x_none rfl ?_ | with_reducible refine q_then ?_ | with_reducible refine awp_seq ?_ | ((with_reducible refine w_region ?_ ?_); kernel_rfl))
  refine x_call0 (union20_A L hm) (by repeat' (first | exact trivial | exact Ren.v _ | exact Ren.sl _ _ | exact Ren.ep _ | exact Ren.ptr _ _ _ _ rfl | exact Ren.bs _ _ _ _ _ rfl | exact Ren.nil _ | exact Ren.own _ _ _ _ ⟨_, rfl⟩ | refine ren_ag ?_ | refine ren_tu ?_ | refine ren_fn ?_ | refine ⟨?_, ?_⟩)) (by repeat' (first | exact trivial | exact RenB.v _ | exact RenB.sl _ _ | exact RenB.ep _ | exact RenB.ptr _ _ _ _ rfl | refine renb_ag ?_ | refine renb_tu ?_ | refine ⟨?_, ?_⟩)) ?_
  repeat (first | ((with_reducible refine k_move ?_); refine m_move rfl ?_) | ((with_reducible refine k_assign ?_); refine m_assign rfl ?_) | ((with_reducible refine k_extract ?_); refine x_extract rfl rfl ?_) | ((with_reducible refine k_call ?_); refine x_len tbOk rfl rfl ?_)  | refine e_nrm ?_ | refine x_none rfl ?_ | with_reducible refine q_then ?_ | with_reducible refine awp_seq ?_ | with_reducible refine awp_block ?_ | ((with_reducible refine w_region ?_ ?_); kernel_rfl))
  refine awp_loop (ι := Nat) (fun j => j ≤ (unionP L).1.length) (fun j => (unionP L).1.length - j) (fun v j => [(5, .v (.int .i64 (unionP L).2)), (6, .v (.int .i64 (lenS ((unionP L).1.take j)))), (14, .sl 2 ((unionP L).1.map Spn.av)), (15, .v (.int .i64 (unionP L).1.length)), (16, .v (.int .i64 j))]) (fun v j => []) ?_ ?_
  · refine ⟨0, Nat.zero_le _, trivial, ⟨rfl, rfl, rfl, ?_, rfl, trivial⟩, trivial⟩
    exact congrArg (fun k : Nat => AV.v (.int .i64 k)) (List.length_map ..)
  rintro v j hj
  repeat (first | ((with_reducible refine k_bin ?_); refine m_binI rfl rfl rfl ?_)  | refine e_nrm ?_ | refine x_none rfl ?_ | with_reducible refine q_then ?_ | with_reducible refine awp_seq ?_ | ((with_reducible refine w_region ?_ ?_); kernel_rfl))
  refine w_cond rfl (fun h => ?_) (fun h => ?_)
  · have hlt : j < (unionP L).1.length := by simpa using h
    obtain ⟨x, hx⟩ := some_at hlt
    have hy := spn_at hx
    have hxv := validB_iff.1 (hv x (List.mem_of_getElem? hx))
    have ht := lenS_take hv j
    repeat (first | ((with_reducible refine k_move ?_); refine m_move rfl ?_) | ((with_reducible refine k_assign ?_); refine m_assign rfl ?_) | ((with_reducible refine k_fieldAddr ?_); refine x_fieldAddr_ptr tbOk rfl rfl rfl rfl ?_) | ((with_reducible refine k_load ?_); refine x_load_one tbOk rfl rfl rfl rfl rfl ?_) | ((with_reducible refine k_load ?_); refine x_load_ep_agg tbOk rfl rfl (Nat.le_of_ble_eq_true rfl) ?_) | ((with_reducible refine k_store ?_); refine m_store tbOk rfl rfl rfl rfl rfl rfl rfl (Nat.le_of_ble_eq_true rfl) rfl ?_) | ((with_reducible refine k_alloc ?_); refine x_alloc tbOk rfl rfl ?_) | ((with_reducible refine k_indexAddr ?_); refine x_indexAddr_n tbOk rfl rfl rfl rfl (by assumption) ?_) | ((with_reducible refine k_bin ?_); refine x_add_in rfl rfl (by omega) ?_) | ((with_reducible refine k_bin ?_); refine x_sub_in rfl rfl (by omega) ?_)  | refine e_nrm ?_ | refine x_none rfl ?_ | with_reducible refine q_then ?_ | with_reducible refine q_block ?_ | with_reducible refine awp_seq ?_ | with_reducible refine awp_block ?_ | with_reducible refine awp_skip ?_ | ((with_reducible refine w_region ?_ ?_); kernel_rfl))
    refine ⟨j + 1, by show j + 1 ≤ (unionP L).1.length; omega, by show (unionP L).1.length - (j + 1) < (unionP L).1.length - j; omega, ⟨rfl, ?_, rfl, rfl, rfl, trivial⟩, trivial⟩
    exact congrArg (fun k : Int => AV.v (.int .i64 k)) (lenS_next hx).symm
  · have hje : j = (unionP L).1.length := by have : ¬ j < (unionP L).1.length := by simpa using h
                                             omega
    subst hje
    have ht : lenS ((unionP L).1.take (unionP L).1.length) = lenS (unionP L).1 := by rw [List.take_length]
    repeat (first | ((with_reducible refine k_move ?_); refine m_move rfl ?_) | ((with_reducible refine k_assign ?_); refine m_assign rfl ?_)  | refine e_nrm ?_ | refine x_none rfl ?_ | with_reducible refine q_then ?_ | with_reducible refine q_then_exit ?_ | with_reducible refine awp_seq ?_ | with_reducible refine awp_exit ?_ | with_reducible refine awp_ret ?_ | ((with_reducible refine q_block_exit ?_ ?_); rfl) | ((with_reducible refine w_region ?_ ?_); kernel_rfl))
    refine ret0_2 (by first | exact .inr rfl | exact .inl rfl) rfl rfl rfl ?_
    rw [ht]
    repeat' (first | exact trivial | exact Ren.v _ | exact Ren.sl _ _ | exact Ren.ep _ | exact Ren.ptr _ _ _ _ rfl | exact Ren.bs _ _ _ _ _ rfl | exact Ren.nil _ | exact Ren.own _ _ _ _ ⟨_, rfl⟩ | refine ren_ag ?_ | refine ren_tu ?_ | refine ren_fn ?_ | refine ⟨?_, ?_⟩)

theorem absorb_at {s : Spn} {R O : List Spn} {k : Nat} {o : Spn} (h : O[k]? = some o) : absorb s R (O.drop k) = if o.until_ < s.from_ ∨ s.until_ < o.from_ then absorb s (R ++ [o]) (O.drop (k + 1)) else absorb ⟨min s.from_ o.from_, max s.until_ o.until_⟩ R (O.drop (k + 1)) := by rw [drop_at h]; rfl
theorem atP_at {s : Spn} {R : List Spn} {k : Nat} {o : Spn} (h : R[k]? = some o) : atP s (R.drop k) = if o.from_ < s.from_ then atP s (R.drop (k + 1)) + 1 else 0 := by rw [drop_at h]; rfl
theorem atP_le (s : Spn) : ∀ R : List Spn, atP s R ≤ R.length
  | [] => Nat.le_refl _
  | o :: l => by
    rw [atP]
    have := atP_le s l
    split
    · simp; omega
    · omega
theorem fold_next {L : List Spn} {k : Nat} {x : Spn} (h : L[k]? = some x) : (L.take (k + 1)).foldl rstep [] = rstep ((L.take k).foldl rstep []) x := by rw [take_at h, List.foldl_append]; rfl
set_option maxHeartbeats 4000000 in
theorem runion_A (L : List Spn) (hm : L.length ≤ 20) : ACalls Tryd.prog G 28 [.sl 2 (L.map Spn.av)] [] (.tu [.sl 2 ((unionP L).1.map Spn.av), .v (.int .i64 (unionP L).2)]) [] := by
  have hml : (L.map Spn.av).length = L.length := by simp
  refine acalls_of tbOk (enter_of Tryd.func28 (by kernel_rfl) rfl) Tryd.func28 rfl _ Tryd.ntmps28 (Nat.le_of_ble_eq_true rfl) fun X hX => ?_
  subst hX
  repeat (first | ((with_reducible refine k_assign ?_); refine m_assign rfl ?_)  | refine e_nrm ?_ | refine x_none rfl ?_ | with_reducible refine q_then ?_ | with_reducible refine awp_seq ?_ | with_reducible refine awp_block ?_ | ((with_reducible refine w_region ?_ ?_); kernel_rfl))
  refine awp_loop (ι := Nat) (fun j => j ≤ L.length ∧ (L.drop j).all validB = L.all validB) (fun j => L.length - j) (fun v j => [(0, .sl 2 (L.map Spn.av)), (4, .v (.slice none 0 0)), (5, .v (.int .i64 (j : Nat)))]) (fun v j => []) ?_ ?_
  · exact ⟨0, ⟨Nat.zero_le _, rfl⟩, trivial, ⟨rfl, rfl, rfl, trivial⟩, trivial⟩
  rintro v j ⟨hj, hall⟩
  repeat (first | ((with_reducible refine k_move ?_); refine m_move rfl ?_) | ((with_reducible refine k_call ?_); refine x_len tbOk rfl rfl ?_) | ((with_reducible refine k_bin ?_); refine m_binI rfl rfl rfl ?_)  | refine e_nrm ?_ | refine x_none rfl ?_ | with_reducible refine q_then ?_ | with_reducible refine awp_seq ?_ | ((with_reducible refine w_region ?_ ?_); kernel_rfl))
  refine w_cond rfl (fun h => ?_) (fun h => ?_)
  · have hlt : j < L.length := by simp at h; omega
    obtain ⟨x, hx⟩ := some_at hlt
    have hy := spn_at hx
    rw [all_drop hx] at hall
    repeat (first | ((with_reducible refine k_move ?_); refine m_move rfl ?_) | ((with_reducible refine k_load ?_); refine x_load_ep_agg tbOk rfl rfl (Nat.le_of_ble_eq_true rfl) ?_) | ((with_reducible refine k_indexAddr ?_); refine x_indexAddr_n tbOk rfl rfl rfl rfl (by assumption) ?_)  | refine x_none rfl ?_ | with_reducible refine q_then ?_ | with_reducible refine awp_seq ?_ | with_reducible refine awp_block ?_ | with_reducible refine awp_skip ?_ | ((with_reducible refine w_region ?_ ?_); kernel_rfl))
    refine x_call0 (rvalid_A x) (by repeat' (first | exact trivial | exact Ren.v _ | exact Ren.sl _ _ | exact Ren.ep _ | exact Ren.ptr _ _ _ _ rfl | exact Ren.bs _ _ _ _ _ rfl | exact Ren.nil _ | exact Ren.own _ _ _ _ ⟨_, rfl⟩ | refine ren_ag ?_ | refine ren_tu ?_ | refine ren_fn ?_ | refine ⟨?_, ?_⟩)) (by repeat' (first | exact trivial | exact RenB.v _ | exact RenB.sl _ _ | exact RenB.ep _ | exact RenB.ptr _ _ _ _ rfl | refine renb_ag ?_ | refine renb_tu ?_ | refine ⟨?_, ?_⟩)) ?_
    cases hvx : validB x
    · have e1 : unionP L = ([], 11) := by unfold unionP; rw [← hall, hvx]; rfl
      rw [e1]
      repeat (first | ((with_reducible refine k_assign ?_); refine m_assign rfl ?_) | ((with_reducible refine k_un ?_); refine x_not rfl ?_)  | refine e_nrm ?_ | refine x_none rfl ?_ | with_reducible refine q_then ?_ | with_reducible refine q_then_ret ?_ | with_reducible refine q_block_ret ?_ | with_reducible refine awp_seq ?_ | with_reducible refine awp_ret ?_ | ((with_reducible refine w_region ?_ ?_); kernel_rfl) | refine w_cond_t rfl (by first | rfl | assumption) ?_)
      refine ret0_2 (by first | exact .inr rfl | exact .inl rfl) rfl rfl rfl ?_
      repeat' (first | exact trivial | exact Ren.v _ | exact Ren.sl _ _ | exact Ren.ep _ | exact Ren.ptr _ _ _ _ rfl | exact Ren.bs _ _ _ _ _ rfl | exact Ren.nil _ | exact Ren.own _ _ _ _ ⟨_, rfl⟩ | refine ren_ag ?_ | refine ren_tu ?_ | refine ren_fn ?_ | refine ⟨?_, ?_⟩)
    · rw [hvx, Bool.true_and] at hall
      repeat (first | ((with_reducible refine k_move ?_); refine m_move rfl ?_) | ((with_reducible refine k_assign ?_); refine m_assign rfl ?_) | ((with_reducible refine k_un ?_); refine x_not rfl ?_) | ((with_reducible refine k_bin ?_); refine x_add_in rfl rfl (by omega) ?_)  | refine e_nrm ?_ | refine x_none rfl ?_ | with_reducible refine q_then ?_ | with_reducible refine q_block ?_ | with_reducible refine awp_skip ?_ | ((with_reducible refine w_region ?_ ?_); kernel_rfl) | refine w_cond_f rfl (by first | rfl | assumption) ?_)
      exact ⟨j + 1, ⟨by omega, hall⟩, by omega, ⟨rfl, rfl, rfl, trivial⟩, trivial⟩
  have hje : j = L.length := by simp at h; omega
  subst hje
  have hval : L.all validB = true := by rw [← hall, List.drop_length]; rfl
  have hvs : ∀ s ∈ L, validB s = true := List.all_eq_true.1 hval
  have eu : unionP L = (L.foldl rstep [], 0) := by rw [runP_eq hvs]; unfold unionP; rw [if_pos hval]
  rw [eu]
  repeat (first | ((with_reducible refine k_assign ?_); refine m_assign rfl ?_)  | refine e_nrm ?_ | refine x_none rfl ?_ | with_reducible refine q_then ?_ | with_reducible refine q_then_exit ?_ | with_reducible refine awp_seq ?_ | with_reducible refine awp_block ?_ | with_reducible refine awp_exit ?_ | ((with_reducible refine q_block_exit ?_ ?_); rfl) | ((with_reducible refine w_region ?_ ?_); kernel_rfl))
  refine awp_slot (t := 4) (.sl 2 (([] : List Spn).map Spn.av)) rfl (.inr ⟨rfl, 2, rfl⟩) (by decide) ?_
  refine awp_loop (ι := Nat × List Spn) (fun i => i.1 ≤ L.length ∧ i.2 = (L.take i.1).foldl rstep [] ∧ i.2.length ≤ i.1) (fun i => L.length - i.1) (fun v i => [(0, .sl 2 (L.map Spn.av)), (4, .sl 2 (i.2.map Spn.av)), (6, .v (.int .i64 (i.1 : Nat)))]) (fun v i => []) ?_ ?_
  · exact ⟨(0, []), ⟨Nat.zero_le _, rfl, Nat.le_refl _⟩, trivial, ⟨rfl, rfl, rfl, trivial⟩, trivial⟩
  clear v
  rintro v ⟨i, O⟩ ⟨hi, hO, hOl⟩
  simp only at hi hO hOl
  dsimp only
  repeat (first | ((with_reducible refine k_move ?_); refine m_move rfl ?_) | ((with_reducible refine k_call ?_); refine x_len tbOk rfl rfl ?_) | ((with_reducible refine k_bin ?_); refine m_binI rfl rfl rfl ?_)  | refine e_nrm ?_ | refine x_none rfl ?_ | with_reducible refine q_then ?_ | with_reducible refine awp_seq ?_ | ((with_reducible refine w_region ?_ ?_); kernel_rfl))
  refine w_cond rfl (fun h => ?_) (fun h => ?_)
  rotate_left
  · have hie : i = L.length := by simp at h; omega
    subst hie
    rw [List.take_length] at hO
    rw [← hO]
    repeat (first | ((with_reducible refine k_move ?_); refine m_move rfl ?_) | ((with_reducible refine k_assign ?_); refine m_assign rfl ?_)  | refine e_nrm ?_ | refine x_none rfl ?_ | with_reducible refine q_then ?_ | with_reducible refine q_then_exit ?_ | with_reducible refine awp_seq ?_ | with_reducible refine awp_exit ?_ | with_reducible refine awp_ret ?_ | ((with_reducible refine q_block_exit ?_ ?_); rfl) | ((with_reducible refine w_region ?_ ?_); kernel_rfl))
    refine ret0_2 (by first | exact .inr rfl | exact .inl rfl) rfl rfl rfl ?_
    repeat' (first | exact trivial | exact Ren.v _ | exact Ren.sl _ _ | exact Ren.ep _ | exact Ren.ptr _ _ _ _ rfl | exact Ren.bs _ _ _ _ _ rfl | exact Ren.nil _ | exact Ren.own _ _ _ _ ⟨_, rfl⟩ | refine ren_ag ?_ | refine ren_tu ?_ | refine ren_fn ?_ | refine ⟨?_, ?_⟩)
  have hlt : i < L.length := by simp at h; omega
  obtain ⟨x, hx⟩ := some_at hlt
  have hy := spn_at hx
  have hmO : (O.map Spn.av).length = O.length := by simp
  have hnext := fold_next hx
  rw [← hO] at hnext
  repeat (first | ((with_reducible refine k_move ?_); refine m_move rfl ?_) | ((with_reducible refine k_assign ?_); refine m_assign rfl ?_) | ((with_reducible refine k_load ?_); refine x_load_ep_agg tbOk rfl rfl (Nat.le_of_ble_eq_true rfl) ?_) | ((with_reducible refine k_store ?_); refine m_store tbOk rfl rfl rfl rfl rfl rfl rfl (Nat.le_of_ble_eq_true rfl) rfl ?_) | ((with_reducible refine k_alloc ?_); refine x_alloc tbOk rfl rfl ?_) | ((with_reducible refine k_indexAddr ?_); refine x_indexAddr_n tbOk rfl rfl rfl rfl (by assumption) ?_)  | refine e_nrm ?_ | refine x_none rfl ?_ | with_reducible refine q_then ?_ | with_reducible refine awp_seq ?_ | with_reducible refine awp_block ?_ | with_reducible refine awp_skip ?_ | ((with_reducible refine w_region ?_ ?_); kernel_rfl))
  refine awp_own (t := 8) (s := 64) 48 2 rfl rfl ?_
  refine awp_loop (ι := Nat × Spn × List Spn) (fun q => q.1 ≤ O.length ∧ absorb q.2.1 q.2.2 (O.drop q.1) = absorb x [] O ∧ q.2.2.length ≤ q.1) (fun q => O.length - q.1) (fun v q => [(0, .sl 2 (L.map Spn.av)), (4, .sl 2 (O.map Spn.av)), (6, .v (.int .i64 (i : Nat))), (7, .ptr 7 (v 7) 0), (8, .own 64 (v 64)), (9, .v (.int .i64 (q.1 : Nat)))]) (fun v q => [(7, .box [.v (.int .i64 q.2.1.from_), .v (.int .i64 q.2.1.until_)]), (64, .buf 48 2 (q.2.2.map Spn.av))]) ?_ ?_
  · exact ⟨(0, x, []), ⟨Nat.zero_le _, rfl, Nat.le_refl _⟩, trivial, ⟨rfl, rfl, rfl, rfl, rfl, rfl, trivial⟩, ⟨rfl, rfl, trivial⟩⟩
  clear v
  rintro v ⟨k, s, R⟩ ⟨hk, hf, hRl⟩
  simp only at hk hf hRl
  dsimp only
  have hmR : (R.map Spn.av).length = R.length := by simp
  repeat (first | ((with_reducible refine k_move ?_); refine m_move rfl ?_) | ((with_reducible refine k_call ?_); refine x_len tbOk rfl rfl ?_) | ((with_reducible refine k_bin ?_); refine m_binI rfl rfl rfl ?_)  | refine e_nrm ?_ | refine x_none rfl ?_ | with_reducible refine q_then ?_ | with_reducible refine awp_seq ?_ | ((with_reducible refine w_region ?_ ?_); kernel_rfl))
  refine w_cond rfl (fun h => ?_) (fun h => ?_)
  · have hltk : k < O.length := by simp at h; omega
    obtain ⟨o, ho⟩ := some_at hltk
    have hoy := spn_at ho
    rw [absorb_at ho] at hf
    have hN : ∀ y ∈ [o.av], allOne y.cells = true := fun y hy => by simp at hy; subst hy; rfl
    have fin : ∀ q : Bool, True := fun _ => trivial
    by_cases c1 : o.until_ < s.from_
    · have b1 : decide (o.until_ < s.from_) = true := decide_eq_true c1
      rw [if_pos (.inl c1)] at hf
      repeat (first | ((with_reducible refine k_move ?_); refine m_move rfl ?_) | ((with_reducible refine k_fieldAddr ?_); refine x_fieldAddr_ptr tbOk rfl rfl rfl rfl ?_) | ((with_reducible refine k_fieldAddr ?_); refine x_fieldAddr_ep tbOk rfl rfl rfl rfl ?_) | ((with_reducible refine k_load ?_); refine x_load_one tbOk rfl rfl rfl rfl rfl ?_) | ((with_reducible refine k_load ?_); refine x_load_ep_one tbOk rfl rfl rfl ?_) | ((with_reducible refine k_load ?_); refine x_load_ep_agg tbOk rfl rfl (Nat.le_of_ble_eq_true rfl) ?_) | ((with_reducible refine k_pick ?_); refine m_pickt rfl (by first | rfl | assumption) rfl ?_) | ((with_reducible refine k_indexAddr ?_); refine x_indexAddr_n tbOk rfl rfl rfl rfl (by assumption) ?_) | ((with_reducible refine k_bin ?_); refine m_binI rfl rfl rfl ?_) | ((with_reducible refine k_buildSlice ?_); refine m_buildSlice tbOk rfl rfl rfl rfl rfl (by omega) rfl rfl rfl ?_) | refine e_drw (by kernel_rfl) ?_ | refine x_none rfl ?_ | refine x_skip_f rfl rfl (by first | rfl | assumption) ?_ | with_reducible refine q_then ?_ | with_reducible refine awp_seq ?_ | with_reducible refine awp_block ?_ | with_reducible refine awp_skip ?_ | ((with_reducible refine w_region ?_ ?_); kernel_rfl) | ((with_reducible refine w_draw mixd ?_ ?_); kernel_rfl) | refine w_cond_t rfl (by first | rfl | assumption) ?_)
      refine x_append_own tbOk rfl rfl rfl rfl rfl (by decide) rfl rfl rfl rfl rfl hN (by simp only [List.length_map, List.length_append, List.length_cons, List.length_nil] at *; omega) (by simp only [List.length_map, List.length_append, List.length_cons, List.length_nil] at *; omega) ?_
      repeat (first | ((with_reducible refine k_move ?_); refine m_move rfl ?_) | ((with_reducible refine k_assign ?_); refine m_assign rfl ?_) | ((with_reducible refine k_bin ?_); refine x_add_in rfl rfl (by omega) ?_)  | refine e_nrm ?_ | refine x_none rfl ?_ | with_reducible refine q_then ?_ | with_reducible refine q_block ?_ | ((with_reducible refine w_region ?_ ?_); kernel_rfl))
      refine ⟨(k + 1, s, R ++ [o]), ⟨by show k + 1 ≤ _; omega, hf, by simp; omega⟩, by show O.length - (k + 1) < O.length - k; omega, ⟨rfl, rfl, rfl, rfl, rfl, rfl, trivial⟩, ⟨rfl, hc_buf ?_, trivial⟩⟩
      rw [List.map_append]; rfl
    have b1 : decide (o.until_ < s.from_) = false := decide_eq_false c1
    by_cases c2 : s.until_ < o.from_
    · have b2 : decide (s.until_ < o.from_) = true := decide_eq_true c2
      rw [if_pos (.inr c2)] at hf
      repeat (first | ((with_reducible refine k_move ?_); refine m_move rfl ?_) | ((with_reducible refine k_fieldAddr ?_); refine x_fieldAddr_ptr tbOk rfl rfl rfl rfl ?_) | ((with_reducible refine k_fieldAddr ?_); refine x_fieldAddr_ep tbOk rfl rfl rfl rfl ?_) | ((with_reducible refine k_load ?_); refine x_load_one tbOk rfl rfl rfl rfl rfl ?_) | ((with_reducible refine k_load ?_); refine x_load_ep_one tbOk rfl rfl rfl ?_) | ((with_reducible refine k_load ?_); refine x_load_ep_agg tbOk rfl rfl (Nat.le_of_ble_eq_true rfl) ?_) | ((with_reducible refine k_pick ?_); refine m_pickf rfl (by first | rfl | assumption) rfl ?_) | ((with_reducible refine k_indexAddr ?_); refine x_indexAddr_n tbOk rfl rfl rfl rfl (by assumption) ?_) | ((with_reducible refine k_bin ?_); refine m_binI rfl rfl rfl ?_) | ((with_reducible refine k_buildSlice ?_); refine m_buildSlice tbOk rfl rfl rfl rfl rfl (by omega) rfl rfl rfl ?_) | refine e_drw (by kernel_rfl) ?_ | refine x_none rfl ?_ | refine x_run_f rfl rfl (by first | rfl | assumption) ?_ | with_reducible refine q_then ?_ | with_reducible refine awp_seq ?_ | with_reducible refine awp_block ?_ | with_reducible refine awp_skip ?_ | ((with_reducible refine w_region ?_ ?_); kernel_rfl) | ((with_reducible refine w_draw mixd ?_ ?_); kernel_rfl) | refine w_cond_t rfl (by first | rfl | assumption) ?_)
      refine x_append_own tbOk rfl rfl rfl rfl rfl (by decide) rfl rfl rfl rfl rfl hN (by simp only [List.length_map, List.length_append, List.length_cons, List.length_nil] at *; omega) (by simp only [List.length_map, List.length_append, List.length_cons, List.length_nil] at *; omega) ?_
      repeat (first | ((with_reducible refine k_move ?_); refine m_move rfl ?_) | ((with_reducible refine k_assign ?_); refine m_assign rfl ?_) | ((with_reducible refine k_bin ?_); refine x_add_in rfl rfl (by omega) ?_)  | refine e_nrm ?_ | refine x_none rfl ?_ | with_reducible refine q_then ?_ | with_reducible refine q_block ?_ | ((with_reducible refine w_region ?_ ?_); kernel_rfl))
      refine ⟨(k + 1, s, R ++ [o]), ⟨by show k + 1 ≤ _; omega, hf, by simp; omega⟩, by show O.length - (k + 1) < O.length - k; omega, ⟨rfl, rfl, rfl, rfl, rfl, rfl, trivial⟩, ⟨rfl, hc_buf ?_, trivial⟩⟩
      rw [List.map_append]; rfl
    have b2 : decide (s.until_ < o.from_) = false := decide_eq_false c2
    rw [if_neg (by rintro (e | e) <;> contradiction)] at hf
    repeat (first | ((with_reducible refine k_move ?_); refine m_move rfl ?_) | ((with_reducible refine k_fieldAddr ?_); refine x_fieldAddr_ptr tbOk rfl rfl rfl rfl ?_) | ((with_reducible refine k_fieldAddr ?_); refine x_fieldAddr_ep tbOk rfl rfl rfl rfl ?_) | ((with_reducible refine k_load ?_); refine x_load_one tbOk rfl rfl rfl rfl rfl ?_) | ((with_reducible refine k_load ?_); refine x_load_ep_one tbOk rfl rfl rfl ?_) | ((with_reducible refine k_pick ?_); refine m_pickf rfl (by first | rfl | assumption) rfl ?_) | ((with_reducible refine k_indexAddr ?_); refine x_indexAddr_n tbOk rfl rfl rfl rfl (by assumption) ?_) | ((with_reducible refine k_bin ?_); refine m_binI rfl rfl rfl ?_)  | refine e_drw (by kernel_rfl) ?_ | refine x_none rfl ?_ | refine x_run_f rfl rfl (by first | rfl | assumption) ?_ | with_reducible refine q_then ?_ | with_reducible refine awp_seq ?_ | with_reducible refine awp_block ?_ | with_reducible refine awp_skip ?_ | ((with_reducible refine w_draw mixd ?_ ?_); kernel_rfl) | refine w_cond_f rfl (by first | rfl | assumption) ?_)
    (with_reducible refine k_call ?_); refine x_min rfl rfl ?_
    repeat (first | ((with_reducible refine k_move ?_); refine m_move rfl ?_) | ((with_reducible refine k_fieldAddr ?_); refine x_fieldAddr_ptr tbOk rfl rfl rfl rfl ?_) | ((with_reducible refine k_fieldAddr ?_); refine x_fieldAddr_ep tbOk rfl rfl rfl rfl ?_) | ((with_reducible refine k_load ?_); refine x_load_one tbOk rfl rfl rfl rfl rfl ?_) | ((with_reducible refine k_load ?_); refine x_load_ep_one tbOk rfl rfl rfl ?_) | ((with_reducible refine k_indexAddr ?_); refine x_indexAddr_n tbOk rfl rfl rfl rfl (by assumption) ?_)  | refine x_none rfl ?_  )
    (with_reducible refine k_call ?_); refine x_max rfl rfl ?_
    repeat (first | ((with_reducible refine k_move ?_); refine m_move rfl ?_) | ((with_reducible refine k_assign ?_); refine m_assign rfl ?_) | ((with_reducible refine k_store ?_); refine m_store tbOk rfl rfl rfl rfl rfl rfl rfl (Nat.le_of_ble_eq_true rfl) rfl ?_) | ((with_reducible refine k_build ?_); refine m_build tbOk rfl rfl rfl rfl rfl ?_) | ((with_reducible refine k_bin ?_); refine x_add_in rfl rfl (by omega) ?_)  | refine e_nrm ?_ | refine e_drw (by kernel_rfl) ?_ | refine x_none rfl ?_ | with_reducible refine q_then ?_ | with_reducible refine q_block ?_ | ((with_reducible refine w_region ?_ ?_); kernel_rfl))
    exact ⟨(k + 1, ⟨min s.from_ o.from_, max s.until_ o.until_⟩, R), ⟨by show k + 1 ≤ _; omega, hf, by show R.length ≤ k + 1; omega⟩, by show O.length - (k + 1) < O.length - k; omega, ⟨rfl, rfl, rfl, rfl, rfl, rfl, trivial⟩, ⟨rfl, rfl, trivial⟩⟩
  have hke : k = O.length := by simp at h; omega
  rw [List.drop_of_length_le (by omega)] at hf
  have hf' : absorb x [] O = (s, R) := hf.symm
  have hR20 : R.length ≤ 20 := by omega
  have hst : rstep O x = R.take (atP s R) ++ s :: R.drop (atP s R) := by unfold rstep; rw [hf']
  rw [hst] at hnext
  have hnl := rstep_len O x
  rw [hst] at hnl
  have hal := atP_le s R
  refine awp_freeze (t := 8) (s := 64) rfl rfl ?_
  repeat (first | ((with_reducible refine k_assign ?_); refine m_assign rfl ?_)  | refine e_nrm ?_ | refine x_none rfl ?_ | with_reducible refine q_then ?_ | with_reducible refine q_then_exit ?_ | with_reducible refine awp_seq ?_ | with_reducible refine awp_block ?_ | with_reducible refine awp_exit ?_ | ((with_reducible refine q_block_exit ?_ ?_); rfl) | ((with_reducible refine w_region ?_ ?_); kernel_rfl))
  refine awp_loop (ι := Nat) (fun j => j ≤ R.length ∧ j + atP s (R.drop j) = atP s R) (fun j => R.length - j) (fun v j => [(0, .sl 2 (L.map Spn.av)), (6, .v (.int .i64 (i : Nat))), (7, .ptr 7 (v 7) 0), (8, .sl 2 (R.map Spn.av)), (10, .v (.int .i64 (j : Nat)))]) (fun v j => [(7, .box [.v (.int .i64 s.from_), .v (.int .i64 s.until_)])]) ?_ ?_
  · exact ⟨0, ⟨Nat.zero_le _, Nat.zero_add _⟩, trivial, ⟨rfl, rfl, rfl, rfl, rfl, trivial⟩, ⟨rfl, trivial⟩⟩
  clear v
  rintro v j ⟨hj, hjf⟩
  have hN : ∀ y ∈ [s.av], allOne y.cells = true := fun y hy => by simp at hy; subst hy; rfl
  have exitOr : (∃ y, R[j]? = some y ∧ y.from_ < s.from_) ∨ (atP s R = j ∧ (decide ((j : Int) < ((R.map Spn.av).length : Int)) = false ∨ ∃ y, R[j]? = some y ∧ decide (y.from_ < s.from_) = false ∧ decide ((j : Int) < ((R.map Spn.av).length : Int)) = true)) := by
    by_cases hlt : j < R.length
    · obtain ⟨y, hy⟩ := some_at hlt
      by_cases hc : y.from_ < s.from_
      · exact .inl ⟨y, hy, hc⟩
      · rw [atP_at hy, if_neg hc] at hjf
        exact .inr ⟨by omega, .inr ⟨y, hy, decide_eq_false hc, by rw [hmR]; exact decide_eq_true (by omega)⟩⟩
    · rw [List.drop_of_length_le (by omega)] at hjf
      exact .inr ⟨by simp [atP] at hjf; omega, .inl (by rw [hmR]; exact decide_eq_false (by omega))⟩
  rcases exitOr with ⟨y, hy, hc⟩ | ⟨hje, hx2⟩
  · have hlt := lt_at hy
    have hyy := spn_at hy
    have b1 : decide ((j : Int) < ((R.map Spn.av).length : Int)) = true := by rw [hmR]; exact decide_eq_true (by omega)
    have b2 : decide (y.from_ < s.from_) = true := decide_eq_true hc
    rw [atP_at hy, if_pos hc] at hjf
    repeat (first | ((with_reducible refine k_move ?_); refine m_move rfl ?_) | ((with_reducible refine k_assign ?_); refine m_assign rfl ?_) | ((with_reducible refine k_fieldAddr ?_); refine x_fieldAddr_ptr tbOk rfl rfl rfl rfl ?_) | ((with_reducible refine k_fieldAddr ?_); refine x_fieldAddr_ep tbOk rfl rfl rfl rfl ?_) | ((with_reducible refine k_load ?_); refine x_load_one tbOk rfl rfl rfl rfl rfl ?_) | ((with_reducible refine k_load ?_); refine x_load_ep_one tbOk rfl rfl rfl ?_) | ((with_reducible refine k_pick ?_); refine m_pickt rfl (by first | rfl | assumption) rfl ?_) | ((with_reducible refine k_indexAddr ?_); refine x_indexAddr_n tbOk rfl rfl rfl rfl (by assumption) ?_) | ((with_reducible refine k_call ?_); refine x_len tbOk rfl rfl ?_) | ((with_reducible refine k_bin ?_); refine x_add_in rfl rfl (by omega) ?_) | ((with_reducible refine k_bin ?_); refine m_binI rfl rfl rfl ?_)  | refine e_nrm ?_ | refine e_drw (by kernel_rfl) ?_ | refine x_none rfl ?_ | refine x_run_t rfl rfl (by first | rfl | assumption) ?_ | with_reducible refine q_then ?_ | with_reducible refine q_block ?_ | with_reducible refine awp_seq ?_ | with_reducible refine awp_block ?_ | with_reducible refine awp_skip ?_ | ((with_reducible refine w_region ?_ ?_); kernel_rfl) | ((with_reducible refine w_draw mixd ?_ ?_); kernel_rfl) | refine w_cond_t rfl (by first | rfl | assumption) ?_)
    exact ⟨j + 1, ⟨by omega, by omega⟩, by omega, ⟨rfl, rfl, rfl, rfl, rfl, trivial⟩, ⟨rfl, trivial⟩⟩
  rw [hje] at hnext hnl
  have hfin : ((R.map Spn.av).take j ++ [s.av]) ++ (R.map Spn.av).drop j = ((L.take (i + 1)).foldl rstep []).map Spn.av := by
    rw [hnext]; simp [List.map_append, List.map_take, List.map_drop]
  have hl5 : ((L.take (i + 1)).foldl rstep []).length ≤ i + 1 := by rw [hnext]; exact Nat.le_trans hnl (by omega)
  have htl : ((R.map Spn.av).take j).length = j := by rw [List.length_take]; omega
  have hdl : ((R.map Spn.av).drop j).length = R.length - j := by rw [List.length_drop]; omega
  have one1 : ∀ y ∈ (R.map Spn.av).take j, allOne y.cells = true := fun y hy => spn_one R y (List.mem_of_mem_take hy)
  have one2 : ∀ y ∈ (R.map Spn.av).drop j, allOne y.cells = true := fun y hy => spn_one R y (List.mem_of_mem_drop hy)
  rcases hx2 with b1 | ⟨y, hy, b2, b1⟩
  rotate_left
  have hyy := spn_at hy
  all_goals
    repeat (first | ((with_reducible refine k_move ?_); refine m_move rfl ?_) | ((with_reducible refine k_fieldAddr ?_); refine x_fieldAddr_ptr tbOk rfl rfl rfl rfl ?_) | ((with_reducible refine k_fieldAddr ?_); refine x_fieldAddr_ep tbOk rfl rfl rfl rfl ?_) | ((with_reducible refine k_load ?_); refine x_load_one tbOk rfl rfl rfl rfl rfl ?_) | ((with_reducible refine k_load ?_); refine x_load_ep_one tbOk rfl rfl rfl ?_) | ((with_reducible refine k_pick ?_); refine m_pickt rfl (by first | rfl | assumption) rfl ?_) | ((with_reducible refine k_pick ?_); refine m_pickf rfl (by first | rfl | assumption) rfl ?_) | ((with_reducible refine k_indexAddr ?_); refine x_indexAddr_n tbOk rfl rfl rfl rfl (by assumption) ?_) | ((with_reducible refine k_slice ?_); refine x_slice tbOk rfl rfl rfl rfl rfl (by refine ⟨?_, ?_, ?_⟩ <;> omega) ?_) | ((with_reducible refine k_call ?_); refine x_len tbOk rfl rfl ?_) | ((with_reducible refine k_bin ?_); refine m_binI rfl rfl rfl ?_)  | refine e_drw (by kernel_rfl) ?_ | refine x_none rfl ?_ | refine x_run_t rfl rfl (by first | rfl | assumption) ?_ | refine x_skip_t rfl rfl (by first | rfl | assumption) ?_ | with_reducible refine q_then ?_ | with_reducible refine q_then_exit ?_ | with_reducible refine awp_seq ?_ | with_reducible refine awp_exit ?_ | ((with_reducible refine q_block_exit ?_ ?_); rfl) | ((with_reducible refine w_draw mixd ?_ ?_); kernel_rfl) | refine w_cond_f rfl (by first | rfl | assumption) ?_)
    refine x_append_nil tbOk rfl rfl rfl rfl rfl (by decide) rfl rfl rfl (fun y hy => spn_one R y (List.mem_of_mem_take (List.mem_of_mem_drop hy))) (by simp only [List.length_drop, List.length_take, List.length_map, Int.toNat_natCast]; omega) ?_
    repeat (first | ((with_reducible refine k_load ?_); refine x_load_agg tbOk rfl rfl rfl rfl (Nat.le_of_ble_eq_true rfl) ?_) | ((with_reducible refine k_buildSlice ?_); refine m_buildSlice tbOk rfl rfl rfl rfl rfl (by omega) rfl rfl rfl ?_) | refine x_none rfl ?_  )
    refine x_append_own tbOk rfl rfl rfl rfl rfl (by decide) rfl rfl rfl rfl rfl hN (by simp only [List.length_drop, List.length_take, List.length_map, List.length_cons, List.length_nil, Int.toNat_natCast]; omega) (by simp only [List.length_drop, List.length_take, List.length_map, List.length_cons, List.length_nil, Int.toNat_natCast]; omega) ?_
    repeat (first | ((with_reducible refine k_move ?_); refine m_move rfl ?_) | ((with_reducible refine k_assign ?_); refine m_assign rfl ?_) | ((with_reducible refine k_slice ?_); refine x_slice tbOk rfl rfl rfl rfl rfl (by refine ⟨?_, ?_, ?_⟩ <;> omega) ?_)  | refine e_drw (by kernel_rfl) ?_ | refine x_none rfl ?_ | with_reducible refine q_then ?_ | ((with_reducible refine w_region ?_ ?_); kernel_rfl))
    refine x_append_fz tbOk rfl rfl rfl rfl rfl (by decide) rfl rfl rfl rfl rfl (fun y hy => spn_one R y (List.mem_of_mem_take (List.mem_of_mem_drop hy))) (by simp only [List.length_append, List.length_drop, List.length_take, List.length_map, List.length_cons, List.length_nil, Int.toNat_natCast]; omega) (by simp only [List.length_append, List.length_drop, List.length_take, List.length_map, List.length_cons, List.length_nil, Int.toNat_natCast]; omega) ?_
    repeat (first | ((with_reducible refine k_move ?_); refine m_move rfl ?_) | ((with_reducible refine k_assign ?_); refine m_assign rfl ?_) | ((with_reducible refine k_bin ?_); refine x_add_in rfl rfl (by omega) ?_)  | refine e_nrm ?_ | refine x_none rfl ?_ | with_reducible refine q_then ?_ | with_reducible refine q_block ?_ | ((with_reducible refine w_region ?_ ?_); kernel_rfl))
    refine ⟨(i + 1, (L.take (i + 1)).foldl rstep []), ⟨by show i + 1 ≤ _; omega, rfl, hl5⟩, by show L.length - (i + 1) < L.length - i; omega, ⟨rfl, congrArg (AV.sl 2) ?_, rfl, trivial⟩, trivial⟩
    rw [← hfin]
    simp
    exact ⟨rfl, by rw [List.take_of_length_le (by simp)]⟩
set_option maxHeartbeats 2000000 in
theorem rminutes_A (L : List Spn) (hm : L.length ≤ 20) : ACalls Tryd.prog G 29 [.sl 2 (L.map Spn.av)] [] (.tu [.v (.int .i64 (lenS (unionP L).1)), .v (.int .i64 (unionP L).2)]) [] := by
  have hval := union_valid L
  have hln := union_len L
  have hb := lenS_take hval
  have hu := runion_A (G := G) L hm
  generalize unionP L = Q at hval hln hb hu ⊢
  obtain ⟨U, e⟩ := Q
  simp only at hval hln hb hu ⊢
  have hmU : (U.map Spn.av).length = U.length := by simp
  refine acalls_of tbOk (enter_of Tryd.func29 (by kernel_rfl) rfl) Tryd.func29 rfl _ Tryd.ntmps29 (Nat.le_of_ble_eq_true rfl) fun X hX => ?_
  subst hX
  repeat (first | ((with_reducible refine k_move ?_); refine m_move rfl ?_) | ((with_reducible refine k_assign ?_); refine m_assign rfl ?_)  | refine e_nrm ?_ | refine x_none rfl ?_ | with_reducible refine q_then ?_ | with_reducible refine awp_seq ?_ | ((with_reducible refine w_region ?_ ?_); kernel_rfl))
  refine x_call0 (hu) (by repeat' (first | exact trivial | exact Ren.v _ | exact Ren.sl _ _ | exact Ren.ep _ | exact Ren.ptr _ _ _ _ rfl | exact Ren.bs _ _ _ _ _ rfl | exact Ren.nil _ | exact Ren.own _ _ _ _ ⟨_, rfl⟩ | refine ren_ag ?_ | refine ren_tu ?_ | refine ren_fn ?_ | refine ⟨?_, ?_⟩)) (by repeat' (first | exact trivial | exact RenB.v _ | exact RenB.sl _ _ | exact RenB.ep _ | exact RenB.ptr _ _ _ _ rfl | refine renb_ag ?_ | refine renb_tu ?_ | refine ⟨?_, ?_⟩)) ?_
  repeat (first | ((with_reducible refine k_move ?_); refine m_move rfl ?_) | ((with_reducible refine k_assign ?_); refine m_assign rfl ?_) | ((with_reducible refine k_extract ?_); refine x_extract rfl rfl ?_)  | refine e_nrm ?_ | refine x_none rfl ?_ | with_reducible refine q_then ?_ | with_reducible refine awp_seq ?_ | with_reducible refine awp_block ?_ | ((with_reducible refine w_region ?_ ?_); kernel_rfl))
  refine awp_loop (ι := Nat) (fun k => k ≤ U.length) (fun k => U.length - k) (fun v k => [(4, .sl 2 (U.map Spn.av)), (5, .v (.int .i64 e)), (6, .v (.int .i64 (lenS (U.take k)))), (7, .v (.int .i64 (k : Nat)))]) (fun v k => []) ?_ ?_
  · exact ⟨0, Nat.zero_le _, trivial, ⟨rfl, rfl, rfl, rfl, trivial⟩, trivial⟩
  rintro v k hk
  repeat (first | ((with_reducible refine k_move ?_); refine m_move rfl ?_) | ((with_reducible refine k_call ?_); refine x_len tbOk rfl rfl ?_) | ((with_reducible refine k_bin ?_); refine m_binI rfl rfl rfl ?_)  | refine e_nrm ?_ | refine x_none rfl ?_ | with_reducible refine q_then ?_ | with_reducible refine awp_seq ?_ | ((with_reducible refine w_region ?_ ?_); kernel_rfl))
  refine w_cond rfl (fun h => ?_) (fun h => ?_)
  · have hlt : k < U.length := by simp at h; omega
    obtain ⟨x, hx⟩ := some_at hlt
    have hy := spn_at hx
    have hvx := validB_iff.1 (hval x (List.mem_of_getElem? hx))
    have h1 := hb k
    have h2 := hb (k + 1)
    have hn := lenS_next hx
    have hw : IntKind.i64.wrap (lenS (U.take k) + IntKind.i64.wrap (x.until_ - x.from_)) = lenS (U.take (k + 1)) := by
      rw [wrap_i64_in (z := x.until_ - x.from_) (by omega), hn, wrap_i64_in (by omega)]
    repeat (first | ((with_reducible refine k_move ?_); refine m_move rfl ?_) | ((with_reducible refine k_assign ?_); refine m_assign rfl ?_) | ((with_reducible refine k_fieldAddr ?_); refine x_fieldAddr_ep tbOk rfl rfl rfl rfl ?_) | ((with_reducible refine k_load ?_); refine x_load_ep_one tbOk rfl rfl rfl ?_) | ((with_reducible refine k_indexAddr ?_); refine x_indexAddr_n tbOk rfl rfl rfl rfl (by assumption) ?_) | ((with_reducible refine k_bin ?_); refine x_add_in rfl rfl (by omega) ?_) | ((with_reducible refine k_bin ?_); refine x_sub_in rfl rfl (by omega) ?_)  | refine e_nrm ?_ | refine e_drw (by kernel_rfl) ?_ | refine x_none rfl ?_ | with_reducible refine q_then ?_ | with_reducible refine q_block ?_ | with_reducible refine awp_seq ?_ | with_reducible refine awp_block ?_ | with_reducible refine awp_skip ?_ | ((with_reducible refine w_region ?_ ?_); kernel_rfl) | ((with_reducible refine w_draw mixd ?_ ?_); kernel_rfl))
    refine ⟨k + 1, by omega, by omega, ⟨rfl, rfl, ?_, rfl, trivial⟩, trivial⟩
    first | exact congrArg (fun z : Int => AV.v (.int .i64 z)) hw | exact congrArg (fun z : Int => AV.v (.int .i64 z)) hn.symm | (rw [hn])
  · have hge : k = U.length := by simp at h; omega
    rw [hge, List.take_length]
    repeat (first | ((with_reducible refine k_move ?_); refine m_move rfl ?_) | ((with_reducible refine k_assign ?_); refine m_assign rfl ?_)  | refine e_nrm ?_ | refine x_none rfl ?_ | with_reducible refine q_then ?_ | with_reducible refine q_then_exit ?_ | with_reducible refine awp_seq ?_ | with_reducible refine awp_exit ?_ | with_reducible refine awp_ret ?_ | ((with_reducible refine q_block_exit ?_ ?_); rfl) | ((with_reducible refine w_region ?_ ?_); kernel_rfl))
    refine ret0_2 (by first | exact .inr rfl | exact .inl rfl) rfl rfl rfl ?_
    repeat' (first | exact trivial | exact Ren.v _ | exact Ren.sl _ _ | exact Ren.ep _ | exact Ren.ptr _ _ _ _ rfl | exact Ren.bs _ _ _ _ _ rfl | exact Ren.nil _ | exact Ren.own _ _ _ _ ⟨_, rfl⟩ | refine ren_ag ?_ | refine ren_tu ?_ | refine ren_fn ?_ | refine ⟨?_, ?_⟩)
end Go.Proofs.YtdejgacclogaiaaDoor
