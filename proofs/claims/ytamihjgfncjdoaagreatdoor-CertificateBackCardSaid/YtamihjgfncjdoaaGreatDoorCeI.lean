/- certificate: read, by the abstract machine: words are read as the plain function reads them; the numbers come in any order; conditions: the table of classes stands. -/
import Derived.Test.YtamihjgfncjdoaaGreatDoorCeH
import Derived.Test.YtamihjgfncjdoaaGreatDoorAbsM
set_option linter.unusedVariables false
set_option linter.unusedSimpArgs false
namespace Go.Proofs.YtamihjgfncjdoaaGreatDoor
open Go Go.RowKit
set_option maxRecDepth 10000
variable {G : Nat → Option (List Value)}
/-- The places of a walk through a map that are still to come. -/
def stillQ (n : Nat) (seen : List Nat) : List Nat := (List.range n).filter fun i => !decide (i ∈ seen)
theorem stillQ_less {n i : Nat} {seen : List Nat} (hi : i < n) (hs : i ∉ seen) : (stillQ n (seen ++ [i])).length < (stillQ n seen).length := by
  have e : stillQ n (seen ++ [i]) = (stillQ n seen).filter fun j => !decide (j = i) := by
    unfold stillQ
    rw [List.filter_filter]
    congr 1
    funext j
    by_cases h1 : j ∈ seen <;> by_cases h2 : j = i <;> simp [h1, h2]
  rw [e]
  refine List.length_filter_lt_length_iff_exists.2 ⟨i, ?_, by simp⟩
  unfold stillQ
  rw [List.mem_filter]
  exact ⟨List.mem_range.2 hi, by simpa using hs⟩
def setQ (seen : List Nat) (i : Nat) (x : Int) : AV := .v (.int .i64 (if i ∈ seen then x else 0))
theorem setQ_new {seen : List Nat} {i : Nat} {x : Int} : setQ (seen ++ [i]) i x = .v (.int .i64 x) := by
  unfold setQ
  rw [if_pos (by simp)]
theorem setQ_old {seen : List Nat} {i j : Nat} {x : Int} (h : j ≠ i) : setQ (seen ++ [i]) j x = setQ seen j x := by
  unfold setQ
  have : j ∈ seen ++ [i] ↔ j ∈ seen := by simp [h]
  simp only [this]
theorem setQ_in {seen : List Nat} {i : Nat} {x : Int} (h : i ∈ seen) : setQ seen i x = .v (.int .i64 x) := by
  unfold setQ
  rw [if_pos h]
def mapQ (k : Nat) : List (Value × Nat × Nat × Nat) := [(.int .i64 1, 6, k, 1), (.int .i64 2, 6, k, 0), (.int .i64 4, 6, k, 2), (.int .i64 6, 6, k, 3)]
theorem rest5 {W : List (List UInt8)} {a : Nat} {n : Int} (h : n = (((W.drop a).map svL).length : Nat)) : (((W.drop a).map svL).take n.toNat).drop (5 : Int).toNat = (W.drop (a + 5)).map svL := by
  subst h
  rw [Int.toNat_natCast, List.take_length, show (5 : Int).toNat = 5 from rfl, ← List.map_drop, List.drop_drop]
theorem rest7 {W : List (List UInt8)} {n : Int} (h : n = ((W.map svL).length : Nat)) : ((W.map svL).take n.toNat).drop (7 : Int).toNat = (W.drop 7).map svL := by
  subst h
  rw [Int.toNat_natCast, List.take_length, show (7 : Int).toNat = 7 from rfl, ← List.map_drop]
/-- The words that are numbers, by their place in the map. -/
def wQ (W : List (List UInt8)) (i : Nat) : List UInt8 := match i with
  | 0 => wAt W 1
  | 1 => wAt W 2
  | 2 => wAt W 4
  | _ => wAt W 6
set_option maxHeartbeats 16000000 in
theorem read_A (N : List Nd) (V : List Dv) (W : List (List UInt8)) (hG : GCls G) (ok : NwS N V) (hw : ∀ w ∈ W, w.length ≤ 1000000) (hwl : W.length ≤ 1000000) :
    ACalls Tryz.prog G 26 [netAV N V, .sl 1 (W.map svL)] [] (.tu [((readR V W).getD ceZ).av, .v (.bool (readR V W).isSome)]) [] := by
  have hN : ¬ headR W → readR V W = none := fun h => by unfold readR; rw [if_neg (fun e => h e.1)]
  have hM : numsR W = false → readR V W = none := fun h => by unfold readR; rw [if_neg (fun e => by rw [e.2] at h; cases h)]
  have hml : (W.map svL).length = W.length := by simp
  refine acalls_of tbOk (enter_of Tryz.func26 (by kernel_rfl) rfl) Tryz.func26 rfl _ Tryz.ntmps26 (Nat.le_of_ble_eq_true rfl) fun X hX => ?_
  subst hX
  repeat (first | ((with_reducible refine k_move ?_); refine m_move rfl ?_) | ((with_reducible refine k_assign ?_); refine m_assign rfl ?_) | ((with_reducible refine k_alloc ?_); refine x_alloc tbOk rfl rfl ?_) | ((with_reducible refine k_box ?_); refine m_box rfl rfl rfl ?_) | ((with_reducible refine k_call ?_); refine x_len tbOk rfl rfl ?_) | ((with_reducible refine k_bin ?_); refine m_binI rfl rfl rfl ?_)  | refine e_nrm ?_ | refine x_none rfl ?_ | with_reducible (first | refine q_then ?_ | refine awp_seq ?_) | ((with_reducible refine w_region ?_ ?_); kernel_rfl))
  refine x_split rfl rfl (fun c => ?_) (fun c => ?_)
  · have hno : readR V W = none := hN (fun e => by have e7 := e.1; simp at c; omega)
    rw [hno]
    repeat (first | ((with_reducible refine k_move ?_); refine m_move rfl ?_) | ((with_reducible refine k_assign ?_); refine m_assign rfl ?_) | ((with_reducible refine k_store ?_); refine m_store tbOk rfl rfl rfl rfl rfl rfl rfl (Nat.le_of_ble_eq_true rfl) rfl ?_) | ((with_reducible refine k_pick ?_); refine m_pickt rfl (by first | rfl | assumption) rfl ?_) | ((with_reducible refine k_build ?_); refine m_build tbOk rfl rfl rfl rfl rfl ?_)  | refine e_nrm ?_ | refine x_none rfl ?_ | refine x_skip_f rfl rfl (by first | rfl | assumption) ?_ | with_reducible (first | refine q_then ?_ | refine q_then_ret ?_ | refine awp_seq ?_ | refine awp_ret ?_) | ((with_reducible refine w_region ?_ ?_); kernel_rfl) | refine w_cond_t rfl (by first | rfl | assumption) ?_)
    refine ret0_ct (by first | exact .inr rfl | exact .inl rfl) rfl rfl rfl rfl rfl rfl ?_
    repeat' (first | exact trivial | exact Ren.v _ | exact Ren.nil _ | refine ren_ag ?_ | refine ren_tu ?_ | refine ⟨?_, ?_⟩)
  repeat (first | ((with_reducible refine k_move ?_); refine m_move rfl ?_) | ((with_reducible refine k_pick ?_); refine m_pickf rfl (by first | rfl | assumption) rfl ?_) | ((with_reducible refine k_call ?_); refine x_len tbOk rfl rfl ?_) | ((with_reducible refine k_bin ?_); (first | refine x_sub_in rfl rfl (by omega) ?_ | refine m_binI rfl rfl rfl ?_ | refine x_rem rfl rfl (by first | decide | assumption | omega) ?_))  | refine x_none rfl ?_ | refine x_run_f rfl rfl (by first | rfl | assumption) ?_  )
  have h7 : 7 ≤ W.length := by simp at c; omega
  have h5 : W.length - 7 + 7 = W.length := by omega
  obtain ⟨r5, hr5⟩ : ∃ q : Int, q = (((W.map svL).length : Int) - 7).tmod 5 := ⟨_, rfl⟩
  have hr5' : r5 = (((W.length - 7) % 5 : Nat) : Int) := by
    rw [hr5, hml, Int.tmod_eq_emod_of_nonneg (by omega)]
    omega
  refine x_split rfl rfl (fun c => ?_) (fun c => ?_)
  · have hno : readR V W = none := hN (fun e => by have e5 := e.2.1; have d : ((((W.map svL).length : Int) - 7).tmod 5 != 0) = true := c; rw [← hr5, hr5', e5] at d; cases d)
    rw [hno]
    repeat (first | ((with_reducible refine k_move ?_); refine m_move rfl ?_) | ((with_reducible refine k_assign ?_); refine m_assign rfl ?_) | ((with_reducible refine k_store ?_); refine m_store tbOk rfl rfl rfl rfl rfl rfl rfl (Nat.le_of_ble_eq_true rfl) rfl ?_) | ((with_reducible refine k_pick ?_); refine m_pickt rfl (by first | rfl | assumption) rfl ?_) | ((with_reducible refine k_build ?_); refine m_build tbOk rfl rfl rfl rfl rfl ?_)  | refine e_nrm ?_ | refine x_none rfl ?_ | refine x_skip_f rfl rfl (by first | rfl | assumption) ?_ | with_reducible (first | refine q_then ?_ | refine q_then_ret ?_ | refine awp_seq ?_ | refine awp_ret ?_) | ((with_reducible refine w_region ?_ ?_); kernel_rfl) | refine w_cond_t rfl (by first | rfl | assumption) ?_)
    refine ret0_ct (by first | exact .inr rfl | exact .inl rfl) rfl rfl rfl rfl rfl rfl ?_
    repeat' (first | exact trivial | exact Ren.v _ | exact Ren.nil _ | refine ren_ag ?_ | refine ren_tu ?_ | refine ⟨?_, ?_⟩)
  repeat (first | ((with_reducible refine k_move ?_); refine m_move rfl ?_)  | refine x_run_f rfl rfl (by first | rfl | assumption) ?_  )
  have hm5 : (W.length - 7) % 5 = 0 := by
    have d : ((((W.map svL).length : Int) - 7).tmod 5 != 0) = false := c
    rw [← hr5, hr5'] at d
    simp at d
    omega
  have hl : ∀ k, k < 7 → (wAt W k).length ≤ 1000000 := fun k hk => by
    obtain ⟨x, hx⟩ := some_at (L := W) (k := k) (by omega)
    have : wAt W k = x := by unfold wAt; rw [hx]; rfl
    rw [this]; exact hw x (List.mem_of_getElem? hx)
  have z0 : (W.map svL)[(0 : Int).toNat]? = some (svL (wAt W 0)) := wat_at h7 (by decide)
  have z1 : (W.map svL)[(1 : Int).toNat]? = some (svL (wAt W 1)) := wat_at h7 (by decide)
  have z2 : (W.map svL)[(2 : Int).toNat]? = some (svL (wAt W 2)) := wat_at h7 (by decide)
  have z3 : (W.map svL)[(3 : Int).toNat]? = some (svL (wAt W 3)) := wat_at h7 (by decide)
  have z4 : (W.map svL)[(4 : Int).toNat]? = some (svL (wAt W 4)) := wat_at h7 (by decide)
  have z5 : (W.map svL)[(5 : Int).toNat]? = some (svL (wAt W 5)) := wat_at h7 (by decide)
  have z6 : (W.map svL)[(6 : Int).toNat]? = some (svL (wAt W 6)) := wat_at h7 (by decide)
  repeat (first | ((with_reducible refine k_move ?_); refine m_move rfl ?_) | ((with_reducible refine k_load ?_); refine x_load_ep_one tbOk rfl rfl rfl ?_) | ((with_reducible refine k_pick ?_); refine m_pickf rfl (by first | rfl | assumption) rfl ?_) | ((with_reducible refine k_indexAddr ?_); refine x_indexAddr_n tbOk rfl rfl rfl rfl (by assumption) ?_) | ((with_reducible refine k_bin ?_); refine m_binS rfl rfl rfl ?_)  | refine x_none rfl ?_ | refine x_run_f rfl rfl (by first | rfl | assumption) ?_  )
  refine x_split rfl rfl (fun c => ?_) (fun c => ?_)
  · have hno : readR V W = none := hN (fun e => by have d : (!strEq (strL (wAt W 0)) (strL wCert)) = true := c; rw [seq_L, decide_eq_true e.2.2.1] at d; cases d)
    rw [hno]
    repeat (first | ((with_reducible refine k_move ?_); refine m_move rfl ?_) | ((with_reducible refine k_assign ?_); refine m_assign rfl ?_) | ((with_reducible refine k_store ?_); refine m_store tbOk rfl rfl rfl rfl rfl rfl rfl (Nat.le_of_ble_eq_true rfl) rfl ?_) | ((with_reducible refine k_pick ?_); refine m_pickt rfl (by first | rfl | assumption) rfl ?_) | ((with_reducible refine k_build ?_); refine m_build tbOk rfl rfl rfl rfl rfl ?_)  | refine e_nrm ?_ | refine x_none rfl ?_ | refine x_skip_f rfl rfl (by first | rfl | assumption) ?_ | with_reducible (first | refine q_then ?_ | refine q_then_ret ?_ | refine awp_seq ?_ | refine awp_ret ?_) | ((with_reducible refine w_region ?_ ?_); kernel_rfl) | refine w_cond_t rfl (by first | rfl | assumption) ?_)
    refine ret0_ct (by first | exact .inr rfl | exact .inl rfl) rfl rfl rfl rfl rfl rfl ?_
    repeat' (first | exact trivial | exact Ren.v _ | exact Ren.nil _ | refine ren_ag ?_ | refine ren_tu ?_ | refine ⟨?_, ?_⟩)
  repeat (first | ((with_reducible refine k_move ?_); refine m_move rfl ?_) | ((with_reducible refine k_load ?_); refine x_load_ep_one tbOk rfl rfl rfl ?_) | ((with_reducible refine k_pick ?_); refine m_pickf rfl (by first | rfl | assumption) rfl ?_) | ((with_reducible refine k_indexAddr ?_); refine x_indexAddr_n tbOk rfl rfl rfl rfl (by assumption) ?_) | ((with_reducible refine k_bin ?_); refine m_binS rfl rfl rfl ?_)  | refine x_none rfl ?_ | refine x_run_f rfl rfl (by first | rfl | assumption) ?_  )
  have e0 : wAt W 0 = wCert := by
    have d : (!strEq (strL (wAt W 0)) (strL wCert)) = false := c
    rw [seq_L] at d
    simpa using d
  refine x_split rfl rfl (fun c => ?_) (fun c => ?_)
  · have hno : readR V W = none := hN (fun e => by have d : (!strEq (strL (wAt W 3)) (strL wGiver)) = true := c; rw [seq_L, decide_eq_true e.2.2.2.1] at d; cases d)
    rw [hno]
    repeat (first | ((with_reducible refine k_assign ?_); refine m_assign rfl ?_) | ((with_reducible refine k_store ?_); refine m_store tbOk rfl rfl rfl rfl rfl rfl rfl (Nat.le_of_ble_eq_true rfl) rfl ?_) | ((with_reducible refine k_pick ?_); refine m_pickt rfl (by first | rfl | assumption) rfl ?_) | ((with_reducible refine k_build ?_); refine m_build tbOk rfl rfl rfl rfl rfl ?_)  | refine e_nrm ?_ | refine x_none rfl ?_ | refine x_skip_f rfl rfl (by first | rfl | assumption) ?_ | with_reducible (first | refine q_then ?_ | refine q_then_ret ?_ | refine awp_seq ?_ | refine awp_ret ?_) | ((with_reducible refine w_region ?_ ?_); kernel_rfl) | refine w_cond_t rfl (by first | rfl | assumption) ?_)
    refine ret0_ct (by first | exact .inr rfl | exact .inl rfl) rfl rfl rfl rfl rfl rfl ?_
    repeat' (first | exact trivial | exact Ren.v _ | exact Ren.nil _ | refine ren_ag ?_ | refine ren_tu ?_ | refine ⟨?_, ?_⟩)
  repeat (first | ((with_reducible refine k_move ?_); refine m_move rfl ?_) | ((with_reducible refine k_load ?_); refine x_load_ep_one tbOk rfl rfl rfl ?_) | ((with_reducible refine k_pick ?_); refine m_pickf rfl (by first | rfl | assumption) rfl ?_) | ((with_reducible refine k_indexAddr ?_); refine x_indexAddr_n tbOk rfl rfl rfl rfl (by assumption) ?_) | ((with_reducible refine k_bin ?_); refine m_binS rfl rfl rfl ?_)  | refine e_nrm ?_ | refine x_none rfl ?_ | refine x_run_f rfl rfl (by first | rfl | assumption) ?_ | with_reducible refine q_then ?_ )
  have e3 : wAt W 3 = wGiver := by
    have d : (!strEq (strL (wAt W 3)) (strL wGiver)) = false := c
    rw [seq_L] at d
    simpa using d
  refine w_cond rfl (fun c => ?_) (fun c => ?_)
  · have hno : readR V W = none := hN (fun e => by
      have d : (!strEq (strL (wAt W 5)) (strL wState)) = true := c
      rw [seq_L, decide_eq_true e.2.2.2.2] at d; cases d)
    rw [hno]
    repeat (first | ((with_reducible refine k_assign ?_); refine m_assign rfl ?_) | ((with_reducible refine k_store ?_); refine m_store tbOk rfl rfl rfl rfl rfl rfl rfl (Nat.le_of_ble_eq_true rfl) rfl ?_) | ((with_reducible refine k_build ?_); refine m_build tbOk rfl rfl rfl rfl rfl ?_)  | refine e_nrm ?_ | refine x_none rfl ?_ | with_reducible (first | refine q_then ?_ | refine q_then_ret ?_ | refine awp_seq ?_ | refine awp_ret ?_) | ((with_reducible refine w_region ?_ ?_); kernel_rfl))
    refine ret0_ct (by first | exact .inr rfl | exact .inl rfl) rfl rfl rfl rfl rfl rfl ?_
    repeat' (first | exact trivial | exact Ren.v _ | exact Ren.nil _ | refine ren_ag ?_ | refine ren_tu ?_ | refine ⟨?_, ?_⟩)
  have e5 : wAt W 5 = wState := by
    have d : (!strEq (strL (wAt W 5)) (strL wState)) = false := c
    rw [seq_L] at d
    simpa using d
  have hH : headR W := ⟨h7, hm5, e0, e3, e5⟩
  clear hN hr5 hr5' e0 e3 e5
  have hn1 := number_A (G := X.G) (strL (wAt W 1)) 65536 (by rw [strL_size]; have := hl 1 (by decide); unfold maxLen; omega) (by omega) (by omega)
  have hn2 := number_A (G := X.G) (strL (wAt W 2)) 65536 (by rw [strL_size]; have := hl 2 (by decide); unfold maxLen; omega) (by omega) (by omega)
  have hn4 := number_A (G := X.G) (strL (wAt W 4)) 65536 (by rw [strL_size]; have := hl 4 (by decide); unfold maxLen; omega) (by omega) (by omega)
  have hn6 := number_A (G := X.G) (strL (wAt W 6)) 65536 (by rw [strL_size]; have := hl 6 (by decide); unfold maxLen; omega) (by omega) (by omega)
  rw [strL_data] at hn1 hn2 hn4 hn6
  obtain ⟨x1, hx1⟩ : ∃ q, q = (numP (wAt W 1) 65536).getD 0 := ⟨_, rfl⟩
  obtain ⟨x2, hx2⟩ : ∃ q, q = (numP (wAt W 2) 65536).getD 0 := ⟨_, rfl⟩
  obtain ⟨x4, hx4⟩ : ∃ q, q = (numP (wAt W 4) 65536).getD 0 := ⟨_, rfl⟩
  obtain ⟨x6, hx6⟩ : ∃ q, q = (numP (wAt W 6) 65536).getD 0 := ⟨_, rfl⟩
  rw [← hx1] at hn1
  rw [← hx2] at hn2
  rw [← hx4] at hn4
  rw [← hx6] at hn6
  repeat (first | ((with_reducible refine k_alloc ?_); refine x_alloc tbOk rfl rfl ?_)  | refine e_nrm ?_ | refine x_none rfl ?_ | with_reducible (first | refine q_then ?_ | refine awp_seq ?_ | refine awp_skip ?_) | ((with_reducible refine w_region ?_ ?_); kernel_rfl))
  refine x_makeMapQ rfl ?_
  repeat (first | ((with_reducible refine k_fieldAddr ?_); refine x_fieldAddr_ptr tbOk rfl rfl rfl rfl ?_)  | refine x_none rfl ?_  )
  refine x_mapPushQ Tryz.underlying97 Tryz.underlying3 (by simp [MapKept.IsKey]) rfl rfl rfl rfl rfl (fun p hp => by cases hp) ?_
  repeat (first | ((with_reducible refine k_fieldAddr ?_); refine x_fieldAddr_ptr tbOk rfl rfl rfl rfl ?_)  | refine x_none rfl ?_  )
  refine x_mapPushQ Tryz.underlying97 Tryz.underlying3 (by simp [MapKept.IsKey]) rfl rfl rfl rfl rfl (fun p hp => by simp only [List.mem_cons, List.not_mem_nil, or_false, List.nil_append, List.cons_append] at hp; subst hp; rfl) ?_
  repeat (first | ((with_reducible refine k_fieldAddr ?_); refine x_fieldAddr_ptr tbOk rfl rfl rfl rfl ?_)  | refine x_none rfl ?_  )
  refine x_mapPushQ Tryz.underlying97 Tryz.underlying3 (by simp [MapKept.IsKey]) rfl rfl rfl rfl rfl (fun p hp => by simp only [List.mem_cons, List.not_mem_nil, or_false, List.nil_append, List.cons_append] at hp; rcases hp with rfl | rfl <;> rfl) ?_
  repeat (first | ((with_reducible refine k_fieldAddr ?_); refine x_fieldAddr_ptr tbOk rfl rfl rfl rfl ?_)  | refine x_none rfl ?_  )
  refine x_mapPushQ Tryz.underlying97 Tryz.underlying3 (by simp [MapKept.IsKey]) rfl rfl rfl rfl rfl (fun p hp => by simp only [List.mem_cons, List.not_mem_nil, or_false, List.nil_append, List.cons_append] at hp; rcases hp with rfl | rfl | rfl <;> rfl) ?_
  repeat (first | ((with_reducible refine k_move ?_); refine m_move rfl ?_)  | refine x_none rfl ?_  )
  refine x_rangeQ Tryz.underlying97 rfl rfl rfl rfl ?_
  repeat (first   | refine e_nrm ?_ | with_reducible (first | refine q_then ?_ | refine awp_block ?_) )
  refine awp_loop (ι := List Nat) (fun seen => ∀ j ∈ seen, j < 4 ∧ (numP (wQ W j) 65536).isSome = true) (fun seen => (stillQ 4 seen).length) (fun v seen => [(1, .sl 1 (W.map svL)), (2, .ptr 2 (v 2) 0), (4, .ptr 4 (v 4) 0), (6, .ptr 6 (v 6) 0), (49, .own 49 (v 49))]) (fun v seen => [(6, .box [setQ seen 1 x2, setQ seen 0 x1, setQ seen 2 x4, setQ seen 3 x6, .v (.slice none 0 0)]), (2, .box [.sl 3 (N.map Nd.av), .sl 5 (V.map Dv.av)]), (4, .box [.v (.int .i64 0), .v (.int .i64 0), .v (.int .i64 0), .v (.int .i64 0), .v (.slice none 0 0)]), (43, .ob (.mq (mapQ (v 6)))), (49, .ob (.it 43 (v 43) 4 seen 4))]) ?_ ?_
  · exact ⟨[], (fun j hj => by cases hj), trivial, ⟨rfl, rfl, rfl, rfl, rfl, trivial⟩, ⟨rfl, rfl, rfl, rfl, rfl, trivial⟩⟩
  rintro v seen hs
  repeat (first  | with_reducible refine awp_seq ?_)
  refine awp_nextQ rfl (by kernel_rfl) rfl rfl rfl rfl rfl (fun hall => ?_) (fun i p hp hi => ?_)
  rotate_left
  · have hi4 : i < 4 := lt_at hp
    match i, hi4, hp, hi with
    | 0, _, hp, hi => ?_
    | 1, _, hp, hi => ?_
    | 2, _, hp, hi => ?_
    | 3, _, hp, hi => ?_
    · obtain rfl : p = ((.int .i64 1 : Value), 6, v 6, 1) := (Option.some.inj hp).symm
      repeat (first | ((with_reducible refine k_extract ?_); refine x_extract rfl rfl ?_)  | refine e_nrm ?_ | refine x_none rfl ?_ | with_reducible (first | refine q_then ?_ | refine awp_seq ?_ | refine awp_block ?_ | refine awp_skip ?_) | ((with_reducible refine w_region ?_ ?_); kernel_rfl) | refine w_cond_t rfl (by first | rfl | assumption) ?_)
      refine x_entryQ rfl rfl rfl rfl (i := 0) (L := mapQ (v 6)) rfl (.v (.int .i64 1)) rfl ?_
      repeat (first | ((with_reducible refine k_move ?_); refine m_move rfl ?_) | ((with_reducible refine k_assign ?_); refine m_assign rfl ?_) | ((with_reducible refine k_load ?_); refine x_load_ep_one tbOk rfl rfl rfl ?_) | ((with_reducible refine k_extract ?_); refine x_extract rfl rfl ?_) | ((with_reducible refine k_indexAddr ?_); refine x_indexAddr_n tbOk rfl rfl rfl rfl (by assumption) ?_)  | refine e_nrm ?_ | refine x_none rfl ?_ | with_reducible (first | refine q_then ?_ | refine awp_seq ?_) | ((with_reducible refine w_region ?_ ?_); kernel_rfl))
      refine x_call0 (hn1) (by repeat' (first | exact trivial | exact Ren.v _ | refine ⟨?_, ?_⟩)) (by repeat' (first | exact trivial | exact RenB.v _ | refine renb_tu ?_ | refine ⟨?_, ?_⟩)) ?_
      repeat (first | ((with_reducible refine k_move ?_); refine m_move rfl ?_) | ((with_reducible refine k_assign ?_); refine m_assign rfl ?_) | ((with_reducible refine k_un ?_); refine x_not rfl ?_) | ((with_reducible refine k_extract ?_); refine x_extract rfl rfl ?_)  | refine e_nrm ?_ | refine x_none rfl ?_ | with_reducible (first | refine q_then ?_ | refine awp_seq ?_) | ((with_reducible refine w_region ?_ ?_); kernel_rfl))
      refine w_cond rfl (fun c => ?_) (fun c => ?_)
      · have hno : readR V W = none := hM (by
          have d : (!(numP (wAt W 1) 65536).isSome) = true := c
          rw [Bool.not_eq_true'] at d
          unfold numsR
          simp only [d, Bool.false_and, Bool.and_false])
        rw [hno]
        repeat (first | ((with_reducible refine k_assign ?_); refine m_assign rfl ?_) | ((with_reducible refine k_store ?_); refine m_store tbOk rfl rfl rfl rfl rfl rfl rfl (Nat.le_of_ble_eq_true rfl) rfl ?_) | ((with_reducible refine k_build ?_); refine m_build tbOk rfl rfl rfl rfl rfl ?_)  | refine e_nrm ?_ | refine x_none rfl ?_ | with_reducible (first | refine q_then ?_ | refine q_then_ret ?_ | refine q_block_ret ?_ | refine awp_seq ?_ | refine awp_ret ?_) | ((with_reducible refine w_region ?_ ?_); kernel_rfl))
        refine ret0_ct (by first | exact .inr rfl | exact .inl rfl) rfl rfl rfl rfl rfl rfl ?_
        repeat' (first | exact trivial | exact Ren.v _ | exact Ren.nil _ | refine ren_ag ?_ | refine ren_tu ?_ | refine ⟨?_, ?_⟩)
      repeat (first | ((with_reducible refine k_move ?_); refine m_move rfl ?_) | ((with_reducible refine k_store ?_); refine m_store tbOk rfl rfl rfl rfl rfl rfl rfl (Nat.le_of_ble_eq_true rfl) rfl ?_) | ((with_reducible refine k_nilCheck ?_); refine x_nilCheck_ptr rfl ?_)  | refine e_nrm ?_ | refine x_none rfl ?_ | with_reducible (first | refine q_then ?_ | refine q_block ?_ | refine awp_skip ?_) | ((with_reducible refine w_region ?_ ?_); kernel_rfl))
      refine ⟨seen ++ [0], ?_, stillQ_less (n := 4) (by decide) hi, ⟨rfl, rfl, rfl, rfl, rfl, trivial⟩, ⟨hc_box ?_, rfl, rfl, rfl, rfl, trivial⟩⟩
      · intro j hj
        rcases List.mem_append.1 hj with hj | hj
        · exact hs j hj
        · simp at hj
          subst hj
          have d : (!(numP (wAt W 1) 65536).isSome) = false := c
          rw [Bool.not_eq_false'] at d
          exact ⟨by decide, d⟩
      · rw [setQ_old (i := 0) (j := 1) (by decide), setQ_new (i := 0), setQ_old (i := 0) (j := 2) (by decide), setQ_old (i := 0) (j := 3) (by decide)]; rfl
    · obtain rfl : p = ((.int .i64 2 : Value), 6, v 6, 0) := (Option.some.inj hp).symm
      repeat (first | ((with_reducible refine k_extract ?_); refine x_extract rfl rfl ?_)  | refine e_nrm ?_ | refine x_none rfl ?_ | with_reducible (first | refine q_then ?_ | refine awp_seq ?_ | refine awp_block ?_ | refine awp_skip ?_) | ((with_reducible refine w_region ?_ ?_); kernel_rfl) | refine w_cond_t rfl (by first | rfl | assumption) ?_)
      refine x_entryQ rfl rfl rfl rfl (i := 1) (L := mapQ (v 6)) rfl (.v (.int .i64 2)) rfl ?_
      repeat (first | ((with_reducible refine k_move ?_); refine m_move rfl ?_) | ((with_reducible refine k_assign ?_); refine m_assign rfl ?_) | ((with_reducible refine k_load ?_); refine x_load_ep_one tbOk rfl rfl rfl ?_) | ((with_reducible refine k_extract ?_); refine x_extract rfl rfl ?_) | ((with_reducible refine k_indexAddr ?_); refine x_indexAddr_n tbOk rfl rfl rfl rfl (by assumption) ?_)  | refine e_nrm ?_ | refine x_none rfl ?_ | with_reducible (first | refine q_then ?_ | refine awp_seq ?_) | ((with_reducible refine w_region ?_ ?_); kernel_rfl))
      refine x_call0 (hn2) (by repeat' (first | exact trivial | exact Ren.v _ | refine ⟨?_, ?_⟩)) (by repeat' (first | exact trivial | exact RenB.v _ | refine renb_tu ?_ | refine ⟨?_, ?_⟩)) ?_
      repeat (first | ((with_reducible refine k_move ?_); refine m_move rfl ?_) | ((with_reducible refine k_assign ?_); refine m_assign rfl ?_) | ((with_reducible refine k_un ?_); refine x_not rfl ?_) | ((with_reducible refine k_extract ?_); refine x_extract rfl rfl ?_)  | refine e_nrm ?_ | refine x_none rfl ?_ | with_reducible (first | refine q_then ?_ | refine awp_seq ?_) | ((with_reducible refine w_region ?_ ?_); kernel_rfl))
      refine w_cond rfl (fun c => ?_) (fun c => ?_)
      · have hno : readR V W = none := hM (by
          have d : (!(numP (wAt W 2) 65536).isSome) = true := c
          rw [Bool.not_eq_true'] at d
          unfold numsR
          simp only [d, Bool.false_and, Bool.and_false])
        rw [hno]
        repeat (first | ((with_reducible refine k_assign ?_); refine m_assign rfl ?_) | ((with_reducible refine k_store ?_); refine m_store tbOk rfl rfl rfl rfl rfl rfl rfl (Nat.le_of_ble_eq_true rfl) rfl ?_) | ((with_reducible refine k_build ?_); refine m_build tbOk rfl rfl rfl rfl rfl ?_)  | refine e_nrm ?_ | refine x_none rfl ?_ | with_reducible (first | refine q_then ?_ | refine q_then_ret ?_ | refine q_block_ret ?_ | refine awp_seq ?_ | refine awp_ret ?_) | ((with_reducible refine w_region ?_ ?_); kernel_rfl))
        refine ret0_ct (by first | exact .inr rfl | exact .inl rfl) rfl rfl rfl rfl rfl rfl ?_
        repeat' (first | exact trivial | exact Ren.v _ | exact Ren.nil _ | refine ren_ag ?_ | refine ren_tu ?_ | refine ⟨?_, ?_⟩)
      repeat (first | ((with_reducible refine k_move ?_); refine m_move rfl ?_) | ((with_reducible refine k_store ?_); refine m_store tbOk rfl rfl rfl rfl rfl rfl rfl (Nat.le_of_ble_eq_true rfl) rfl ?_) | ((with_reducible refine k_nilCheck ?_); refine x_nilCheck_ptr rfl ?_)  | refine e_nrm ?_ | refine x_none rfl ?_ | with_reducible (first | refine q_then ?_ | refine q_block ?_ | refine awp_skip ?_) | ((with_reducible refine w_region ?_ ?_); kernel_rfl))
      refine ⟨seen ++ [1], ?_, stillQ_less (n := 4) (by decide) hi, ⟨rfl, rfl, rfl, rfl, rfl, trivial⟩, ⟨hc_box ?_, rfl, rfl, rfl, rfl, trivial⟩⟩
      · intro j hj
        rcases List.mem_append.1 hj with hj | hj
        · exact hs j hj
        · simp at hj
          subst hj
          have d : (!(numP (wAt W 2) 65536).isSome) = false := c
          rw [Bool.not_eq_false'] at d
          exact ⟨by decide, d⟩
      · rw [setQ_new (i := 1), setQ_old (i := 1) (j := 0) (by decide), setQ_old (i := 1) (j := 2) (by decide), setQ_old (i := 1) (j := 3) (by decide)]; rfl
    · obtain rfl : p = ((.int .i64 4 : Value), 6, v 6, 2) := (Option.some.inj hp).symm
      repeat (first | ((with_reducible refine k_extract ?_); refine x_extract rfl rfl ?_)  | refine e_nrm ?_ | refine x_none rfl ?_ | with_reducible (first | refine q_then ?_ | refine awp_seq ?_ | refine awp_block ?_ | refine awp_skip ?_) | ((with_reducible refine w_region ?_ ?_); kernel_rfl) | refine w_cond_t rfl (by first | rfl | assumption) ?_)
      refine x_entryQ rfl rfl rfl rfl (i := 2) (L := mapQ (v 6)) rfl (.v (.int .i64 4)) rfl ?_
      repeat (first | ((with_reducible refine k_move ?_); refine m_move rfl ?_) | ((with_reducible refine k_assign ?_); refine m_assign rfl ?_) | ((with_reducible refine k_load ?_); refine x_load_ep_one tbOk rfl rfl rfl ?_) | ((with_reducible refine k_extract ?_); refine x_extract rfl rfl ?_) | ((with_reducible refine k_indexAddr ?_); refine x_indexAddr_n tbOk rfl rfl rfl rfl (by assumption) ?_)  | refine e_nrm ?_ | refine x_none rfl ?_ | with_reducible (first | refine q_then ?_ | refine awp_seq ?_) | ((with_reducible refine w_region ?_ ?_); kernel_rfl))
      refine x_call0 (hn4) (by repeat' (first | exact trivial | exact Ren.v _ | refine ⟨?_, ?_⟩)) (by repeat' (first | exact trivial | exact RenB.v _ | refine renb_tu ?_ | refine ⟨?_, ?_⟩)) ?_
      repeat (first | ((with_reducible refine k_move ?_); refine m_move rfl ?_) | ((with_reducible refine k_assign ?_); refine m_assign rfl ?_) | ((with_reducible refine k_un ?_); refine x_not rfl ?_) | ((with_reducible refine k_extract ?_); refine x_extract rfl rfl ?_)  | refine e_nrm ?_ | refine x_none rfl ?_ | with_reducible (first | refine q_then ?_ | refine awp_seq ?_) | ((with_reducible refine w_region ?_ ?_); kernel_rfl))
      refine w_cond rfl (fun c => ?_) (fun c => ?_)
      · have hno : readR V W = none := hM (by
          have d : (!(numP (wAt W 4) 65536).isSome) = true := c
          rw [Bool.not_eq_true'] at d
          unfold numsR
          simp only [d, Bool.false_and, Bool.and_false])
        rw [hno]
        repeat (first | ((with_reducible refine k_assign ?_); refine m_assign rfl ?_) | ((with_reducible refine k_store ?_); refine m_store tbOk rfl rfl rfl rfl rfl rfl rfl (Nat.le_of_ble_eq_true rfl) rfl ?_) | ((with_reducible refine k_build ?_); refine m_build tbOk rfl rfl rfl rfl rfl ?_)  | refine e_nrm ?_ | refine x_none rfl ?_ | with_reducible (first | refine q_then ?_ | refine q_then_ret ?_ | refine q_block_ret ?_ | refine awp_seq ?_ | refine awp_ret ?_) | ((with_reducible refine w_region ?_ ?_); kernel_rfl))
        refine ret0_ct (by first | exact .inr rfl | exact .inl rfl) rfl rfl rfl rfl rfl rfl ?_
        repeat' (first | exact trivial | exact Ren.v _ | exact Ren.nil _ | refine ren_ag ?_ | refine ren_tu ?_ | refine ⟨?_, ?_⟩)
      repeat (first | ((with_reducible refine k_move ?_); refine m_move rfl ?_) | ((with_reducible refine k_store ?_); refine m_store tbOk rfl rfl rfl rfl rfl rfl rfl (Nat.le_of_ble_eq_true rfl) rfl ?_) | ((with_reducible refine k_nilCheck ?_); refine x_nilCheck_ptr rfl ?_)  | refine e_nrm ?_ | refine x_none rfl ?_ | with_reducible (first | refine q_then ?_ | refine q_block ?_ | refine awp_skip ?_) | ((with_reducible refine w_region ?_ ?_); kernel_rfl))
      refine ⟨seen ++ [2], ?_, stillQ_less (n := 4) (by decide) hi, ⟨rfl, rfl, rfl, rfl, rfl, trivial⟩, ⟨hc_box ?_, rfl, rfl, rfl, rfl, trivial⟩⟩
      · intro j hj
        rcases List.mem_append.1 hj with hj | hj
        · exact hs j hj
        · simp at hj
          subst hj
          have d : (!(numP (wAt W 4) 65536).isSome) = false := c
          rw [Bool.not_eq_false'] at d
          exact ⟨by decide, d⟩
      · rw [setQ_old (i := 2) (j := 1) (by decide), setQ_old (i := 2) (j := 0) (by decide), setQ_new (i := 2), setQ_old (i := 2) (j := 3) (by decide)]; rfl
    · obtain rfl : p = ((.int .i64 6 : Value), 6, v 6, 3) := (Option.some.inj hp).symm
      repeat (first | ((with_reducible refine k_extract ?_); refine x_extract rfl rfl ?_)  | refine e_nrm ?_ | refine x_none rfl ?_ | with_reducible (first | refine q_then ?_ | refine awp_seq ?_ | refine awp_block ?_ | refine awp_skip ?_) | ((with_reducible refine w_region ?_ ?_); kernel_rfl) | refine w_cond_t rfl (by first | rfl | assumption) ?_)
      refine x_entryQ rfl rfl rfl rfl (i := 3) (L := mapQ (v 6)) rfl (.v (.int .i64 6)) rfl ?_
      repeat (first | ((with_reducible refine k_move ?_); refine m_move rfl ?_) | ((with_reducible refine k_assign ?_); refine m_assign rfl ?_) | ((with_reducible refine k_load ?_); refine x_load_ep_one tbOk rfl rfl rfl ?_) | ((with_reducible refine k_extract ?_); refine x_extract rfl rfl ?_) | ((with_reducible refine k_indexAddr ?_); refine x_indexAddr_n tbOk rfl rfl rfl rfl (by assumption) ?_)  | refine e_nrm ?_ | refine x_none rfl ?_ | with_reducible (first | refine q_then ?_ | refine awp_seq ?_) | ((with_reducible refine w_region ?_ ?_); kernel_rfl))
      refine x_call0 (hn6) (by repeat' (first | exact trivial | exact Ren.v _ | refine ⟨?_, ?_⟩)) (by repeat' (first | exact trivial | exact RenB.v _ | refine renb_tu ?_ | refine ⟨?_, ?_⟩)) ?_
      repeat (first | ((with_reducible refine k_move ?_); refine m_move rfl ?_) | ((with_reducible refine k_assign ?_); refine m_assign rfl ?_) | ((with_reducible refine k_un ?_); refine x_not rfl ?_) | ((with_reducible refine k_extract ?_); refine x_extract rfl rfl ?_)  | refine e_nrm ?_ | refine x_none rfl ?_ | with_reducible (first | refine q_then ?_ | refine awp_seq ?_) | ((with_reducible refine w_region ?_ ?_); kernel_rfl))
      refine w_cond rfl (fun c => ?_) (fun c => ?_)
      · have hno : readR V W = none := hM (by
          have d : (!(numP (wAt W 6) 65536).isSome) = true := c
          rw [Bool.not_eq_true'] at d
          unfold numsR
          simp only [d, Bool.false_and, Bool.and_false])
        rw [hno]
        repeat (first | ((with_reducible refine k_assign ?_); refine m_assign rfl ?_) | ((with_reducible refine k_store ?_); refine m_store tbOk rfl rfl rfl rfl rfl rfl rfl (Nat.le_of_ble_eq_true rfl) rfl ?_) | ((with_reducible refine k_build ?_); refine m_build tbOk rfl rfl rfl rfl rfl ?_)  | refine e_nrm ?_ | refine x_none rfl ?_ | with_reducible (first | refine q_then ?_ | refine q_then_ret ?_ | refine q_block_ret ?_ | refine awp_seq ?_ | refine awp_ret ?_) | ((with_reducible refine w_region ?_ ?_); kernel_rfl))
        refine ret0_ct (by first | exact .inr rfl | exact .inl rfl) rfl rfl rfl rfl rfl rfl ?_
        repeat' (first | exact trivial | exact Ren.v _ | exact Ren.nil _ | refine ren_ag ?_ | refine ren_tu ?_ | refine ⟨?_, ?_⟩)
      repeat (first | ((with_reducible refine k_move ?_); refine m_move rfl ?_) | ((with_reducible refine k_store ?_); refine m_store tbOk rfl rfl rfl rfl rfl rfl rfl (Nat.le_of_ble_eq_true rfl) rfl ?_) | ((with_reducible refine k_nilCheck ?_); refine x_nilCheck_ptr rfl ?_)  | refine e_nrm ?_ | refine x_none rfl ?_ | with_reducible (first | refine q_then ?_ | refine q_block ?_ | refine awp_skip ?_) | ((with_reducible refine w_region ?_ ?_); kernel_rfl))
      refine ⟨seen ++ [3], ?_, stillQ_less (n := 4) (by decide) hi, ⟨rfl, rfl, rfl, rfl, rfl, trivial⟩, ⟨hc_box ?_, rfl, rfl, rfl, rfl, trivial⟩⟩
      · intro j hj
        rcases List.mem_append.1 hj with hj | hj
        · exact hs j hj
        · simp at hj
          subst hj
          have d : (!(numP (wAt W 6) 65536).isSome) = false := c
          rw [Bool.not_eq_false'] at d
          exact ⟨by decide, d⟩
      · rw [setQ_old (i := 3) (j := 1) (by decide), setQ_old (i := 3) (j := 0) (by decide), setQ_old (i := 3) (j := 2) (by decide), setQ_new (i := 3)]; rfl
  replace hall : ∀ i, i < 4 → i ∈ seen := hall
  have hnum : numsR W = true := by
    have a0 := (hs 0 (hall 0 (by decide))).2
    have a1 := (hs 1 (hall 1 (by decide))).2
    have a2 := (hs 2 (hall 2 (by decide))).2
    have a3 := (hs 3 (hall 3 (by decide))).2
    unfold numsR
    have a0' : (numP (wAt W 1) 65536).isSome = true := a0
    have a1' : (numP (wAt W 2) 65536).isSome = true := a1
    have a2' : (numP (wAt W 4) 65536).isSome = true := a2
    have a3' : (numP (wAt W 6) 65536).isSome = true := a3
    rw [a0', a1', a2', a3']
    rfl
  obtain ⟨m, hm⟩ : ∃ m, m = (W.length - 7) / 5 := ⟨_, rfl⟩
  have hWl : W.length = 7 + 5 * m := by omega
  have hread : readR V W = (locksR V m (W.drop 7) []).map (ceR W) := by unfold readR; rw [if_pos ⟨hH, hnum⟩, hm]
  rw [setQ_in (hall 1 (by decide)), setQ_in (hall 0 (by decide)), setQ_in (hall 2 (by decide)), setQ_in (hall 3 (by decide))]
  clear hs hall hM hn1 hn2 hn4 hn6 z0 z1 z2 z3 z4 z5 z6 hnum hm
  repeat (first | ((with_reducible refine k_move ?_); refine m_move rfl ?_) | ((with_reducible refine k_assign ?_); refine m_assign rfl ?_) | ((with_reducible refine k_extract ?_); refine x_extract rfl rfl ?_) | ((with_reducible refine k_slice ?_); refine x_slice tbOk rfl rfl rfl rfl rfl (by refine ⟨?_, ?_, ?_⟩ <;> omega) ?_)  | refine e_nrm ?_ | refine x_none rfl ?_ | with_reducible (first | refine q_then ?_ | refine q_then_exit ?_ | refine awp_seq ?_ | refine awp_block ?_ | refine awp_exit ?_) | ((with_reducible refine q_block_exit ?_ ?_); rfl) | ((with_reducible refine w_region ?_ ?_); kernel_rfl) | refine w_cond_f rfl (by first | rfl | assumption) ?_)
  refine awp_own_at (s := 89) 52 3 [] [(6, [.v (.int .i64 x2), .v (.int .i64 x1), .v (.int .i64 x4), .v (.int .i64 x6), .own 89 (v 89 + 1)])] rfl trivial ⟨⟨_, _, rfl, .same (.same (.same (.same (.hit .nil))))⟩, trivial⟩ ?_
  refine awp_loop (ι := Nat × List Lk) (fun i => i.1 ≤ m ∧ i.2.length = i.1 ∧ locksR V (m - i.1) (W.drop (7 + 5 * i.1)) i.2 = locksR V m (W.drop 7) []) (fun i => m - i.1) (fun v i => [(2, .ptr 2 (v 2) 0), (4, .ptr 4 (v 4) 0), (6, .ptr 6 (v 6) 0), (11, .sl 1 ((W.drop (7 + 5 * i.1)).map svL))]) (fun v i => [(2, .box [.sl 3 (N.map Nd.av), .sl 5 (V.map Dv.av)]), (4, .box [.v (.int .i64 0), .v (.int .i64 0), .v (.int .i64 0), .v (.int .i64 0), .v (.slice none 0 0)]), (6, .box [.v (.int .i64 x2), .v (.int .i64 x1), .v (.int .i64 x4), .v (.int .i64 x6), .own 89 (v 89)]), (89, .buf 52 3 (i.2.map Lk.av))]) ?_ ?_
  · exact ⟨(0, []), ⟨Nat.zero_le _, rfl, rfl⟩, trivial, ⟨rfl, rfl, rfl, congrArg (AV.sl 1) (rest7 (W := W) rfl), trivial⟩, ⟨rfl, rfl, rfl, rfl, trivial⟩⟩
  clear v
  rintro v ⟨k, Q⟩ ⟨hk, hQl, hgo⟩
  dsimp only at hk hQl hgo ⊢
  have hrl : ((W.drop (7 + 5 * k)).map svL).length = 5 * (m - k) := by rw [List.length_map, List.length_drop]; omega
  repeat (first | ((with_reducible refine k_move ?_); refine m_move rfl ?_) | ((with_reducible refine k_call ?_); refine x_len tbOk rfl rfl ?_) | ((with_reducible refine k_bin ?_); refine m_binI rfl rfl rfl ?_)  | refine e_nrm ?_ | refine x_none rfl ?_ | with_reducible (first | refine q_then ?_ | refine awp_seq ?_) | ((with_reducible refine w_region ?_ ?_); kernel_rfl))
  refine w_cond rfl (fun c => ?_) (fun c => ?_)
  · have hlt : k < m := by rw [hrl] at c; simp at c; omega
    have hlk := lock_A (G := X.G) N V (W.drop (7 + 5 * k)) hG ok (by rw [List.length_drop]; omega) (fun w hx => hw w (List.mem_of_mem_drop hx))
    rw [show m - k = (m - (k + 1)) + 1 by omega, locksR] at hgo
    obtain ⟨⟨q, qb⟩, hq⟩ : ∃ q, q = lockR V (W.drop (7 + 5 * k)) := ⟨_, rfl⟩
    rw [← hq] at hlk hgo
    dsimp only at hlk hgo
    have hQm : (Q.map Lk.av).length ≤ 1000000 := by rw [List.length_map]; omega
    repeat (first | ((with_reducible refine k_move ?_); refine m_move rfl ?_) | ((with_reducible refine k_load ?_); refine x_load_agg tbOk rfl rfl rfl rfl (Nat.le_of_ble_eq_true rfl) ?_)  | refine x_none rfl ?_ | with_reducible (first | refine q_then ?_ | refine awp_seq ?_ | refine awp_block ?_ | refine awp_skip ?_) | ((with_reducible refine w_region ?_ ?_); kernel_rfl))
    refine x_call0 (hlk) (by repeat' (first | exact trivial | exact Ren.sl _ _ | refine ren_ag ?_ | refine ⟨?_, ?_⟩)) (by repeat' (first | exact trivial | exact RenB.v _ | refine renb_ag ?_ | refine renb_tu ?_ | refine ⟨?_, ?_⟩)) ?_
    repeat (first | ((with_reducible refine k_move ?_); refine m_move rfl ?_) | ((with_reducible refine k_assign ?_); refine m_assign rfl ?_) | ((with_reducible refine k_store ?_); refine m_store tbOk rfl rfl rfl rfl rfl rfl rfl (Nat.le_of_ble_eq_true rfl) rfl ?_) | ((with_reducible refine k_alloc ?_); refine x_alloc tbOk rfl rfl ?_) | ((with_reducible refine k_un ?_); refine x_not rfl ?_) | ((with_reducible refine k_extract ?_); refine x_extract rfl rfl ?_)  | refine e_nrm ?_ | refine x_none rfl ?_ | with_reducible (first | refine q_then ?_ | refine awp_seq ?_) | ((with_reducible refine w_region ?_ ?_); kernel_rfl))
    refine w_cond rfl (fun d => ?_) (fun d => ?_)
    · rw [if_neg (by simpa using d)] at hgo
      rw [hread, ← hgo]
      repeat (first | ((with_reducible refine k_assign ?_); refine m_assign rfl ?_) | ((with_reducible refine k_store ?_); refine m_store tbOk rfl rfl rfl rfl rfl rfl rfl (Nat.le_of_ble_eq_true rfl) rfl ?_) | ((with_reducible refine k_build ?_); refine m_build tbOk rfl rfl rfl rfl rfl ?_)  | refine e_nrm ?_ | refine x_none rfl ?_ | with_reducible (first | refine q_then ?_ | refine q_then_ret ?_ | refine q_block_ret ?_ | refine awp_seq ?_ | refine awp_ret ?_) | ((with_reducible refine w_region ?_ ?_); kernel_rfl))
      refine ret0_ct (by first | exact .inr rfl | exact .inl rfl) rfl rfl rfl rfl rfl rfl ?_
      repeat' (first | exact trivial | exact Ren.v _ | exact Ren.nil _ | refine ren_ag ?_ | refine ren_tu ?_ | refine ⟨?_, ?_⟩)
    rw [if_pos (by simpa using d), List.drop_drop] at hgo
    repeat (first | ((with_reducible refine k_fieldAddr ?_); refine x_fieldAddr_ptr tbOk rfl rfl rfl rfl ?_) | ((with_reducible refine k_load ?_); (first | refine x_load_one tbOk rfl rfl rfl rfl rfl ?_ | refine x_load_agg tbOk rfl rfl rfl rfl (Nat.le_of_ble_eq_true rfl) ?_)) | ((with_reducible refine k_buildSlice ?_); refine m_buildSlice tbOk rfl rfl rfl rfl rfl (by omega) rfl rfl rfl ?_) | refine x_none rfl ?_ | with_reducible (first | refine q_then ?_ | refine awp_skip ?_) | ((with_reducible refine w_region ?_ ?_); kernel_rfl))
    refine x_append_own tbOk rfl rfl rfl rfl rfl (by decide) rfl rfl rfl rfl rfl (fun x hx => by simp at hx; subst hx; rfl) (by simp only [List.length_map, List.length_cons, List.length_nil]; omega) (by simp only [List.length_map, List.length_cons, List.length_nil]; omega) ?_
    repeat (first | ((with_reducible refine k_move ?_); refine m_move rfl ?_) | ((with_reducible refine k_assign ?_); refine m_assign rfl ?_) | ((with_reducible refine k_fieldAddr ?_); refine x_fieldAddr_ptr tbOk rfl rfl rfl rfl ?_) | ((with_reducible refine k_store ?_); refine m_store tbOk rfl rfl rfl rfl rfl rfl rfl (Nat.le_of_ble_eq_true rfl) rfl ?_) | ((with_reducible refine k_slice ?_); refine x_slice tbOk rfl rfl rfl rfl rfl (by refine ⟨?_, ?_, ?_⟩ <;> omega) ?_)  | refine e_nrm ?_ | refine x_none rfl ?_ | with_reducible (first | refine q_then ?_ | refine q_block ?_) | ((with_reducible refine w_region ?_ ?_); kernel_rfl))
    exact ⟨(k + 1, Q ++ [q]), ⟨hlt, by simp [hQl], hgo⟩, by dsimp only; omega, ⟨rfl, rfl, rfl, congrArg (AV.sl 1) (rest5 (a := 7 + 5 * k) rfl), trivial⟩, ⟨rfl, rfl, rfl, hc_buf (by rw [List.map_append]; rfl), trivial⟩⟩
  · have hge : k = m := by rw [hrl] at c; simp at c; omega
    rw [hge, Nat.sub_self, locksR] at hgo
    have hce : (ceR W Q).av = .ag [.v (.int .i64 x2), .v (.int .i64 x1), .v (.int .i64 x4), .v (.int .i64 x6), .sl 3 (Q.map Lk.av)] := by
      unfold ceR Ce.av
      rw [hx1, hx2, hx4, hx6]
    rw [hread, ← hgo, Option.map_some, Option.getD_some, hce]
    refine awp_freeze_at (s := 89) [] [(6, [.v (.int .i64 x2), .v (.int .i64 x1), .v (.int .i64 x4), .v (.int .i64 x6), .sl 3 (Q.map Lk.av)])] rfl trivial ⟨⟨_, _, rfl, .same (.same (.same (.same (.hit .nil))))⟩, trivial⟩ ?_
    repeat (first | ((with_reducible refine k_assign ?_); refine m_assign rfl ?_) | ((with_reducible refine k_load ?_); refine x_load_agg tbOk rfl rfl rfl rfl (Nat.le_of_ble_eq_true rfl) ?_) | ((with_reducible refine k_store ?_); refine m_store tbOk rfl rfl rfl rfl rfl rfl rfl (Nat.le_of_ble_eq_true rfl) rfl ?_)  | refine e_nrm ?_ | refine x_none rfl ?_ | with_reducible (first | refine q_then ?_ | refine q_then_exit ?_ | refine awp_seq ?_ | refine awp_exit ?_ | refine awp_ret ?_) | ((with_reducible refine q_block_exit ?_ ?_); rfl) | ((with_reducible refine w_region ?_ ?_); kernel_rfl))
    refine ret0_ct (by first | exact .inr rfl | exact .inl rfl) rfl rfl rfl rfl rfl rfl ?_
    repeat' (first | exact trivial | exact Ren.v _ | exact Ren.sl _ _ | refine ren_ag ?_ | refine ren_tu ?_ | refine ⟨?_, ?_⟩)
end Go.Proofs.YtamihjgfncjdoaaGreatDoor
