/- permitofficelaw05.RegisterAnswers, by the abstract machine: it answers true for all its arguments; conditions: the tables of classes and powers and a cell of the library stand. -/
import Derived.Test.YtggagmafkdhjcaaGreatDoorRxD
import Derived.Test.YtggagmafkdhjcaaGreatDoorAbsM
import Derived.Test.YtggagmafkdhjcaaGreatDoorAbsW
set_option linter.unusedVariables false
set_option linter.unusedSimpArgs false
namespace Go.Proofs.YtggagmafkdhjcaaGreatDoor
open Go Go.RowKit
set_option maxRecDepth 10000
variable {G : Nat → Option (List Value)}
theorem Dk.in_ (D : Dk) {n : Int} (h1 : 1 ≤ n) (h2 : n ≤ 1000000) : 0 ≤ D.val n ∧ D.val n < n := by
  have h := D.val_range (n := n) (by omega)
  exact ⟨h.1, h.2.1 h1⟩
theorem removeK_len (L : List Per) (nm : ByteArray) : (removeK L nm).1.length ≤ L.length := by
  unfold removeK
  repeat' split
  all_goals simp
  omega
theorem addK_len2 (R : List Per) (p : Per) : (addK R p).1.length ≤ R.length + 1 := by
  unfold addK
  repeat' split
  all_goals simp [isort_len]
theorem regGo_len : ∀ (L : List (List UInt8)) (i : Nat) (R R' : List Per), R.length ≤ 64 → regGo i R L = .ok R' → R'.length ≤ 64
  | [], i, R, R', h, e => by
    rw [regGo] at e
    cases e
    exact h
  | l :: L, i, R, R', h, e => by
    rw [regGo_cons] at e
    split at e
    · exact regGo_len L _ R R' h e
    split at e
    · cases e
    split at e
    · cases e
    rename_i h3
    exact regGo_len L _ _ R' (addK_vl (Classical.not_not.1 h3)).1 e
theorem parseR_len (s : List UInt8) : (parseR s).1.length ≤ 64 := by
  unfold parseR
  split
  · exact Nat.zero_le _
  · rename_i L _
    cases h : regGo 0 [] L with
    | error e => exact Nat.zero_le _
    | ok R => exact regGo_len L 0 [] R (Nat.zero_le _) h
theorem findI_eq (L : List Per) (nm : ByteArray) (h : ∀ p ∈ L, I64 p.s) : findI pfaultE L nm = findI pvalidE L nm := by unfold findI; rw [pcheck_eq L h]
/-- What is asked of a register that is tried. -/
structure RgT (L : List Per) : Prop where
  l : L.length ≤ 70
  n : ∀ q ∈ L, q.n.size ≤ maxLen
  i : ∀ q ∈ L, I64 q.s
theorem RgT.m {L : List Per} (h : RgT L) : L.length ≤ maxLen := by have := h.l; unfold maxLen; omega
set_option maxRecDepth 100000 in
set_option maxHeartbeats 16000000 in
theorem answers_law (l : List Int) (R0 : List Per) (p0 : Per) (s : ByteArray) (sk t : Int) (hRl : R0.length ≤ maxLen) (hRn : ∀ q ∈ R0, q.n.size ≤ maxLen) (hRi : ∀ q ∈ R0, I64 q.s) (hpn : p0.n.size ≤ maxLen) (hpi : I64 p0.s) (hsk : I64 sk) (hG : GCls G) (hP : GPow G) (hM : GMax G) :
    ACalls Tryz.prog G 4 [.sl 1 (l.map iv), .ag [.sl 5 (R0.map Per.av)], p0.av, .v (.string s), .v (.int .i64 sk), .v (.int .i64 t)] [] (.v (.bool true)) [] := by
  refine acalls_of tbOk (enter_of Tryz.func4 (by kernel_rfl) rfl) Tryz.func4 rfl _ Tryz.ntmps4 (Nat.le_of_ble_eq_true rfl) fun X hX => ?_
  subst hX
  repeat (first | ((with_reducible refine k_move ?_); refine m_move rfl ?_) | ((with_reducible refine k_assign ?_); refine m_assign rfl ?_) | ((with_reducible refine k_box ?_); refine m_box rfl rfl rfl ?_)  | refine e_nrm ?_ | refine x_none rfl ?_ | with_reducible (first | refine q_then ?_ | refine awp_seq ?_) | ((with_reducible refine w_region ?_ ?_); kernel_rfl))
  refine x_call0 (few_A (l.map iv)) (by repeat' (first | exact trivial | exact Ren.sl _ _ | refine ⟨?_, ?_⟩)) (by repeat' exact RenB.v _) ?_
  repeat (first | ((with_reducible refine k_move ?_); refine m_move rfl ?_) | ((with_reducible refine k_un ?_); refine x_not rfl ?_)  | refine x_none rfl ?_  )
  refine x_split rfl rfl (fun c1 => ?_) (fun c1 => ?_)
  · repeat (first | ((with_reducible refine k_move ?_); refine m_move rfl ?_) | ((with_reducible refine k_pick ?_); refine m_pickt rfl (by first | rfl | assumption) rfl ?_)  | refine e_nrm ?_ | refine x_none rfl ?_ | refine x_skip_f rfl rfl (by first | rfl | assumption) ?_ | with_reducible (first | refine q_then ?_ | refine awp_seq ?_) | ((with_reducible refine w_region ?_ ?_); kernel_rfl) | refine w_cond_t rfl (by first | rfl | assumption) ?_)
    refine x_call0 (awake_A hG) (by repeat' exact trivial) (by repeat' exact RenB.v _) ?_
    repeat (first | ((with_reducible refine k_assign ?_); refine m_assign rfl ?_)  | refine e_nrm ?_ | refine x_none rfl ?_ | with_reducible (first | refine q_then ?_ | refine q_then_ret ?_ | refine awp_ret ?_) )
    refine ret_v (by first | exact .inr rfl | exact .inl rfl) rfl rfl ?_
    rfl
  have hl : l.length ≤ 400 := by simp at c1; omega
  repeat (first | ((with_reducible refine k_move ?_); refine m_move rfl ?_) | ((with_reducible refine k_fieldAddr ?_); refine x_fieldAddr_ptr tbOk rfl rfl rfl rfl ?_) | ((with_reducible refine k_load ?_); refine x_load_one tbOk rfl rfl rfl rfl rfl ?_) | ((with_reducible refine k_pick ?_); refine m_pickf rfl (by first | rfl | assumption) rfl ?_) | ((with_reducible refine k_call ?_); refine x_len tbOk rfl rfl ?_) | ((with_reducible refine k_bin ?_); refine m_binI rfl rfl rfl ?_)  | refine x_none rfl ?_ | refine x_run_f rfl rfl (by first | rfl | assumption) ?_  )
  refine x_split rfl rfl (fun c2 => ?_) (fun c2 => ?_)
  · repeat (first | ((with_reducible refine k_pick ?_); refine m_pickt rfl (by first | rfl | assumption) rfl ?_)  | refine e_nrm ?_ | refine x_none rfl ?_ | refine x_skip_f rfl rfl (by first | rfl | assumption) ?_ | with_reducible (first | refine q_then ?_ | refine awp_seq ?_) | ((with_reducible refine w_region ?_ ?_); kernel_rfl) | refine w_cond_t rfl (by first | rfl | assumption) ?_)
    refine x_call0 (awake_A hG) (by repeat' exact trivial) (by repeat' exact RenB.v _) ?_
    repeat (first | ((with_reducible refine k_assign ?_); refine m_assign rfl ?_)  | refine e_nrm ?_ | refine x_none rfl ?_ | with_reducible (first | refine q_then ?_ | refine q_then_ret ?_ | refine awp_ret ?_) )
    refine ret_v (by first | exact .inr rfl | exact .inl rfl) rfl rfl ?_
    rfl
  repeat (first | ((with_reducible refine k_move ?_); refine m_move rfl ?_) | ((with_reducible refine k_pick ?_); refine m_pickf rfl (by first | rfl | assumption) rfl ?_) | ((with_reducible refine k_call ?_); refine x_len_str (by exact Tryz.underlying9) rfl ?_) | ((with_reducible refine k_bin ?_); refine m_binI rfl rfl rfl ?_)  | refine e_nrm ?_ | refine x_none rfl ?_ | refine x_run_f rfl rfl (by first | rfl | assumption) ?_ | with_reducible refine q_then ?_ )
  refine w_cond rfl (fun c3 => ?_) (fun c3 => ?_)
  · repeat (first   | refine x_none rfl ?_ | with_reducible refine awp_seq ?_ | ((with_reducible refine w_region ?_ ?_); kernel_rfl))
    refine x_call0 (awake_A hG) (by repeat' exact trivial) (by repeat' exact RenB.v _) ?_
    repeat (first | ((with_reducible refine k_assign ?_); refine m_assign rfl ?_)  | refine e_nrm ?_ | refine x_none rfl ?_ | with_reducible (first | refine q_then ?_ | refine q_then_ret ?_ | refine awp_ret ?_) )
    refine ret_v (by first | exact .inr rfl | exact .inl rfl) rfl rfl ?_
    rfl
  have hR0 : RgT R0 := ⟨by simp at c2; omega, hRn, hRi⟩
  have hs1000 : s.size ≤ 1000 := by simp at c3; omega
  clear c1 c2 c3
  have hD := DkOk.new hl
  have hS := some_A (G := X.G) (dk0 l) hD hG
  have hv7 := (dk0 l).val_range (n := 7) (by omega)
  have hv7' := hv7.2.1 (by omega)
  obtain ⟨hD1, hGd⟩ := someK_ok ((dk0 l).val 7).toNat (dk0 l).next [] hD.next ⟨Nat.zero_le _, fun q hq => absurd hq List.not_mem_nil⟩
  obtain ⟨hR, hRl6⟩ := someK_vl ((dk0 l).val 7).toNat (dk0 l).next [] vl_nil
  simp only [List.length_nil] at hRl6
  obtain ⟨⟨D, R⟩, hQ⟩ : ∃ q, q = someK ((dk0 l).val 7).toNat (dk0 l).next [] := ⟨_, rfl⟩
  rw [← hQ] at hS hD1 hGd hR hRl6
  dsimp only at hS hD1 hGd hR hRl6
  have hR6 : R.length ≤ 6 := by omega
  clear hQ hv7 hv7' hRl6
  have hi : ∀ p ∈ R, I64 p.s := fun p hp => (hGd.2 p hp).2.2.1
  have hc0 : pcheckE pvalidE R = 0 := (check_iff R).2 hR
  have hpr : printR R = (strL (regT R), 0) := by unfold printR; rw [if_neg (by simpa using hc0)]
  have hRT : RgT R := ⟨by omega, hGd.nam, hi⟩
  have hprt := rrprint_A (G := X.G) R hG hP hRT.n hRT.i hRT.m
  rw [hpr] at hprt
  have hTl := regT_len (M := R) (fun p hp => pv_ok (hR.2.1 p hp) (hi p hp))
  obtain ⟨T, hT⟩ : ∃ T, T = strL (regT R) := ⟨_, rfl⟩
  have hTs : T.size ≤ 7000 := by rw [hT, strL_size]; omega
  rw [← hT] at hprt
  dsimp only at hprt
  clear hT hTl hpr hc0
  have hrl : (R.map Per.av).length = R.length := by simp
  have hpf : ((R.map Per.av).flatMap AV.cells).length = R.length * 5 := by rw [flat_len' (per_sz _), hrl]
  repeat (first | ((with_reducible refine k_move ?_); refine m_move rfl ?_)  | refine x_none rfl ?_ | with_reducible (first | refine q_then ?_ | refine awp_seq ?_ | refine awp_skip ?_) | ((with_reducible refine w_region ?_ ?_); kernel_rfl))
  refine x_call_new (new_A l) (by repeat' (first | exact trivial | exact Ren.sl _ _ | refine ⟨?_, ?_⟩)) (by repeat' (first | exact trivial | exact RenB.v _ | exact RenB.sl _ _ | refine ⟨?_, ?_⟩)) rfl ?_
  repeat (first | ((with_reducible refine k_move ?_); refine m_move rfl ?_) | ((with_reducible refine k_assign ?_); refine m_assign rfl ?_)  | refine e_nrm ?_ | refine x_none rfl ?_ | with_reducible (first | refine q_then ?_ | refine awp_seq ?_) | ((with_reducible refine w_region ?_ ?_); kernel_rfl))
  refine x_call (y := regAV R) (ss := [(63, 1)]) (hS) (by repeat' (first | exact trivial | exact Ren.ptr _ _ _ _ rfl | refine ⟨?_, ?_⟩)) (by simp) (in1 rfl rfl) rfl (back1 rfl) (by repeat' (first | exact trivial | exact RenB.sl _ _ | refine renb_ag ?_ | refine ⟨?_, ?_⟩)) ?_
  repeat (first | ((with_reducible refine k_fieldAddr ?_); refine x_fieldAddr_ptr tbOk rfl rfl rfl rfl ?_) | ((with_reducible refine k_load ?_); refine x_load_one tbOk rfl rfl rfl rfl rfl ?_) | ((with_reducible refine k_store ?_); refine m_store tbOk rfl rfl rfl rfl rfl rfl rfl (Nat.le_of_ble_eq_true rfl) rfl ?_) | ((with_reducible refine k_alloc ?_); refine x_alloc tbOk rfl rfl ?_)  | refine e_nrm ?_ | refine x_none rfl ?_ | with_reducible (first | refine q_then ?_ | refine awp_seq ?_) | ((with_reducible refine w_region ?_ ?_); kernel_rfl))
  refine x_append_nil tbOk rfl rfl rfl rfl rfl (by decide) rfl rfl rfl (per_oneA R) (by omega) ?_
  repeat (first | ((with_reducible refine k_fieldAddr ?_); refine x_fieldAddr_ptr tbOk rfl rfl rfl rfl ?_) | ((with_reducible refine k_load ?_); refine x_load_one tbOk rfl rfl rfl rfl rfl ?_) | ((with_reducible refine k_store ?_); refine m_store tbOk rfl rfl rfl rfl rfl rfl rfl (Nat.le_of_ble_eq_true rfl) rfl ?_) | ((with_reducible refine k_alloc ?_); refine x_alloc tbOk rfl rfl ?_) | ((with_reducible refine k_build ?_); refine m_build tbOk rfl rfl rfl rfl rfl ?_) | ((with_reducible refine k_call ?_); refine x_len_own tbOk rfl rfl rfl rfl ?_) | ((with_reducible refine k_bin ?_); refine m_binI rfl rfl rfl ?_)  | refine e_nrm ?_ | refine x_none rfl ?_ | with_reducible (first | refine q_then ?_ | refine awp_seq ?_) | ((with_reducible refine w_region ?_ ?_); kernel_rfl))
  refine awp_via (ι := List Per × Dk) (fun v i => RgT i.1 ∧ DkOk i.2) (fun v i => [(3, .v (.string s)), (4, .v (.int .i64 sk)), (5, .v (.int .i64 t)), (7, .ptr 7 (v 7) 0), (8, .ptr 8 (v 8) 0), (13, .ptr 63 (v 63) 0), (14, .ptr 14 (v 14) 0), (15, .ptr 15 (v 15) 0)]) (fun v i => [(63, .box i.2.cells), (7, .box [.sl 5 (R0.map Per.av)]), (8, .box p0.av.cells), (14, .box [.sl 5 (R.map Per.av)]), (15, .box [.own 68 (v 68)]), (68, .buf 38 5 (i.1.map Per.av))]) ?_ ?_
  · refine w_cond rfl (fun h => ?_) (fun h => ?_)
    rotate_left
    · repeat (first    | with_reducible (first | refine q_then ?_ | refine awp_skip ?_) )
      exact ⟨(R, D), ⟨hRT, hD1⟩, trivial, ⟨rfl, rfl, rfl, rfl, rfl, rfl, rfl, rfl, trivial⟩, ⟨rfl, rfl, rfl, rfl, rfl, rfl, trivial⟩⟩
    have hpos : 0 < R.length := by simp at h; omega
    have hin := D.in_ (n := (R.length : Int)) (by omega) (by omega)
    have hn1 := next_A (G := X.G) D ((R.map Per.av).length : Int) hD1 (by omega) (by omega)
    obtain ⟨i, hii⟩ : ∃ i : Nat, D.val (R.length : Int) = (i : Int) := ⟨(D.val (R.length : Int)).toNat, by omega⟩
    rw [show D.val ((R.map Per.av).length : Int) = (i : Int) by rw [hrl]; exact hii] at hn1
    rw [hii] at hin
    obtain ⟨r, hr⟩ := some_at (L := R) (k := i) (by omega)
    obtain ⟨r0, hr0⟩ := some_at (L := R) (k := 0) (by omega)
    have hrm := List.mem_of_getElem? hr
    have hrn := hRT.n r hrm
    have hri := hRT.i r hrm
    have hr0n := hRT.n r0 (List.mem_of_getElem? hr0)
    have hts : ∀ (j : Nat) (r' : Per) (u : AV), r'.av.cells = r.av.cells.set j u → j < 5 → ((R.set i r').map Per.av).flatMap AV.cells = putL ((R.map Per.av).flatMap AV.cells) ((i : Int).toNat * 5 + j) [u] := fun j r' u e hj => by
      rw [Int.toNat_natCast, List.map_set]
      exact flat_field (per_sz _) (per_at hr) e hj
    have set5 : ∀ r' : Per, r'.n.size ≤ maxLen → I64 r'.s → RgT (R.set i r') := fun r' h1 h2 => ⟨by rw [List.length_set]; omega, fun q hq => by
      rcases List.mem_or_eq_of_mem_set hq with hq | rfl
      · exact hRT.n q hq
      · exact h1, fun q hq => by
      rcases List.mem_or_eq_of_mem_set hq with hq | rfl
      · exact hRT.i q hq
      · exact h2⟩
    have hn2 := next_A (G := X.G) D.next 4 hD1.next (by omega) (by omega)
    obtain ⟨q4, hq4⟩ : ∃ q, q = D.next.val 4 := ⟨_, rfl⟩
    rw [← hq4] at hn2
    have hdk2 := hD1.next.next
    obtain ⟨D2, hD2⟩ : ∃ D2, D2 = D.next.next := ⟨_, rfl⟩
    rw [← hD2] at hn2 hdk2
    clear hq4 hii
    repeat (first | ((with_reducible refine k_move ?_); refine m_move rfl ?_) | ((with_reducible refine k_fieldAddr ?_); refine x_fieldAddr_ptr tbOk rfl rfl rfl rfl ?_) | ((with_reducible refine k_load ?_); refine x_load_one tbOk rfl rfl rfl rfl rfl ?_) | ((with_reducible refine k_call ?_); refine x_len_own tbOk rfl rfl rfl rfl ?_)  | refine x_none rfl ?_ | with_reducible refine awp_seq ?_ | ((with_reducible refine w_region ?_ ?_); kernel_rfl))
    refine x_call (ss := [(63, 1)]) (hn1) (by repeat' (first | exact trivial | exact Ren.v _ | exact Ren.ptr _ _ _ _ rfl | refine ⟨?_, ?_⟩)) (by simp) (in1 rfl rfl) rfl (back1 rfl) (by repeat' exact RenB.v _) ?_
    repeat (first | ((with_reducible refine k_move ?_); refine m_move rfl ?_) | ((with_reducible refine k_assign ?_); refine m_assign rfl ?_)  | refine e_nrm ?_ | refine x_none rfl ?_ | with_reducible (first | refine q_then ?_ | refine awp_seq ?_) | ((with_reducible refine w_region ?_ ?_); kernel_rfl))
    refine x_call (ss := [(63, 1)]) (hn2) (by repeat' (first | exact trivial | exact Ren.v _ | exact Ren.ptr _ _ _ _ rfl | refine ⟨?_, ?_⟩)) (by simp) (in1 rfl rfl) rfl (back1 rfl) (by repeat' exact RenB.v _) ?_
    repeat (first | ((with_reducible refine k_assign ?_); refine m_assign rfl ?_) | ((with_reducible refine k_bin ?_); refine m_binI rfl rfl rfl ?_)  | refine e_nrm ?_ | refine x_none rfl ?_ | with_reducible (first | refine q_then ?_ | refine awp_seq ?_ | refine awp_block ?_) | ((with_reducible refine w_region ?_ ?_); kernel_rfl))
    refine w_cond rfl (fun h => ?_) (fun h => ?_)
    · repeat (first | ((with_reducible refine k_move ?_); refine m_move rfl ?_) | ((with_reducible refine k_fieldAddr ?_); refine x_fieldAddr_ptr tbOk rfl rfl rfl rfl ?_) | ((with_reducible refine k_load ?_); refine x_load_one tbOk rfl rfl rfl rfl rfl ?_)  | refine x_none rfl ?_  | ((with_reducible refine w_region ?_ ?_); kernel_rfl))
      with_reducible refine k_indexAddr ?_
      refine x_indexAddr_own tbOk rfl rfl rfl rfl rfl rfl ⟨by omega, by omega⟩ ?_
      repeat (first | ((with_reducible refine k_fieldAddr ?_); refine x_fieldAddr_po tbOk rfl rfl rfl rfl ?_)  | refine x_none rfl ?_  )
      with_reducible refine k_store ?_
      refine x_store_po (L' := (R.set i ⟨r.n, r.c, 32, r.f, r.u⟩).map Per.av) tbOk rfl rfl rfl rfl rfl rfl rfl rfl rfl (by rw [hpf, Int.toNat_natCast]; omega) (by simp) (per_sz _) (hts 2 ⟨r.n, r.c, 32, r.f, r.u⟩ _ rfl (by decide)) ?_
      repeat (first   | refine e_nrm ?_ | with_reducible (first | refine q_then ?_ | refine q_block ?_) )
      exact ⟨(R.set i ⟨r.n, r.c, 32, r.f, r.u⟩, D2), ⟨set5 ⟨r.n, r.c, 32, r.f, r.u⟩ (by exact hrn) (by exact (show I64 32 from ⟨by decide, by decide⟩)), hdk2⟩, trivial, ⟨rfl, rfl, rfl, rfl, rfl, rfl, rfl, rfl, trivial⟩, ⟨hc_box (by rw [hD2]), rfl, rfl, rfl, rfl, rfl, trivial⟩⟩
    repeat (first | ((with_reducible refine k_assign ?_); refine m_assign rfl ?_) | ((with_reducible refine k_bin ?_); refine m_binI rfl rfl rfl ?_)  | refine e_nrm ?_ | refine x_none rfl ?_ | with_reducible (first | refine q_then ?_ | refine awp_seq ?_) | ((with_reducible refine w_region ?_ ?_); kernel_rfl))
    refine w_cond rfl (fun h => ?_) (fun h => ?_)
    · repeat (first | ((with_reducible refine k_move ?_); refine m_move rfl ?_) | ((with_reducible refine k_fieldAddr ?_); refine x_fieldAddr_ptr tbOk rfl rfl rfl rfl ?_) | ((with_reducible refine k_load ?_); refine x_load_one tbOk rfl rfl rfl rfl rfl ?_)  | refine x_none rfl ?_  | ((with_reducible refine w_draw mixd ?_ ?_); kernel_rfl))
      with_reducible refine k_indexAddr ?_
      refine x_indexAddr_own tbOk rfl rfl rfl rfl rfl rfl ⟨by omega, by omega⟩ ?_
      repeat (first | ((with_reducible refine k_fieldAddr ?_); refine x_fieldAddr_po tbOk rfl rfl rfl rfl ?_)  | refine x_none rfl ?_  )
      with_reducible refine k_load ?_
      refine x_load_po_one (y := .v (.int .i64 r.f)) tbOk rfl rfl rfl rfl ?_ (by omega) ?_
      · rw [Int.toNat_natCast]
        have hg := flat_get (per_sz _) (per_at hr)
        have h2 : (((R.map Per.av).flatMap AV.cells).drop (i * 5))[3]? = some (.v (.int .i64 r.f)) := by
          have h3 : ((((R.map Per.av).flatMap AV.cells).drop (i * 5)).take 5)[3]? = some (.v (.int .i64 r.f)) := by rw [hg]; rfl
          rwa [List.getElem?_take_of_lt (by decide)] at h3
        rwa [List.getElem?_drop] at h2
      repeat (first   | refine x_none rfl ?_  )
      with_reducible refine k_indexAddr ?_
      refine x_indexAddr_own tbOk rfl rfl rfl rfl rfl rfl ⟨by omega, by omega⟩ ?_
      repeat (first | ((with_reducible refine k_fieldAddr ?_); refine x_fieldAddr_po tbOk rfl rfl rfl rfl ?_)  | refine x_none rfl ?_  )
      with_reducible refine k_store ?_
      refine x_store_po (L' := (R.set i ⟨r.n, r.c, r.s, r.f, r.f⟩).map Per.av) tbOk rfl rfl rfl rfl rfl rfl rfl rfl rfl (by rw [hpf, Int.toNat_natCast]; omega) (by simp) (per_sz _) (hts 4 ⟨r.n, r.c, r.s, r.f, r.f⟩ _ rfl (by decide)) ?_
      repeat (first   | refine e_drw (by kernel_rfl) ?_ | with_reducible (first | refine q_then ?_ | refine q_block ?_) )
      exact ⟨(R.set i ⟨r.n, r.c, r.s, r.f, r.f⟩, D2), ⟨set5 ⟨r.n, r.c, r.s, r.f, r.f⟩ (by exact hrn) (by exact hri), hdk2⟩, trivial, ⟨rfl, rfl, rfl, rfl, rfl, rfl, rfl, rfl, trivial⟩, ⟨hc_box (by rw [hD2]), rfl, rfl, rfl, rfl, rfl, trivial⟩⟩
    repeat (first | ((with_reducible refine k_assign ?_); refine m_assign rfl ?_) | ((with_reducible refine k_bin ?_); refine m_binI rfl rfl rfl ?_)  | refine e_nrm ?_ | refine x_none rfl ?_ | with_reducible (first | refine q_then ?_ | refine awp_seq ?_) | ((with_reducible refine w_region ?_ ?_); kernel_rfl))
    refine w_cond rfl (fun h => ?_) (fun h => ?_)
    · repeat (first | ((with_reducible refine k_move ?_); refine m_move rfl ?_) | ((with_reducible refine k_fieldAddr ?_); refine x_fieldAddr_ptr tbOk rfl rfl rfl rfl ?_) | ((with_reducible refine k_load ?_); refine x_load_one tbOk rfl rfl rfl rfl rfl ?_)  | refine x_none rfl ?_  | ((with_reducible refine w_draw mixd ?_ ?_); kernel_rfl))
      with_reducible refine k_indexAddr ?_
      refine x_indexAddr_own tbOk rfl rfl rfl rfl rfl rfl ⟨by omega, by omega⟩ ?_
      repeat (first | ((with_reducible refine k_fieldAddr ?_); refine x_fieldAddr_po tbOk rfl rfl rfl rfl ?_)  | refine x_none rfl ?_  )
      with_reducible refine k_load ?_
      refine x_load_po_one (y := .v (.string r0.n)) tbOk rfl rfl rfl rfl ?_ (by omega) ?_
      · have hg := flat_get (per_sz _) (per_at hr0)
        have h2 : (((R.map Per.av).flatMap AV.cells).drop (0 * 5))[0]? = some (.v (.string r0.n)) := by
          have h3 : ((((R.map Per.av).flatMap AV.cells).drop (0 * 5)).take 5)[0]? = some (.v (.string r0.n)) := by rw [hg]; rfl
          rwa [List.getElem?_take_of_lt (by decide)] at h3
        rwa [List.getElem?_drop] at h2
      repeat (first   | refine x_none rfl ?_  )
      with_reducible refine k_indexAddr ?_
      refine x_indexAddr_own tbOk rfl rfl rfl rfl rfl rfl ⟨by omega, by omega⟩ ?_
      repeat (first | ((with_reducible refine k_fieldAddr ?_); refine x_fieldAddr_po tbOk rfl rfl rfl rfl ?_)  | refine x_none rfl ?_  )
      with_reducible refine k_store ?_
      refine x_store_po (L' := (R.set i ⟨r0.n, r.c, r.s, r.f, r.u⟩).map Per.av) tbOk rfl rfl rfl rfl rfl rfl rfl rfl rfl (by rw [hpf, Int.toNat_natCast]; omega) (by simp) (per_sz _) (hts 0 ⟨r0.n, r.c, r.s, r.f, r.u⟩ _ rfl (by decide)) ?_
      repeat (first   | refine e_drw (by kernel_rfl) ?_ | with_reducible (first | refine q_then ?_ | refine q_block ?_) )
      exact ⟨(R.set i ⟨r0.n, r.c, r.s, r.f, r.u⟩, D2), ⟨set5 ⟨r0.n, r.c, r.s, r.f, r.u⟩ (by exact hr0n) (by exact hri), hdk2⟩, trivial, ⟨rfl, rfl, rfl, rfl, rfl, rfl, rfl, rfl, trivial⟩, ⟨hc_box (by rw [hD2]), rfl, rfl, rfl, rfl, rfl, trivial⟩⟩
    · repeat (first | ((with_reducible refine k_move ?_); refine m_move rfl ?_) | ((with_reducible refine k_fieldAddr ?_); refine x_fieldAddr_ptr tbOk rfl rfl rfl rfl ?_) | ((with_reducible refine k_load ?_); refine x_load_one tbOk rfl rfl rfl rfl rfl ?_)  | refine x_none rfl ?_  | ((with_reducible refine w_region ?_ ?_); kernel_rfl))
      with_reducible refine k_indexAddr ?_
      refine x_indexAddr_own tbOk rfl rfl rfl rfl rfl rfl ⟨by omega, by omega⟩ ?_
      repeat (first | ((with_reducible refine k_fieldAddr ?_); refine x_fieldAddr_po tbOk rfl rfl rfl rfl ?_)  | refine x_none rfl ?_  )
      with_reducible refine k_store ?_
      refine x_store_po (L' := (R.set i ⟨r.n, 8, r.s, r.f, r.u⟩).map Per.av) tbOk rfl rfl rfl rfl rfl rfl rfl rfl rfl (by rw [hpf, Int.toNat_natCast]; omega) (by simp) (per_sz _) (hts 1 ⟨r.n, 8, r.s, r.f, r.u⟩ _ rfl (by decide)) ?_
      repeat (first   | refine e_nrm ?_ | with_reducible (first | refine q_then ?_ | refine q_block ?_) )
      exact ⟨(R.set i ⟨r.n, 8, r.s, r.f, r.u⟩, D2), ⟨set5 ⟨r.n, 8, r.s, r.f, r.u⟩ (by exact hrn) (by exact hri), hdk2⟩, trivial, ⟨rfl, rfl, rfl, rfl, rfl, rfl, rfl, rfl, trivial⟩, ⟨hc_box (by rw [hD2]), rfl, rfl, rfl, rfl, rfl, trivial⟩⟩
  clear hS hD hD1 hpf
  rintro v ⟨O, E⟩ ⟨hO, hE⟩
  dsimp only at hO hE ⊢
  refine awp_freeze_at (s := 68) [] [(15, [.sl 5 (O.map Per.av)])] rfl trivial ⟨⟨_, _, rfl, .hit .nil⟩, trivial⟩ ?_
  repeat (first | ((with_reducible refine k_load ?_); refine x_load_agg tbOk rfl rfl rfl rfl (Nat.le_of_ble_eq_true rfl) ?_)  | refine x_none rfl ?_ | with_reducible refine awp_seq ?_ | ((with_reducible refine w_region ?_ ?_); kernel_rfl))
  refine x_call0 (hprt) (by repeat' (first | exact trivial | exact Ren.sl _ _ | refine ren_ag ?_ | refine ⟨?_, ?_⟩)) (by repeat' (first | exact trivial | exact RenB.v _ | refine renb_tu ?_ | refine ⟨?_, ?_⟩)) ?_
  repeat (first | ((with_reducible refine k_move ?_); refine m_move rfl ?_) | ((with_reducible refine k_assign ?_); refine m_assign rfl ?_) | ((with_reducible refine k_load ?_); refine x_load_agg tbOk rfl rfl rfl rfl (Nat.le_of_ble_eq_true rfl) ?_) | ((with_reducible refine k_extract ?_); refine x_extract rfl rfl ?_) | ((with_reducible refine k_call ?_); refine x_len tbOk rfl rfl ?_) | ((with_reducible refine k_buildSlice ?_); refine m_buildSlice tbOk rfl rfl rfl rfl rfl (by omega) rfl rfl rfl ?_) | refine e_nrm ?_ | refine x_none rfl ?_ | with_reducible (first | refine q_then ?_ | refine awp_seq ?_ | refine awp_block ?_) | ((with_reducible refine w_region ?_ ?_); kernel_rfl))
  refine awp_loop (ι := Nat × Dk) (fun i => i.1 ≤ 3 ∧ DkOk i.2) (fun i => 3 - i.1) (fun v i => [(3, .v (.string s)), (4, .v (.int .i64 sk)), (5, .v (.int .i64 t)), (8, .ptr 8 (v 8) 0), (13, .ptr 63 (v 63) 0), (17, .v (.string T)), (126, .sl 1 [.ag [.sl 5 (R.map Per.av)], .ag [.sl 5 (R0.map Per.av)], .ag [.sl 5 (O.map Per.av)]]), (127, .v (.int .i64 3)), (128, .v (.int .i64 (i.1 : Nat)))]) (fun v i => [(63, .box i.2.cells), (8, .box p0.av.cells)]) ?_ ?_
  · exact ⟨(0, E), ⟨Nat.zero_le _, hE⟩, trivial, ⟨rfl, rfl, rfl, rfl, rfl, rfl, rfl, rfl, rfl, trivial⟩, ⟨rfl, rfl, trivial⟩⟩
  clear hE
  clear E v
  rintro v ⟨a, E⟩ ⟨ha, hE⟩
  dsimp only at ha hE ⊢
  repeat (first | ((with_reducible refine k_bin ?_); refine m_binI rfl rfl rfl ?_)  | refine e_nrm ?_ | refine x_none rfl ?_ | with_reducible (first | refine q_then ?_ | refine awp_seq ?_) | ((with_reducible refine w_region ?_ ?_); kernel_rfl))
  refine w_cond rfl (fun h => ?_) (fun h => ?_)
  · have hlt : a < 3 := by simp at h; omega
    obtain ⟨Z, hyZ, hZ⟩ : ∃ Z : List Per, ([.ag [.sl 5 (R.map Per.av)], .ag [.sl 5 (R0.map Per.av)], .ag [.sl 5 (O.map Per.av)]] : List AV)[a]? = some (.ag [.sl 5 (Z.map Per.av)]) ∧ RgT Z := by
      obtain rfl | rfl | rfl : a = 0 ∨ a = 1 ∨ a = 2 := by omega
      · exact ⟨R, rfl, hRT⟩
      · exact ⟨R0, rfl, hR0⟩
      · exact ⟨O, rfl, hO⟩
    have k1 := check_A (G := X.G) Z hG hZ.n hZ.m
    have k2 := rcheck_A (G := X.G) Z hG hZ.n hZ.m
    rw [← pcheck_eq Z hZ.i] at k2
    have p1 : (pcheckE pvalidE Z != pcheckE pvalidE Z) = false := by simp
    have hpp := person_A (G := X.G) E hE
    have hpo := perOf_ok E
    have hpD := perD_ok hE
    have f1 := kprint_A (G := X.G) Z hG hP hZ.n hZ.i hZ.m
    have f2 := rrprint_A (G := X.G) Z hG hP hZ.n hZ.i hZ.m
    obtain ⟨⟨pt, pe⟩, hpm⟩ : ∃ q, q = printR Z := ⟨_, rfl⟩
    rw [← hpm] at f1 f2
    dsimp only at f1 f2
    have p2 : (!strEq pt pt) = false := by rw [strEq_iff.2 rfl]; rfl
    have p3 : (pe != pe) = false := by simp
    clear hpm
    repeat (first | ((with_reducible refine k_load ?_); (first | refine x_load_agg tbOk rfl rfl rfl rfl (Nat.le_of_ble_eq_true rfl) ?_ | refine x_load_ep_agg tbOk rfl rfl (Nat.le_of_ble_eq_true rfl) ?_)) | ((with_reducible refine k_store ?_); refine m_store tbOk rfl rfl rfl rfl rfl rfl rfl (Nat.le_of_ble_eq_true rfl) rfl ?_) | ((with_reducible refine k_alloc ?_); refine x_alloc tbOk rfl rfl ?_) | ((with_reducible refine k_indexAddr ?_); refine x_indexAddr_n tbOk rfl rfl rfl rfl (by assumption) ?_)  | refine e_nrm ?_ | refine x_none rfl ?_ | with_reducible (first | refine q_then ?_ | refine awp_seq ?_ | refine awp_block ?_ | refine awp_skip ?_) | ((with_reducible refine w_region ?_ ?_); kernel_rfl) | ((with_reducible refine w_draw mixd ?_ ?_); kernel_rfl))
    refine x_call0 (k1) (by repeat' (first | exact trivial | exact Ren.sl _ _ | refine ren_ag ?_ | refine ⟨?_, ?_⟩)) (by repeat' exact RenB.v _) ?_
    repeat (first | ((with_reducible refine k_load ?_); refine x_load_agg tbOk rfl rfl rfl rfl (Nat.le_of_ble_eq_true rfl) ?_)  | refine x_none rfl ?_  )
    refine x_call0 (k2) (by repeat' (first | exact trivial | exact Ren.sl _ _ | refine ren_ag ?_ | refine ⟨?_, ?_⟩)) (by repeat' exact RenB.v _) ?_
    repeat (first | ((with_reducible refine k_move ?_); refine m_move rfl ?_) | ((with_reducible refine k_fieldAddr ?_); refine x_fieldAddr_ptr tbOk rfl rfl rfl rfl ?_) | ((with_reducible refine k_load ?_); refine x_load_one tbOk rfl rfl rfl rfl rfl ?_) | ((with_reducible refine k_call ?_); refine x_len tbOk rfl rfl ?_) | ((with_reducible refine k_bin ?_); refine m_binI rfl rfl rfl ?_) | ((with_reducible refine k_buildSlice ?_); refine m_buildSlice tbOk rfl rfl rfl rfl rfl (by omega) rfl rfl rfl ?_) | refine e_nrm ?_ | refine e_drw (by kernel_rfl) ?_ | refine x_none rfl ?_ | with_reducible (first | refine q_then ?_ | refine awp_seq ?_ | refine awp_block ?_ | refine awp_skip ?_) | ((with_reducible refine w_region ?_ ?_); kernel_rfl) | refine w_cond_f rfl (by first | rfl | assumption) ?_)
    refine awp_loop (ι := Nat) (fun b => b ≤ 4) (fun b => 4 - b) (fun v b => [(3, .v (.string s)), (4, .v (.int .i64 sk)), (5, .v (.int .i64 t)), (8, .ptr 8 (v 8) 0), (13, .ptr 63 (v 63) 0), (17, .v (.string T)), (20, .ptr 20 (v 20) 0), (126, .sl 1 [.ag [.sl 5 (R.map Per.av)], .ag [.sl 5 (R0.map Per.av)], .ag [.sl 5 (O.map Per.av)]]), (127, .v (.int .i64 3)), (128, .v (.int .i64 (a : Nat))), (140, .sl 1 [.v (.string s), .v (.string ⟨#[80, 48, 49]⟩), .v (.string ⟨#[80, 48, 50]⟩), .v (.string p0.n)]), (141, .v (.int .i64 4)), (142, .v (.int .i64 (b : Nat)))]) (fun v b => [(63, .box E.cells), (8, .box p0.av.cells), (20, .box [.sl 5 (Z.map Per.av)])]) ?_ ?_
    · exact ⟨0, Nat.zero_le _, trivial, ⟨rfl, rfl, rfl, rfl, rfl, rfl, rfl, rfl, rfl, rfl, rfl, rfl, rfl, trivial⟩, ⟨rfl, rfl, rfl, trivial⟩⟩
    clear v
    rintro v b hb
    repeat (first | ((with_reducible refine k_bin ?_); refine m_binI rfl rfl rfl ?_)  | refine e_nrm ?_ | refine x_none rfl ?_ | with_reducible (first | refine q_then ?_ | refine awp_seq ?_) | ((with_reducible refine w_region ?_ ?_); kernel_rfl))
    refine w_cond rfl (fun h => ?_) (fun h => ?_)
    · have hlt4 : b < 4 := by simp at h; omega
      obtain ⟨y, hyy⟩ : ∃ y : ByteArray, ([.v (.string s), .v (.string ⟨#[80, 48, 49]⟩), .v (.string ⟨#[80, 48, 50]⟩), .v (.string p0.n)] : List AV)[b]? = some (.v (.string y)) := by
        obtain rfl | rfl | rfl | rfl : b = 0 ∨ b = 1 ∨ b = 2 ∨ b = 3 := by omega
        · exact ⟨_, rfl⟩
        · exact ⟨_, rfl⟩
        · exact ⟨_, rfl⟩
        · exact ⟨_, rfl⟩
      have g1 := kremove_A (G := X.G) Z y hG hZ.n hZ.l
      have g2 := rremove_A (G := X.G) Z y hG hZ.n hZ.m hZ.i
      have gl := removeK_len Z y
      obtain ⟨⟨Q, e⟩, hQ⟩ : ∃ q, q = removeK Z y := ⟨_, rfl⟩
      rw [← hQ] at g1 g2 gl
      dsimp only at g1 g2 gl
      have g3 := psame_A (G := X.G) Q (by have := hZ.l; omega)
      have g4 := find_A (G := X.G) Z y hG hZ.n hZ.m
      have g5 := rfind_A (G := X.G) Z y hG hZ.n hZ.m
      rw [findI_eq Z y hZ.i] at g5
      have g6 := can_A (G := X.G) Z y sk t hG hZ.n hZ.m hsk
      have g7 := rcan_A (G := X.G) Z y sk t hG hZ.n hZ.m hsk
      rw [← can_eq Z y sk t hZ.i] at g7
      have r1 : (e != e) = false := by simp
      have r2 : (findI pvalidE Z y != findI pvalidE Z y) = false := by simp
      have r3 : (canB pvalidE Z y sk t != canB pvalidE Z y sk t) = false := by simp
      clear hQ gl
      repeat (first | ((with_reducible refine k_move ?_); refine m_move rfl ?_) | ((with_reducible refine k_assign ?_); refine m_assign rfl ?_) | ((with_reducible refine k_load ?_); (first | refine x_load_agg tbOk rfl rfl rfl rfl (Nat.le_of_ble_eq_true rfl) ?_ | refine x_load_ep_one tbOk rfl rfl rfl ?_)) | ((with_reducible refine k_indexAddr ?_); refine x_indexAddr_n tbOk rfl rfl rfl rfl (by assumption) ?_)  | refine e_nrm ?_ | refine x_none rfl ?_ | with_reducible (first | refine q_then ?_ | refine awp_seq ?_ | refine awp_block ?_ | refine awp_skip ?_) | ((with_reducible refine w_region ?_ ?_); kernel_rfl))
      refine x_call0 (g1) (by repeat' (first | exact trivial | exact Ren.v _ | exact Ren.sl _ _ | refine ren_ag ?_ | refine ⟨?_, ?_⟩)) (by repeat' (first | exact trivial | exact RenB.v _ | exact RenB.sl _ _ | refine renb_ag ?_ | refine renb_tu ?_ | refine ⟨?_, ?_⟩)) ?_
      repeat (first | ((with_reducible refine k_move ?_); refine m_move rfl ?_) | ((with_reducible refine k_assign ?_); refine m_assign rfl ?_) | ((with_reducible refine k_load ?_); refine x_load_agg tbOk rfl rfl rfl rfl (Nat.le_of_ble_eq_true rfl) ?_) | ((with_reducible refine k_store ?_); refine m_store tbOk rfl rfl rfl rfl rfl rfl rfl (Nat.le_of_ble_eq_true rfl) rfl ?_) | ((with_reducible refine k_alloc ?_); refine x_alloc tbOk rfl rfl ?_) | ((with_reducible refine k_extract ?_); refine x_extract rfl rfl ?_)  | refine e_nrm ?_ | refine x_none rfl ?_ | with_reducible (first | refine q_then ?_ | refine awp_seq ?_) | ((with_reducible refine w_region ?_ ?_); kernel_rfl))
      refine x_call0 (g2) (by repeat' (first | exact trivial | exact Ren.v _ | exact Ren.sl _ _ | refine ren_ag ?_ | refine ⟨?_, ?_⟩)) (by repeat' (first | exact trivial | exact RenB.v _ | exact RenB.sl _ _ | refine renb_ag ?_ | refine renb_tu ?_ | refine ⟨?_, ?_⟩)) ?_
      repeat (first | ((with_reducible refine k_move ?_); refine m_move rfl ?_) | ((with_reducible refine k_assign ?_); refine m_assign rfl ?_) | ((with_reducible refine k_load ?_); refine x_load_agg tbOk rfl rfl rfl rfl (Nat.le_of_ble_eq_true rfl) ?_) | ((with_reducible refine k_store ?_); refine m_store tbOk rfl rfl rfl rfl rfl rfl rfl (Nat.le_of_ble_eq_true rfl) rfl ?_) | ((with_reducible refine k_alloc ?_); refine x_alloc tbOk rfl rfl ?_) | ((with_reducible refine k_extract ?_); refine x_extract rfl rfl ?_) | ((with_reducible refine k_bin ?_); refine m_binI rfl rfl rfl ?_)  | refine e_nrm ?_ | refine x_none rfl ?_ | refine x_run_f rfl rfl (by first | rfl | assumption) ?_ | with_reducible (first | refine q_then ?_ | refine awp_seq ?_) | ((with_reducible refine w_draw mixd ?_ ?_); kernel_rfl))
      refine x_call0 (g3) (by repeat' (first | exact trivial | exact Ren.sl _ _ | refine ren_ag ?_ | refine ⟨?_, ?_⟩)) (by repeat' exact RenB.v _) ?_
      repeat (first | ((with_reducible refine k_move ?_); refine m_move rfl ?_) | ((with_reducible refine k_load ?_); refine x_load_agg tbOk rfl rfl rfl rfl (Nat.le_of_ble_eq_true rfl) ?_) | ((with_reducible refine k_un ?_); refine x_not rfl ?_) | ((with_reducible refine k_pick ?_); refine m_pickf rfl (by first | rfl | assumption) rfl ?_)  | refine x_none rfl ?_ | refine x_run_f rfl rfl (by first | rfl | assumption) ?_  )
      refine x_call0 (g4) (by repeat' (first | exact trivial | exact Ren.v _ | exact Ren.sl _ _ | refine ren_ag ?_ | refine ⟨?_, ?_⟩)) (by repeat' exact RenB.v _) ?_
      repeat (first | ((with_reducible refine k_move ?_); refine m_move rfl ?_) | ((with_reducible refine k_load ?_); refine x_load_agg tbOk rfl rfl rfl rfl (Nat.le_of_ble_eq_true rfl) ?_)  | refine x_run_f rfl rfl (by first | rfl | assumption) ?_  )
      refine x_call0 (g5) (by repeat' (first | exact trivial | exact Ren.v _ | exact Ren.sl _ _ | refine ren_ag ?_ | refine ⟨?_, ?_⟩)) (by repeat' exact RenB.v _) ?_
      repeat (first | ((with_reducible refine k_move ?_); refine m_move rfl ?_) | ((with_reducible refine k_load ?_); refine x_load_agg tbOk rfl rfl rfl rfl (Nat.le_of_ble_eq_true rfl) ?_) | ((with_reducible refine k_pick ?_); refine m_pickf rfl (by first | rfl | assumption) rfl ?_) | ((with_reducible refine k_bin ?_); refine m_binI rfl rfl rfl ?_)  | refine x_none rfl ?_ | refine x_run_f rfl rfl (by first | rfl | assumption) ?_  )
      refine x_call0 (g6) (by repeat' (first | exact trivial | exact Ren.v _ | exact Ren.sl _ _ | refine ren_ag ?_ | refine ⟨?_, ?_⟩)) (by repeat' exact RenB.v _) ?_
      repeat (first | ((with_reducible refine k_move ?_); refine m_move rfl ?_) | ((with_reducible refine k_load ?_); refine x_load_agg tbOk rfl rfl rfl rfl (Nat.le_of_ble_eq_true rfl) ?_)  | refine x_run_f rfl rfl (by first | rfl | assumption) ?_  )
      refine x_call0 (g7) (by repeat' (first | exact trivial | exact Ren.v _ | exact Ren.sl _ _ | refine ren_ag ?_ | refine ⟨?_, ?_⟩)) (by repeat' exact RenB.v _) ?_
      repeat (first | ((with_reducible refine k_move ?_); refine m_move rfl ?_) | ((with_reducible refine k_pick ?_); refine m_pickf rfl (by first | rfl | assumption) rfl ?_) | ((with_reducible refine k_bin ?_); (first | refine x_add_in rfl rfl (by omega) ?_ | refine x_neq_b (by exact Tryz.underlying4) rfl rfl ?_))  | refine e_nrm ?_ | refine e_drw (by kernel_rfl) ?_ | refine x_none rfl ?_ | refine x_run_f rfl rfl (by first | rfl | assumption) ?_ | with_reducible (first | refine q_then ?_ | refine q_block ?_ | refine awp_skip ?_) | ((with_reducible refine w_region ?_ ?_); kernel_rfl) | refine w_cond_f rfl (by first | rfl | assumption) ?_)
      exact ⟨b + 1, by omega, by omega, ⟨rfl, rfl, rfl, rfl, rfl, rfl, rfl, rfl, rfl, rfl, rfl, rfl, rfl, trivial⟩, ⟨rfl, rfl, rfl, trivial⟩⟩
    repeat (first | ((with_reducible refine k_move ?_); refine m_move rfl ?_) | ((with_reducible refine k_load ?_); refine x_load_agg tbOk rfl rfl rfl rfl (Nat.le_of_ble_eq_true rfl) ?_)  | refine x_none rfl ?_ | with_reducible (first | refine q_then ?_ | refine q_then_exit ?_ | refine awp_seq ?_ | refine awp_exit ?_) | ((with_reducible refine q_block_exit ?_ ?_); rfl) | ((with_reducible refine w_draw mixd ?_ ?_); kernel_rfl))
    refine x_call (y := (perOf E).av) (ss := [(63, v 63)]) (hpp) (by repeat' (first | exact trivial | exact Ren.ptr _ _ _ _ rfl | refine ⟨?_, ?_⟩)) (by simp) (in1 rfl rfl) rfl (back1 rfl) (by repeat' (first | exact trivial | exact RenB.v _ | refine renb_ag ?_ | refine ⟨?_, ?_⟩)) ?_
    repeat (first | ((with_reducible refine k_move ?_); refine m_move rfl ?_) | ((with_reducible refine k_call ?_); refine x_len tbOk rfl rfl ?_) | ((with_reducible refine k_buildSlice ?_); refine m_buildSlice tbOk rfl rfl rfl rfl rfl (by omega) rfl rfl rfl ?_) | refine e_drw (by kernel_rfl) ?_ | refine x_none rfl ?_ | with_reducible (first | refine q_then ?_ | refine awp_block ?_) )
    refine awp_loop (ι := Nat) (fun b => b ≤ 2) (fun b => 2 - b) (fun v b => [(3, .v (.string s)), (4, .v (.int .i64 sk)), (5, .v (.int .i64 t)), (8, .ptr 8 (v 8) 0), (13, .ptr 63 (v 63) 0), (17, .v (.string T)), (20, .ptr 20 (v 20) 0), (126, .sl 1 [.ag [.sl 5 (R.map Per.av)], .ag [.sl 5 (R0.map Per.av)], .ag [.sl 5 (O.map Per.av)]]), (127, .v (.int .i64 3)), (128, .v (.int .i64 (a : Nat))), (193, .sl 5 [p0.av, (perOf E).av]), (194, .v (.int .i64 2)), (195, .v (.int .i64 (b : Nat)))]) (fun v b => [(63, .box (perD E).cells), (8, .box p0.av.cells), (20, .box [.sl 5 (Z.map Per.av)])]) ?_ ?_
    · exact ⟨0, Nat.zero_le _, trivial, ⟨rfl, rfl, rfl, rfl, rfl, rfl, rfl, rfl, rfl, rfl, rfl, rfl, rfl, trivial⟩, ⟨rfl, rfl, rfl, trivial⟩⟩
    clear v
    rintro v b hb
    repeat (first | ((with_reducible refine k_bin ?_); refine m_binI rfl rfl rfl ?_)  | refine e_nrm ?_ | refine x_none rfl ?_ | with_reducible (first | refine q_then ?_ | refine awp_seq ?_) | ((with_reducible refine w_region ?_ ?_); kernel_rfl))
    refine w_cond rfl (fun h => ?_) (fun h => ?_)
    · have hlt2 : b < 2 := by simp at h; omega
      obtain ⟨y, hyy, hyn, hyi⟩ : ∃ y : Per, ([p0.av, (perOf E).av] : List AV)[b]? = some y.av ∧ y.n.size ≤ maxLen ∧ I64 y.s := by
        obtain rfl | rfl : b = 0 ∨ b = 1 := by omega
        · exact ⟨p0, rfl, hpn, hpi⟩
        · exact ⟨perOf E, rfl, hpo.nam, hpo.2.2.1⟩
      have g1 := kaddK_A (G := X.G) Z y hG hZ.n hyn hZ.l
      have g2 := raddK_A (G := X.G) Z y hG hZ.n hyn hZ.m hZ.i hyi
      have gl := addK_len2 Z y
      obtain ⟨⟨Q, e⟩, hQ⟩ : ∃ q, q = addK Z y := ⟨_, rfl⟩
      rw [← hQ] at g1 g2 gl
      dsimp only at g1 g2 gl
      have g3 := psame_A (G := X.G) Q (by have := hZ.l; omega)
      have r1 : (e != e) = false := by simp
      clear hQ gl
      repeat (first | ((with_reducible refine k_load ?_); (first | refine x_load_agg tbOk rfl rfl rfl rfl (Nat.le_of_ble_eq_true rfl) ?_ | refine x_load_ep_agg tbOk rfl rfl (Nat.le_of_ble_eq_true rfl) ?_)) | ((with_reducible refine k_store ?_); refine m_store tbOk rfl rfl rfl rfl rfl rfl rfl (Nat.le_of_ble_eq_true rfl) rfl ?_) | ((with_reducible refine k_alloc ?_); refine x_alloc tbOk rfl rfl ?_) | ((with_reducible refine k_indexAddr ?_); refine x_indexAddr_n tbOk rfl rfl rfl rfl (by assumption) ?_)  | refine e_nrm ?_ | refine x_none rfl ?_ | with_reducible (first | refine q_then ?_ | refine awp_seq ?_ | refine awp_block ?_ | refine awp_skip ?_) | ((with_reducible refine w_region ?_ ?_); kernel_rfl))
      refine x_call0 (g1) (by repeat' (first | exact trivial | exact Ren.v _ | exact Ren.sl _ _ | refine ren_ag ?_ | refine ⟨?_, ?_⟩)) (by repeat' (first | exact trivial | exact RenB.v _ | exact RenB.sl _ _ | refine renb_ag ?_ | refine renb_tu ?_ | refine ⟨?_, ?_⟩)) ?_
      repeat (first | ((with_reducible refine k_move ?_); refine m_move rfl ?_) | ((with_reducible refine k_assign ?_); refine m_assign rfl ?_) | ((with_reducible refine k_load ?_); refine x_load_agg tbOk rfl rfl rfl rfl (Nat.le_of_ble_eq_true rfl) ?_) | ((with_reducible refine k_store ?_); refine m_store tbOk rfl rfl rfl rfl rfl rfl rfl (Nat.le_of_ble_eq_true rfl) rfl ?_) | ((with_reducible refine k_alloc ?_); refine x_alloc tbOk rfl rfl ?_) | ((with_reducible refine k_extract ?_); refine x_extract rfl rfl ?_)  | refine e_nrm ?_ | refine x_none rfl ?_ | with_reducible (first | refine q_then ?_ | refine awp_seq ?_) | ((with_reducible refine w_region ?_ ?_); kernel_rfl))
      refine x_call0 (g2) (by repeat' (first | exact trivial | exact Ren.v _ | exact Ren.sl _ _ | refine ren_ag ?_ | refine ⟨?_, ?_⟩)) (by repeat' (first | exact trivial | exact RenB.v _ | exact RenB.sl _ _ | refine renb_ag ?_ | refine renb_tu ?_ | refine ⟨?_, ?_⟩)) ?_
      repeat (first | ((with_reducible refine k_move ?_); refine m_move rfl ?_) | ((with_reducible refine k_assign ?_); refine m_assign rfl ?_) | ((with_reducible refine k_load ?_); refine x_load_agg tbOk rfl rfl rfl rfl (Nat.le_of_ble_eq_true rfl) ?_) | ((with_reducible refine k_store ?_); refine m_store tbOk rfl rfl rfl rfl rfl rfl rfl (Nat.le_of_ble_eq_true rfl) rfl ?_) | ((with_reducible refine k_alloc ?_); refine x_alloc tbOk rfl rfl ?_) | ((with_reducible refine k_extract ?_); refine x_extract rfl rfl ?_) | ((with_reducible refine k_bin ?_); refine m_binI rfl rfl rfl ?_)  | refine e_nrm ?_ | refine x_none rfl ?_ | refine x_run_f rfl rfl (by first | rfl | assumption) ?_ | with_reducible (first | refine q_then ?_ | refine awp_seq ?_) | ((with_reducible refine w_region ?_ ?_); kernel_rfl))
      refine x_call0 (g3) (by repeat' (first | exact trivial | exact Ren.sl _ _ | refine ren_ag ?_ | refine ⟨?_, ?_⟩)) (by repeat' exact RenB.v _) ?_
      repeat (first | ((with_reducible refine k_move ?_); refine m_move rfl ?_) | ((with_reducible refine k_un ?_); refine x_not rfl ?_) | ((with_reducible refine k_pick ?_); refine m_pickf rfl (by first | rfl | assumption) rfl ?_) | ((with_reducible refine k_bin ?_); refine x_add_in rfl rfl (by omega) ?_)  | refine e_nrm ?_ | refine x_none rfl ?_ | refine x_run_f rfl rfl (by first | rfl | assumption) ?_ | with_reducible (first | refine q_then ?_ | refine q_block ?_ | refine awp_skip ?_) | ((with_reducible refine w_region ?_ ?_); kernel_rfl) | refine w_cond_f rfl (by first | rfl | assumption) ?_)
      exact ⟨b + 1, by omega, by omega, ⟨rfl, rfl, rfl, rfl, rfl, rfl, rfl, rfl, rfl, rfl, rfl, rfl, rfl, trivial⟩, ⟨rfl, rfl, rfl, trivial⟩⟩
    repeat (first | ((with_reducible refine k_load ?_); refine x_load_agg tbOk rfl rfl rfl rfl (Nat.le_of_ble_eq_true rfl) ?_)  | refine x_none rfl ?_ | with_reducible (first | refine q_then ?_ | refine q_then_exit ?_ | refine awp_seq ?_ | refine awp_exit ?_) | ((with_reducible refine q_block_exit ?_ ?_); rfl) | ((with_reducible refine w_region ?_ ?_); kernel_rfl))
    refine x_call0 (f1) (by repeat' (first | exact trivial | exact Ren.sl _ _ | refine ren_ag ?_ | refine ⟨?_, ?_⟩)) (by repeat' (first | exact trivial | exact RenB.v _ | refine renb_tu ?_ | refine ⟨?_, ?_⟩)) ?_
    repeat (first | ((with_reducible refine k_move ?_); refine m_move rfl ?_) | ((with_reducible refine k_assign ?_); refine m_assign rfl ?_) | ((with_reducible refine k_load ?_); refine x_load_agg tbOk rfl rfl rfl rfl (Nat.le_of_ble_eq_true rfl) ?_) | ((with_reducible refine k_extract ?_); refine x_extract rfl rfl ?_)  | refine e_nrm ?_ | refine x_none rfl ?_ | with_reducible (first | refine q_then ?_ | refine awp_seq ?_) | ((with_reducible refine w_region ?_ ?_); kernel_rfl))
    refine x_call0 (f2) (by repeat' (first | exact trivial | exact Ren.sl _ _ | refine ren_ag ?_ | refine ⟨?_, ?_⟩)) (by repeat' (first | exact trivial | exact RenB.v _ | refine renb_tu ?_ | refine ⟨?_, ?_⟩)) ?_
    repeat (first | ((with_reducible refine k_move ?_); refine m_move rfl ?_) | ((with_reducible refine k_assign ?_); refine m_assign rfl ?_) | ((with_reducible refine k_extract ?_); refine x_extract rfl rfl ?_) | ((with_reducible refine k_pick ?_); refine m_pickf rfl (by first | rfl | assumption) rfl ?_) | ((with_reducible refine k_bin ?_); (first | refine x_add_in rfl rfl (by omega) ?_ | refine m_binI rfl rfl rfl ?_ | refine m_binS rfl rfl rfl ?_))  | refine e_nrm ?_ | refine x_none rfl ?_ | refine x_run_f rfl rfl (by first | rfl | assumption) ?_ | with_reducible (first | refine q_then ?_ | refine q_block ?_ | refine awp_seq ?_ | refine awp_skip ?_) | ((with_reducible refine w_region ?_ ?_); kernel_rfl) | refine w_cond_f rfl (by first | rfl | assumption) ?_)
    exact ⟨(a + 1, perD E), ⟨hlt, hpD⟩, by dsimp only; omega, ⟨rfl, rfl, rfl, rfl, rfl, rfl, rfl, rfl, rfl, trivial⟩, ⟨rfl, rfl, trivial⟩⟩
  clear hO hRT hR0 hR hGd hi hprt
  repeat (first | ((with_reducible refine k_move ?_); refine m_move rfl ?_) | ((with_reducible refine k_assign ?_); refine m_assign rfl ?_) | ((with_reducible refine k_call ?_); refine x_len_str (by exact Tryz.underlying9) rfl ?_) | ((with_reducible refine k_bin ?_); refine m_binI rfl rfl rfl ?_)  | refine e_nrm ?_ | refine x_none rfl ?_ | with_reducible (first | refine q_then ?_ | refine q_then_exit ?_ | refine awp_seq ?_ | refine awp_exit ?_) | ((with_reducible refine q_block_exit ?_ ?_); rfl) | ((with_reducible refine w_region ?_ ?_); kernel_rfl))
  refine awp_via (ι := ByteArray) (fun v C => C.size ≤ 20000) (fun v C => [(3, .v (.string s)), (17, .v (.string T)), (37, .v (.string C))]) (fun v C => []) ?_ ?_
  · refine w_cond rfl (fun h => ?_) (fun h => ?_)
    rotate_left
    · repeat (first    | with_reducible (first | refine q_then ?_ | refine awp_skip ?_) )
      exact ⟨T, by omega, trivial, ⟨rfl, rfl, rfl, trivial⟩, trivial⟩
    have hpos : 0 < T.size := by simp at h; omega
    have hn3 := next_A (G := X.G) E (T.size : Int) hE (by omega) (by omega)
    have hin3 := E.in_ (n := (T.size : Int)) (by omega) (by omega)
    obtain ⟨i, hii⟩ : ∃ q, q = E.val (T.size : Int) := ⟨_, rfl⟩
    rw [← hii] at hn3 hin3
    have hn4 := next_A (G := X.G) E.next 5 hE.next (by omega) (by omega)
    have hin4 := E.next.in_ (n := 5) (by omega) (by omega)
    obtain ⟨q4, hq4⟩ : ∃ q, q = E.next.val 5 := ⟨_, rfl⟩
    rw [← hq4] at hn4 hin4
    have hn5 := next_A (G := X.G) E.next.next 2 hE.next.next (by omega) (by omega)
    have hin5 := E.next.next.in_ (n := 2) (by omega) (by omega)
    obtain ⟨q5, hq5⟩ : ∃ q, q = E.next.next.val 2 := ⟨_, rfl⟩
    rw [← hq5] at hn5 hin5
    obtain ⟨w4, hw4, hw4s⟩ : ∃ w : ByteArray, ([.v (.string ⟨#[]⟩), .v (.string ⟨#[32]⟩), .v (.string ⟨#[10]⟩), .v (.string ⟨#[115]⟩), .v (.string ⟨#[48]⟩)] : List AV)[q4.toNat]? = some (.v (.string w)) ∧ w.size ≤ 1 := by
      rcases (by omega : q4 = 0 ∨ q4 = 1 ∨ q4 = 2 ∨ q4 = 3 ∨ q4 = 4) with e | e | e | e | e <;> rw [e] <;> exact ⟨_, rfl, by decide⟩
    have hx1 : ∀ a b : Nat, (T.extract a b).size ≤ T.size := fun a b => by rw [ByteArray.size_extract]; omega
    clear hii hq4 hq5
    repeat (first | ((with_reducible refine k_move ?_); refine m_move rfl ?_) | ((with_reducible refine k_call ?_); refine x_len_str (by exact Tryz.underlying9) rfl ?_)  | refine x_none rfl ?_ | with_reducible refine awp_seq ?_ | ((with_reducible refine w_region ?_ ?_); kernel_rfl))
    refine x_call (ss := [(63, v 63)]) (hn3) (by repeat' (first | exact trivial | exact Ren.v _ | exact Ren.ptr _ _ _ _ rfl | refine ⟨?_, ?_⟩)) (by simp) (in1 rfl rfl) rfl (back1 rfl) (by repeat' exact RenB.v _) ?_
    repeat (first | ((with_reducible refine k_move ?_); refine m_move rfl ?_) | ((with_reducible refine k_assign ?_); refine m_assign rfl ?_) | ((with_reducible refine k_slice ?_); refine x_sliceS (by exact Tryz.underlying9) rfl rfl rfl (by refine ⟨?_, ?_, ?_⟩ <;> omega) ?_) | ((with_reducible refine k_buildSlice ?_); refine m_buildSlice tbOk rfl rfl rfl rfl rfl (by omega) rfl rfl rfl ?_) | refine e_nrm ?_ | refine x_none rfl ?_ | with_reducible refine q_then ?_ | ((with_reducible refine w_draw mixd ?_ ?_); kernel_rfl))
    refine x_call (ss := [(63, v 63)]) (hn4) (by repeat' (first | exact trivial | exact Ren.v _ | exact Ren.ptr _ _ _ _ rfl | refine ⟨?_, ?_⟩)) (by simp) (in1 rfl rfl) rfl (back1 rfl) (by repeat' exact RenB.v _) ?_
    repeat (first | ((with_reducible refine k_load ?_); refine x_load_ep_one tbOk rfl rfl rfl ?_) | ((with_reducible refine k_indexAddr ?_); refine x_indexAddr tbOk rfl rfl rfl rfl (by omega) (by assumption) ?_)  | refine x_none rfl ?_  )
    with_reducible refine k_bin ?_
    refine x_add_s rfl rfl (by have := hx1 (0 : Int).toNat i.toNat; omega) ?_
    repeat (first | ((with_reducible refine k_move ?_); refine m_move rfl ?_)  | refine x_none rfl ?_  )
    refine x_call (ss := [(63, v 63)]) (hn5) (by repeat' (first | exact trivial | exact Ren.v _ | exact Ren.ptr _ _ _ _ rfl | refine ⟨?_, ?_⟩)) (by simp) (in1 rfl rfl) rfl (back1 rfl) (by repeat' exact RenB.v _) ?_
    repeat (first | ((with_reducible refine k_slice ?_); refine x_sliceS (by exact Tryz.underlying9) rfl rfl rfl (by refine ⟨?_, ?_, ?_⟩ <;> omega) ?_) | ((with_reducible refine k_bin ?_); refine x_add_in rfl rfl (by omega) ?_)  | refine x_none rfl ?_  )
    with_reducible refine k_bin ?_
    refine x_add_s rfl rfl (by rw [ByteArray.size_append]; have h1 := hx1 (0 : Int).toNat i.toNat; have h2 := hx1 (i + q5).toNat (T.size : Int).toNat; omega) ?_
    obtain ⟨C, hC⟩ : ∃ C, C = T.extract (0 : Int).toNat i.toNat ++ w4 ++ T.extract (i + q5).toNat (T.size : Int).toNat := ⟨_, rfl⟩
    have hCs : C.size ≤ 20000 := by
      rw [hC, ByteArray.size_append, ByteArray.size_append]
      have h1 := hx1 (0 : Int).toNat i.toNat
      have h3 := hx1 (i + q5).toNat (T.size : Int).toNat
      omega
    rw [← hC]
    repeat (first | ((with_reducible refine k_assign ?_); refine m_assign rfl ?_)  | refine e_drw (by kernel_rfl) ?_ | refine x_none rfl ?_ | with_reducible refine q_then ?_ )
    exact ⟨C, hCs, trivial, ⟨rfl, rfl, rfl, trivial⟩, trivial⟩
  clear h hE ha
  clear v
  rintro v C hC
  repeat (first | ((with_reducible refine k_move ?_); refine m_move rfl ?_)  | refine x_none rfl ?_ | with_reducible refine awp_seq ?_ | ((with_reducible refine w_region ?_ ?_); kernel_rfl))
  with_reducible refine k_bin ?_
  refine x_add_s rfl rfl (by omega) ?_
  have hTT : (T ++ T).size ≤ 20000 := by rw [ByteArray.size_append]; omega
  repeat (first | ((with_reducible refine k_move ?_); refine m_move rfl ?_) | ((with_reducible refine k_call ?_); refine x_len tbOk rfl rfl ?_) | ((with_reducible refine k_buildSlice ?_); refine m_buildSlice tbOk rfl rfl rfl rfl rfl (by omega) rfl rfl rfl ?_) | refine e_nrm ?_ | refine x_none rfl ?_ | with_reducible (first | refine q_then ?_ | refine awp_block ?_) )
  refine awp_loop (ι := Nat) (fun b => b ≤ 4) (fun b => 4 - b) (fun v b => [(270, .sl 1 [.v (.string s), .v (.string T), .v (.string C), .v (.string (T ++ T))]), (271, .v (.int .i64 4)), (272, .v (.int .i64 (b : Nat)))]) (fun v b => []) ?_ ?_
  · exact ⟨0, Nat.zero_le _, trivial, ⟨rfl, rfl, rfl, trivial⟩, trivial⟩
  clear v
  rintro v b hb
  repeat (first | ((with_reducible refine k_bin ?_); refine m_binI rfl rfl rfl ?_)  | refine e_nrm ?_ | refine x_none rfl ?_ | with_reducible (first | refine q_then ?_ | refine awp_seq ?_) | ((with_reducible refine w_region ?_ ?_); kernel_rfl))
  refine w_cond rfl (fun h => ?_) (fun h => ?_)
  · have hlt4 : b < 4 := by simp at h; omega
    obtain ⟨y, hyy, hys⟩ : ∃ y : ByteArray, ([.v (.string s), .v (.string T), .v (.string C), .v (.string (T ++ T))] : List AV)[b]? = some (.v (.string y)) ∧ y.size ≤ 20000 := by
      obtain rfl | rfl | rfl | rfl : b = 0 ∨ b = 1 ∨ b = 2 ∨ b = 3 := by omega
      · exact ⟨s, rfl, by omega⟩
      · exact ⟨T, rfl, by omega⟩
      · exact ⟨C, rfl, by omega⟩
      · exact ⟨_, rfl, hTT⟩
    have g1 := kparseX_A (G := X.G) y hG hM (by omega)
    have g2 := rkparse_A (G := X.G) y hG (by omega)
    have gl := parseR_len y.data.toList
    obtain ⟨⟨Q, i, e⟩, hQ⟩ : ∃ q, q = parseR y.data.toList := ⟨_, rfl⟩
    rw [← hQ] at g1 g2 gl
    dsimp only at g1 g2 gl
    have g3 := psame_A (G := X.G) Q (by omega)
    have r1 : (e != e) = false := by simp
    have r2 : (i != i) = false := by simp
    clear hQ gl
    repeat (first | ((with_reducible refine k_move ?_); refine m_move rfl ?_) | ((with_reducible refine k_assign ?_); refine m_assign rfl ?_) | ((with_reducible refine k_load ?_); refine x_load_ep_one tbOk rfl rfl rfl ?_) | ((with_reducible refine k_indexAddr ?_); refine x_indexAddr_n tbOk rfl rfl rfl rfl (by assumption) ?_)  | refine e_nrm ?_ | refine x_none rfl ?_ | with_reducible (first | refine q_then ?_ | refine awp_seq ?_ | refine awp_block ?_ | refine awp_skip ?_) | ((with_reducible refine w_region ?_ ?_); kernel_rfl))
    refine x_call0 (g1) (by repeat' (first | exact trivial | exact Ren.v _ | refine ⟨?_, ?_⟩)) (by repeat' (first | exact trivial | exact RenB.v _ | exact RenB.sl _ _ | refine renb_ag ?_ | refine renb_tu ?_ | refine ⟨?_, ?_⟩)) ?_
    repeat (first | ((with_reducible refine k_move ?_); refine m_move rfl ?_) | ((with_reducible refine k_assign ?_); refine m_assign rfl ?_) | ((with_reducible refine k_store ?_); refine m_store tbOk rfl rfl rfl rfl rfl rfl rfl (Nat.le_of_ble_eq_true rfl) rfl ?_) | ((with_reducible refine k_alloc ?_); refine x_alloc tbOk rfl rfl ?_) | ((with_reducible refine k_extract ?_); refine x_extract rfl rfl ?_)  | refine e_nrm ?_ | refine x_none rfl ?_ | with_reducible (first | refine q_then ?_ | refine awp_seq ?_) | ((with_reducible refine w_region ?_ ?_); kernel_rfl))
    refine x_call0 (g2) (by repeat' (first | exact trivial | exact Ren.v _ | refine ⟨?_, ?_⟩)) (by repeat' (first | exact trivial | exact RenB.v _ | exact RenB.sl _ _ | refine renb_ag ?_ | refine renb_tu ?_ | refine ⟨?_, ?_⟩)) ?_
    repeat (first | ((with_reducible refine k_move ?_); refine m_move rfl ?_) | ((with_reducible refine k_assign ?_); refine m_assign rfl ?_) | ((with_reducible refine k_load ?_); refine x_load_agg tbOk rfl rfl rfl rfl (Nat.le_of_ble_eq_true rfl) ?_) | ((with_reducible refine k_store ?_); refine m_store tbOk rfl rfl rfl rfl rfl rfl rfl (Nat.le_of_ble_eq_true rfl) rfl ?_) | ((with_reducible refine k_alloc ?_); refine x_alloc tbOk rfl rfl ?_) | ((with_reducible refine k_extract ?_); refine x_extract rfl rfl ?_) | ((with_reducible refine k_pick ?_); refine m_pickf rfl (by first | rfl | assumption) rfl ?_) | ((with_reducible refine k_bin ?_); refine m_binI rfl rfl rfl ?_)  | refine e_nrm ?_ | refine x_none rfl ?_ | refine x_run_f rfl rfl (by first | rfl | assumption) ?_ | with_reducible (first | refine q_then ?_ | refine awp_seq ?_) | ((with_reducible refine w_region ?_ ?_); kernel_rfl))
    refine x_call0 (g3) (by repeat' (first | exact trivial | exact Ren.sl _ _ | refine ren_ag ?_ | refine ⟨?_, ?_⟩)) (by repeat' exact RenB.v _) ?_
    repeat (first | ((with_reducible refine k_move ?_); refine m_move rfl ?_) | ((with_reducible refine k_un ?_); refine x_not rfl ?_) | ((with_reducible refine k_pick ?_); refine m_pickf rfl (by first | rfl | assumption) rfl ?_) | ((with_reducible refine k_bin ?_); refine x_add_in rfl rfl (by omega) ?_)  | refine e_nrm ?_ | refine x_none rfl ?_ | refine x_run_f rfl rfl (by first | rfl | assumption) ?_ | with_reducible (first | refine q_then ?_ | refine q_block ?_ | refine awp_skip ?_) | ((with_reducible refine w_region ?_ ?_); kernel_rfl) | refine w_cond_f rfl (by first | rfl | assumption) ?_)
    exact ⟨b + 1, by omega, by omega, ⟨rfl, rfl, rfl, trivial⟩, trivial⟩
  repeat (first   | refine x_none rfl ?_ | with_reducible (first | refine q_then ?_ | refine q_then_exit ?_ | refine awp_seq ?_ | refine awp_exit ?_) | ((with_reducible refine q_block_exit ?_ ?_); rfl) | ((with_reducible refine w_region ?_ ?_); kernel_rfl))
  refine x_call0 (awake_A hG) (by repeat' exact trivial) (by repeat' exact RenB.v _) ?_
  repeat (first | ((with_reducible refine k_assign ?_); refine m_assign rfl ?_)  | refine e_nrm ?_ | refine x_none rfl ?_ | with_reducible (first | refine q_then ?_ | refine awp_ret ?_) )
  refine ret_v (by first | exact .inr rfl | exact .inl rfl) rfl rfl ?_
  rfl
end Go.Proofs.YtggagmafkdhjcaaGreatDoor
