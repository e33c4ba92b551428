/- certificate.Print, by the abstract machine; conditions: the tables of classes and powers stand. -/
import Derived.Test.YtamihjgfncjdoaaDoorCeA
import Derived.Test.YtamihjgfncjdoaaDoorTkA
import Derived.Test.YtamihjgfncjdoaaDoorAbsY
import Derived.Test.YtamihjgfncjdoaaDoorTxA
import Derived.Test.YtamihjgfncjdoaaDoorLxA
set_option linter.unusedVariables false
set_option linter.unusedSimpArgs false
namespace Go.Proofs.YtamihjgfncjdoaaDoor
open Go Go.RowKit
set_option maxRecDepth 10000
variable {G : Nat → Option (List Value)}
def printC (N : List Nd) (V : List Dv) (c : Ce) : List UInt8 × Int :=
  if certE N V c ≠ 0 then ([], certE N V c) else if 256 < (joinW (ceW V c)).length then ([], 1) else (joinW (ceW V c), 0)
def posL : List AV := [.v (.string ⟨#[]⟩), .v (.string ⟨#[111, 112, 101, 110]⟩), .v (.string ⟨#[99, 108, 111, 115, 101, 100]⟩)]
theorem cwords_A : ACalls Tryd.prog G 29 [] [] (.ag posL) [] := by
  refine acalls_of tbOk (enter_of Tryd.func29 (by kernel_rfl) rfl) Tryd.func29 rfl _ Tryd.ntmps29 (Nat.le_of_ble_eq_true rfl) fun X hX => ?_
  subst hX
  repeat (first | ((with_reducible refine k_alloc ?_); refine x_alloc tbOk rfl rfl ?_)  | refine e_nrm ?_ | refine x_none rfl ?_ | with_reducible (first | refine q_then ?_ | refine awp_seq ?_) | ((with_reducible refine w_region ?_ ?_); kernel_rfl))
  (with_reducible refine k_build ?_)
  refine m_build_arr tbOk Tryd.underlying79 rfl rfl rfl rfl ?_
  repeat (first | ((with_reducible refine k_store ?_); refine m_store tbOk rfl rfl rfl rfl rfl rfl rfl (Nat.le_of_ble_eq_true rfl) rfl ?_)  | refine e_nrm ?_ | refine x_none rfl ?_ | with_reducible (first | refine q_then ?_ | refine awp_ret ?_) )
  refine ret0_cell (by first | exact .inr rfl | exact .inl rfl) rfl rfl rfl rfl rfl ?_ rfl
  rfl
theorem pos_at {p : Int} (h : p = 1 ∨ p = 2) : posL[p.toNat]? = some (svL (posW p)) := by
  rcases h with rfl | rfl <;> rfl
theorem joinW_len : ∀ (L : List (List UInt8)) (m : Nat), (∀ w ∈ L, w.length ≤ m) → (joinW L).length ≤ L.length * (m + 1)
  | [], m, _ => by simp [joinW_nil]
  | [w], m, h => by
    have := h w (by simp)
    rw [joinW_one]; simp; omega
  | w :: x :: r, m, h => by
    have h1 := h w (by simp)
    have h2 := joinW_len (x :: r) m (fun y hy => h y (by simp only [List.mem_cons] at hy ⊢; exact .inr hy))
    rw [joinW_cons, List.length_append, List.length_cons]
    simp only [List.length_cons] at h2 ⊢
    rw [Nat.succ_mul]
    omega
theorem txL_len {n : Int} (h1 : -9223372036854775808 ≤ n) (h2 : n ≤ 9223372036854775807) : (txL n).length ≤ 20 := by
  have := itoa_len h1 h2
  unfold txL txtP
  simpa using this
def ceW0 (c : Ce) : List (List UInt8) := [wCert, txL c.ask, txL c.num, wGiver, txL c.giv, wState, txL c.st]
theorem ceW_eq (V : List Dv) (c : Ce) : ceW V c = ceW0 c ++ c.lk.flatMap (lkW V) := rfl
theorem lkW_len (V : List Dv) : ∀ L : List Lk, (L.flatMap (lkW V)).length = L.length * 5
  | [] => rfl
  | x :: l => by rw [List.flatMap_cons, List.length_append, lkW_len V l, List.length_cons, Nat.succ_mul, Nat.add_comm]; rfl
set_option maxHeartbeats 2000000 in
theorem cprint_A (N : List Nd) (V : List Dv) (c : Ce) (hG : GCls G) (hP : GPow G) (hN : ∀ x ∈ N, x.n.size ≤ 1000) (hV : ∀ x ∈ V, x.n.size ≤ 1000) (h1 : N.length ≤ maxLen) (h2 : V.length ≤ maxLen) (hlm : c.lk.length ≤ 900) :
    ACalls Tryd.prog G 15 [netAV N V, c.av] [] (.tu [svL (printC N V c).1, .v (.int .i64 (printC N V c).2)]) [] := by
  have hml : (c.lk.map Lk.av).length = c.lk.length := by simp
  have hNm : ∀ x ∈ N, x.n.size ≤ maxLen := fun x hx => Nat.le_trans (hN x hx) (by decide)
  have hVm : ∀ x ∈ V, x.n.size ≤ maxLen := fun x hx => Nat.le_trans (hV x hx) (by decide)
  refine acalls_of tbOk (enter_of Tryd.func15 (by kernel_rfl) rfl) Tryd.func15 rfl _ Tryd.ntmps15 (Nat.le_of_ble_eq_true rfl) fun X hX => ?_
  subst hX
  unfold printC
  repeat (first | ((with_reducible refine k_assign ?_); refine m_assign rfl ?_) | ((with_reducible refine k_load ?_); refine x_load_agg tbOk rfl rfl rfl rfl (Nat.le_of_ble_eq_true rfl) ?_) | ((with_reducible refine k_box ?_); refine m_box rfl rfl rfl ?_)  | refine e_nrm ?_ | refine x_none rfl ?_ | with_reducible (first | refine q_then ?_ | refine awp_seq ?_) | ((with_reducible refine w_region ?_ ?_); kernel_rfl))
  refine x_call0 (ccheck_A N V c hG hNm hVm h1 h2 (by omega)) (by repeat' (first | exact trivial | exact Ren.v _ | exact Ren.sl _ _ | refine ren_ag ?_ | refine ⟨?_, ?_⟩)) (by repeat' exact RenB.v _) ?_
  repeat (first | ((with_reducible refine k_move ?_); refine m_move rfl ?_) | ((with_reducible refine k_assign ?_); refine m_assign rfl ?_) | ((with_reducible refine k_bin ?_); refine m_binI rfl rfl rfl ?_)  | refine e_nrm ?_ | refine x_none rfl ?_ | with_reducible (first | refine q_then ?_ | refine awp_seq ?_) | ((with_reducible refine w_region ?_ ?_); kernel_rfl))
  refine w_cond rfl (fun h => ?_) (fun h => ?_)
  · rw [if_pos (by simpa using h)]
    repeat (first | ((with_reducible refine k_move ?_); refine m_move rfl ?_) | ((with_reducible refine k_assign ?_); refine m_assign rfl ?_)  | refine e_nrm ?_ | refine x_none rfl ?_ | with_reducible (first | refine q_then ?_ | refine q_then_ret ?_ | refine awp_seq ?_ | refine awp_ret ?_) | ((with_reducible refine w_region ?_ ?_); kernel_rfl))
    refine ret0_2 (by first | exact .inr rfl | exact .inl rfl) rfl rfl rfl ?_
    repeat' (first | exact trivial | exact Ren.v _ | refine ren_tu ?_ | refine ⟨?_, ?_⟩)
  have h0 : certE N V c = 0 := by simpa using h
  rw [if_neg (by simp [h0])]
  have hok := certE_iff.1 h0
  have q1 := hok.num
  have q2 := hok.ask
  have q3 := hok.giv
  have q4 := hok.st
  repeat (first | ((with_reducible refine k_fieldAddr ?_); refine x_fieldAddr_ptr tbOk rfl rfl rfl rfl ?_) | ((with_reducible refine k_load ?_); refine x_load_one tbOk rfl rfl rfl rfl rfl ?_)  | refine x_none rfl ?_ | with_reducible (first | refine q_then ?_ | refine awp_seq ?_ | refine awp_skip ?_) | ((with_reducible refine w_draw mixd ?_ ?_); kernel_rfl))
  refine x_call0 (text_A c.ask hP (by omega) (by omega)) (by repeat' (first | exact trivial | exact Ren.v _ | refine ⟨?_, ?_⟩)) (by repeat' exact RenB.v _) ?_
  repeat (first | ((with_reducible refine k_fieldAddr ?_); refine x_fieldAddr_ptr tbOk rfl rfl rfl rfl ?_) | ((with_reducible refine k_load ?_); refine x_load_one tbOk rfl rfl rfl rfl rfl ?_)  | refine x_none rfl ?_  )
  refine x_call0 (text_A c.num hP (by omega) (by omega)) (by repeat' (first | exact trivial | exact Ren.v _ | refine ⟨?_, ?_⟩)) (by repeat' exact RenB.v _) ?_
  repeat (first | ((with_reducible refine k_fieldAddr ?_); refine x_fieldAddr_ptr tbOk rfl rfl rfl rfl ?_) | ((with_reducible refine k_load ?_); refine x_load_one tbOk rfl rfl rfl rfl rfl ?_)  | refine x_none rfl ?_  )
  refine x_call0 (text_A c.giv hP (by omega) (by omega)) (by repeat' (first | exact trivial | exact Ren.v _ | refine ⟨?_, ?_⟩)) (by repeat' exact RenB.v _) ?_
  repeat (first | ((with_reducible refine k_fieldAddr ?_); refine x_fieldAddr_ptr tbOk rfl rfl rfl rfl ?_) | ((with_reducible refine k_load ?_); refine x_load_one tbOk rfl rfl rfl rfl rfl ?_)  | refine x_none rfl ?_  )
  refine x_call0 (text_A c.st hP (by omega) (by omega)) (by repeat' (first | exact trivial | exact Ren.v _ | refine ⟨?_, ?_⟩)) (by repeat' exact RenB.v _) ?_
  repeat (first  | refine x_none rfl ?_  )
  (with_reducible refine k_buildSlice ?_)
  refine x_buildSlice_own tbOk rfl rfl rfl rfl rfl (by omega) rfl rfl rfl rfl ?_
  repeat (first | ((with_reducible refine k_move ?_); refine m_move rfl ?_) | ((with_reducible refine k_assign ?_); refine m_assign rfl ?_) | ((with_reducible refine k_fieldAddr ?_); refine x_fieldAddr_ptr tbOk rfl rfl rfl rfl ?_) | ((with_reducible refine k_load ?_); refine x_load_one tbOk rfl rfl rfl rfl rfl ?_) | ((with_reducible refine k_call ?_); refine x_len tbOk rfl rfl ?_)  | refine e_nrm ?_ | refine e_drw (by kernel_rfl) ?_ | refine x_none rfl ?_ | with_reducible (first | refine q_then ?_ | refine awp_seq ?_ | refine awp_block ?_) | ((with_reducible refine w_region ?_ ?_); kernel_rfl))
  refine awp_reown (t := 7) (s := 29) (d := 53) rfl rfl rfl (by decide) ?_
  refine awp_loop (ι := Nat) (fun k => k ≤ c.lk.length) (fun k => c.lk.length - k) (fun v k => [(2, .ptr 2 (v 2) 0), (7, .own 53 (v 53)), (31, .sl 3 (c.lk.map Lk.av)), (32, .v (.int .i64 (c.lk.map Lk.av).length)), (33, .v (.int .i64 k))]) (fun v k => [(2, .box [.sl 3 (N.map Nd.av), .sl 5 (V.map Dv.av)]), (53, .buf 9 1 ((ceW0 c ++ (c.lk.take k).flatMap (lkW V)).map svL))]) ?_ ?_
  · exact ⟨0, Nat.zero_le _, trivial, ⟨rfl, rfl, rfl, rfl, rfl, trivial⟩, ⟨rfl, rfl, trivial⟩⟩
  rintro v k hk
  repeat (first | ((with_reducible refine k_bin ?_); refine m_binI rfl rfl rfl ?_)  | refine e_nrm ?_ | refine x_none rfl ?_ | with_reducible (first | refine q_then ?_ | refine awp_seq ?_) | ((with_reducible refine w_region ?_ ?_); kernel_rfl))
  refine w_cond rfl (fun h => ?_) (fun h => ?_)
  · have hlt : k < c.lk.length := by simpa using h
    obtain ⟨x, hx⟩ := some_at hlt
    have hy := lk_at hx
    have hr := faultE_rng (lksE_rng hok.lk x (List.mem_of_getElem? hx))
    obtain ⟨z, hz⟩ := some_at (L := V) (k := x.d.toNat) (by omega)
    have hzy := dv_at hz
    have hnm : nameAt V x.d = z.n := by unfold nameAt; rw [hz]
    have hpo := pos_at hr.2.2.2.1
    have hmlen : ((ceW0 c ++ (c.lk.take k).flatMap (lkW V)).map svL).length = 7 + k * 5 := by
      rw [List.length_map, List.length_append, lkW_len, List.length_take, Nat.min_eq_left (by omega)]; rfl
    repeat (first | ((with_reducible refine k_move ?_); refine m_move rfl ?_) | ((with_reducible refine k_fieldAddr ?_); (first | refine x_fieldAddr_ptr tbOk rfl rfl rfl rfl ?_ | refine x_fieldAddr_ep tbOk rfl rfl rfl rfl ?_)) | ((with_reducible refine k_load ?_); (first | refine x_load_one tbOk rfl rfl rfl rfl rfl ?_ | refine x_load_ep_one tbOk rfl rfl rfl ?_ | refine x_load_ep_agg tbOk rfl rfl (Nat.le_of_ble_eq_true rfl) ?_)) | ((with_reducible refine k_store ?_); refine m_store tbOk rfl rfl rfl rfl rfl rfl rfl (Nat.le_of_ble_eq_true rfl) rfl ?_) | ((with_reducible refine k_alloc ?_); refine x_alloc tbOk rfl rfl ?_) | ((with_reducible refine k_indexAddr ?_); (first | refine x_indexAddr_n tbOk rfl rfl rfl rfl (by assumption) ?_ | refine x_indexAddr tbOk rfl rfl rfl rfl (by omega) (by assumption) ?_))  | refine e_nrm ?_ | refine x_none rfl ?_ | with_reducible (first | refine q_then ?_ | refine awp_seq ?_ | refine awp_block ?_ | refine awp_skip ?_) | ((with_reducible refine w_region ?_ ?_); kernel_rfl) | ((with_reducible refine w_draw mixd ?_ ?_); kernel_rfl))
    refine x_call0 (cwords_A) (by repeat' exact trivial) (by repeat' (first | exact trivial | exact RenB.v _ | refine renb_ag ?_ | refine ⟨?_, ?_⟩)) ?_
    repeat (first | ((with_reducible refine k_fieldAddr ?_); refine x_fieldAddr_ptr tbOk rfl rfl rfl rfl ?_) | ((with_reducible refine k_load ?_); refine x_load_one tbOk rfl rfl rfl rfl rfl ?_)  | refine x_none rfl ?_  )
    with_reducible refine k_index ?_
    refine x_index_arr tbOk Tryd.underlying79 rfl rfl rfl ⟨by omega, by omega⟩ rfl hpo ?_
    repeat (first | ((with_reducible refine k_fieldAddr ?_); refine x_fieldAddr_ptr tbOk rfl rfl rfl rfl ?_) | ((with_reducible refine k_load ?_); refine x_load_one tbOk rfl rfl rfl rfl rfl ?_)  | refine x_none rfl ?_  )
    refine x_call0 (text_A x.k hP (by omega) (by omega)) (by repeat' (first | exact trivial | exact Ren.v _ | refine ⟨?_, ?_⟩)) (by repeat' exact RenB.v _) ?_
    repeat (first  | ((with_reducible refine k_buildSlice ?_); refine m_buildSlice tbOk rfl rfl rfl rfl rfl (by omega) rfl rfl rfl ?_) | refine x_none rfl ?_  )
    refine x_append_own tbOk rfl rfl rfl rfl rfl (by decide) rfl rfl rfl rfl rfl (fun x hx => by simp at hx; rcases hx with rfl | rfl | rfl | rfl | rfl <;> rfl) (by rw [hmlen]; simp only [List.length_map, List.length_cons, List.length_nil]; omega) (by rw [hmlen]; simp only [List.length_map, List.length_cons, List.length_nil]; omega) ?_
    repeat (first | ((with_reducible refine k_move ?_); refine m_move rfl ?_) | ((with_reducible refine k_assign ?_); refine m_assign rfl ?_) | ((with_reducible refine k_bin ?_); refine x_add_in rfl rfl (by omega) ?_)  | refine e_nrm ?_ | refine e_drw (by kernel_rfl) ?_ | refine x_none rfl ?_ | with_reducible (first | refine q_then ?_ | refine q_block ?_) | ((with_reducible refine w_region ?_ ?_); kernel_rfl))
    refine ⟨k + 1, by omega, by omega, ⟨rfl, rfl, rfl, rfl, rfl, trivial⟩, ⟨rfl, hc_buf ?_, trivial⟩⟩
    rw [take_at hx, List.flatMap_append, ← List.append_assoc, List.map_append (l₁ := ceW0 c ++ (c.lk.take k).flatMap (lkW V))]
    congr 1
    rw [List.flatMap_cons, List.flatMap_nil, List.append_nil]
    unfold lkW
    rw [hnm]
    rfl
  · have hge : k = c.lk.length := by simp at h; omega
    have hq20 : ∀ n : Int, 0 ≤ n → n ≤ 65536 → (txL n).length ≤ 1000 := fun n a b => Nat.le_trans (txL_len (by omega) (by omega)) (by decide)
    have hW : ∀ w ∈ ceW V c, w.length ≤ 1000 := by
      intro w hw
      rw [ceW_eq] at hw
      rcases List.mem_append.1 hw with hw | hw
      · unfold ceW0 at hw
        simp only [List.mem_cons, List.not_mem_nil, or_false] at hw
        rcases hw with rfl | rfl | rfl | rfl | rfl | rfl | rfl
        · decide
        · exact hq20 _ (by omega) (by omega)
        · exact hq20 _ (by omega) (by omega)
        · decide
        · exact hq20 _ (by omega) (by omega)
        · decide
        · exact hq20 _ (by omega) (by omega)
      · obtain ⟨x, hx, hw⟩ := List.mem_flatMap.1 hw
        have hr := faultE_rng (lksE_rng hok.lk x hx)
        obtain ⟨z, hz⟩ := some_at (L := V) (k := x.d.toNat) (by omega)
        have hnm : nameAt V x.d = z.n := by unfold nameAt; rw [hz]
        have hzs := hV z (List.mem_of_getElem? hz)
        unfold lkW at hw
        rw [hnm] at hw
        simp only [List.mem_cons, List.not_mem_nil, or_false] at hw
        rcases hw with rfl | rfl | rfl | rfl | rfl
        · decide
        · simpa using hzs
        · unfold posW; split <;> decide
        · decide
        · exact hq20 _ (by omega) (by omega)
    have hWl : (ceW V c).length = 7 + c.lk.length * 5 := by rw [ceW_eq, List.length_append, lkW_len]; rfl
    have hJl := joinW_len _ _ hW
    rw [hWl] at hJl
    rw [hge, List.take_length, ← ceW_eq]
    refine awp_freeze (t := 7) (s := 53) rfl rfl ?_
    repeat (first | ((with_reducible refine k_move ?_); refine m_move rfl ?_)  | refine x_none rfl ?_ | with_reducible (first | refine q_then ?_ | refine q_then_exit ?_ | refine awp_seq ?_ | refine awp_exit ?_) | ((with_reducible refine q_block_exit ?_ ?_); rfl) | ((with_reducible refine w_region ?_ ?_); kernel_rfl))
    refine x_call0 (jn_A (ceW V c) (by omega) (by omega)) (by repeat' (first | exact trivial | exact Ren.sl _ _ | refine ⟨?_, ?_⟩)) (by repeat' exact RenB.v _) ?_
    repeat (first | ((with_reducible refine k_move ?_); refine m_move rfl ?_) | ((with_reducible refine k_assign ?_); refine m_assign rfl ?_) | ((with_reducible refine k_call ?_); refine x_len_str (by exact Tryd.underlying9) rfl ?_) | ((with_reducible refine k_bin ?_); refine m_binI rfl rfl rfl ?_)  | refine e_nrm ?_ | refine x_none rfl ?_ | with_reducible (first | refine q_then ?_ | refine awp_seq ?_) | ((with_reducible refine w_region ?_ ?_); kernel_rfl))
    refine w_cond rfl (fun h => ?_) (fun h => ?_)
    · rw [if_pos (by simp [strL_size] at h; omega)]
      repeat (first | ((with_reducible refine k_assign ?_); refine m_assign rfl ?_)  | refine e_nrm ?_ | refine x_none rfl ?_ | with_reducible (first | refine q_then ?_ | refine q_then_ret ?_ | refine awp_seq ?_ | refine awp_ret ?_) | ((with_reducible refine w_region ?_ ?_); kernel_rfl))
      refine ret0_2 (by first | exact .inr rfl | exact .inl rfl) rfl rfl rfl ?_
      repeat' (first | exact trivial | exact Ren.v _ | refine ren_tu ?_ | refine ⟨?_, ?_⟩)
    · rw [if_neg (by simp [strL_size] at h; omega)]
      repeat (first | ((with_reducible refine k_move ?_); refine m_move rfl ?_) | ((with_reducible refine k_assign ?_); refine m_assign rfl ?_)  | refine e_nrm ?_ | refine x_none rfl ?_ | with_reducible (first | refine q_then ?_ | refine awp_seq ?_ | refine awp_skip ?_ | refine awp_ret ?_) | ((with_reducible refine w_region ?_ ?_); kernel_rfl))
      refine ret0_2 (by first | exact .inr rfl | exact .inl rfl) rfl rfl rfl ?_
      repeat' (first | exact trivial | exact Ren.v _ | refine ren_tu ?_ | refine ⟨?_, ?_⟩)
end Go.Proofs.YtamihjgfncjdoaaDoor
