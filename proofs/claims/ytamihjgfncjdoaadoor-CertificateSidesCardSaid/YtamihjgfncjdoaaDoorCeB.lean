/- slices.BinarySearchFunc at certificates, copies.Certificates, certificate.put, with, Ask, by the abstract machine; conditions: the table of classes stands. -/
import Derived.Test.YtamihjgfncjdoaaDoorCeA
import Derived.Test.YtamihjgfncjdoaaDoorAbsO
import Derived.Test.YtamihjgfncjdoaaDoorSlC
import Derived.Test.YtamihjgfncjdoaaDoorSlK
set_option linter.unusedVariables false
set_option linter.unusedSimpArgs false
namespace Go.Proofs.YtamihjgfncjdoaaDoor
open Go Go.RowKit
set_option maxRecDepth 10000
variable {G : Nat → Option (List Value)}
theorem lowG_eq {α : Type} {lt : α → α → Bool} {x : α} : ∀ {L : List α} {i : Nat}, i ≤ L.length → (∀ k r, k < i → L[k]? = some r → lt r x = true) → (∀ r, L[i]? = some r → lt r x = false) → lowG lt x L = i
  | [], i, h, _, _ => by simp at h; subst h; rfl
  | y :: l, 0, _, _, h2 => by rw [lowG, if_neg (by rw [h2 y rfl]; decide)]
  | y :: l, i + 1, h, h1, h2 => by
    rw [lowG, if_pos (h1 0 y (by omega) rfl), lowG_eq (by simpa using h) (fun k r hk hr => h1 (k + 1) r (by omega) (by simpa using hr)) (fun r hr => h2 r (by simpa using hr))]
theorem asc_at {α : Type} {lt : α → α → Bool} {L : List α} (h : AscG lt L) {i j : Nat} {a b : α} (ha : L[i]? = some a) (hb : L[j]? = some b) (hij : i < j) : lt a b = true := by
  have h3 := List.pairwise_iff_getElem.1 h i j (lt_at ha) (lt_at hb) hij
  rw [(List.getElem?_eq_some_iff.1 ha).2, (List.getElem?_eq_some_iff.1 hb).2] at h3
  exact h3
theorem flat_set {sz : Nat} (L : List AV) (i : Nat) (y : AV) (h : ∀ x ∈ L, x.cells.length = sz) (hy : y.cells.length = sz) (hi : i < L.length) : (L.set i y).flatMap AV.cells = putL (L.flatMap AV.cells) (i * sz) y.cells := by
  obtain ⟨ft, -⟩ := flat_take L i h
  obtain ⟨-, fd⟩ := flat_take L (i + 1) h
  have hl : (L.flatMap AV.cells).length = L.length * sz := flat_len' h
  have hle : i * sz + sz ≤ L.length * sz := by rw [← Nat.succ_mul]; exact Nat.mul_le_mul_right _ hi
  rw [putL_take_all _ _ _ (by rw [hl, hy]; exact hle), List.set_eq_take_append_cons_drop, if_pos hi, List.flatMap_append, List.flatMap_cons, ft, fd, hy, Nat.succ_mul, List.append_assoc]
theorem flat_get {sz : Nat} {L : List AV} {i : Nat} {x : AV} (h : ∀ x ∈ L, x.cells.length = sz) (hx : L[i]? = some x) : ((L.flatMap AV.cells).drop (i * sz)).take sz = x.cells := by
  obtain ⟨-, fd⟩ := flat_take L i h
  rw [← fd, drop_at hx, List.flatMap_cons, List.take_append_of_le_length (by rw [h x (List.mem_of_getElem? hx)]; exact Nat.le_refl _), List.take_of_length_le (by rw [h x (List.mem_of_getElem? hx)]; exact Nat.le_refl _)]
theorem flat_field {sz : Nat} {L : List AV} {i j : Nat} {x y v : AV} (h : ∀ x ∈ L, x.cells.length = sz) (hx : L[i]? = some x) (hy : y.cells = x.cells.set j v) (hj : j < sz) : (L.set i y).flatMap AV.cells = putL (L.flatMap AV.cells) (i * sz + j) [v] := by
  have hi := lt_at hx
  have hxl := h x (List.mem_of_getElem? hx)
  have hyl : y.cells.length = sz := by rw [hy, List.length_set]; exact hxl
  have hl : (L.flatMap AV.cells).length = L.length * sz := flat_len' h
  have hle : i * sz + sz ≤ L.length * sz := by rw [← Nat.succ_mul]; exact Nat.mul_le_mul_right _ hi
  rw [flat_set L i y h hyl hi, putL_take_all _ _ _ (by rw [hl, hyl]; exact hle)]
  have hg := flat_get h hx
  have hF : L.flatMap AV.cells = (L.flatMap AV.cells).take (i * sz) ++ (x.cells ++ (L.flatMap AV.cells).drop (i * sz + sz)) := by
    rw [← hg, ← List.drop_drop, List.take_append_drop, List.take_append_drop]
  have hA : ((L.flatMap AV.cells).take (i * sz)).length = i * sz := by rw [List.length_take, hl]; omega
  generalize (L.flatMap AV.cells).take (i * sz) = A at *
  rw [hyl]
  generalize (L.flatMap AV.cells).drop (i * sz + sz) = D at *
  rw [hF]
  show A ++ y.cells ++ D = (A ++ (x.cells ++ D)).set (i * sz + j) v
  rw [List.set_append_right _ _ (by omega), hA, show i * sz + j - i * sz = j by omega, List.set_append_left _ _ (by omega), ← hy, List.append_assoc]
theorem lk_oneB (L : List Lk) : ∀ x ∈ L.map Lk.av, allOne x.cells = true := by
  intro x hx
  obtain ⟨r, _, rfl⟩ := List.mem_map.1 hx
  rfl
theorem ce_one (L : List Ce) : ∀ x ∈ L.map Ce.av, allOne x.cells = true := by
  intro x hx
  obtain ⟨r, _, rfl⟩ := List.mem_map.1 hx
  rfl
theorem ce_cells (L : List Ce) : ∀ x ∈ L.map Ce.av, x.cells.length = 5 := by
  intro x hx
  obtain ⟨r, _, rfl⟩ := List.mem_map.1 hx
  rfl
def fndC (L : List Ce) (c : Ce) : Bool := match L[lowG ceLt c L]? with
  | some y => ordC y c == 0
  | none => false
set_option maxHeartbeats 2000000 in
theorem bsC_A (L : List Ce) (x : Ce) (hp : AscG ceLt L) (hm : L.length ≤ 900) :
    ACalls Tryd.prog G 36 [.sl 5 (L.map Ce.av), x.av, .fn 32 []] [] (.tu [.v (.int .i64 (lowG ceLt x L)), .v (.bool (fndC L x))]) [] := by
  have hln : (L.map Ce.av).length = L.length := by simp
  refine acalls_of tbOk (enter_of Tryd.func36 (by kernel_rfl) rfl) Tryd.func36 rfl _ Tryd.ntmps36 (Nat.le_of_ble_eq_true rfl) fun X hX => ?_
  subst hX
  repeat (first | ((with_reducible refine k_move ?_); refine m_move rfl ?_) | ((with_reducible refine k_assign ?_); refine m_assign rfl ?_) | ((with_reducible refine k_box ?_); refine m_box rfl rfl rfl ?_) | ((with_reducible refine k_call ?_); refine x_len tbOk rfl rfl ?_)  | refine e_nrm ?_ | refine x_none rfl ?_ | with_reducible (first | refine q_then ?_ | refine awp_seq ?_ | refine awp_block ?_) | ((with_reducible refine w_region ?_ ?_); kernel_rfl))
  refine awp_loop (ι := Nat × Nat) (fun q => q.1 ≤ q.2 ∧ q.2 ≤ L.length ∧ (∀ k r, k < q.1 → L[k]? = some r → ceLt r x = true) ∧ (∀ k r, q.2 ≤ k → L[k]? = some r → ceLt r x = false)) (fun q => q.2 - q.1) (fun v q => [(0, .sl 5 (L.map Ce.av)), (2, .fn 32 []), (4, .ptr 4 (v 4) 0), (8, .v (.int .i64 (L.map Ce.av).length)), (9, .v (.int .i64 (q.1 : Nat))), (10, .v (.int .i64 (q.2 : Nat)))]) (fun v q => [(4, .box [.v (.int .i64 x.num), .v (.int .i64 x.ask), .v (.int .i64 x.giv), .v (.int .i64 x.st), .sl 3 (x.lk.map Lk.av)])]) ?_ ?_
  · exact ⟨(0, (L.map Ce.av).length), ⟨Nat.zero_le _, by simp, by simp, fun k r hk hr => by
      have := lt_at hr
      simp at hk; omega⟩, trivial, ⟨rfl, rfl, rfl, rfl, rfl, rfl, trivial⟩, ⟨rfl, trivial⟩⟩
  rintro v ⟨i, j⟩ ⟨hij, hj, h1, h2⟩
  simp only at hij hj h1 h2
  dsimp only
  repeat (first | ((with_reducible refine k_move ?_); refine m_move rfl ?_) | ((with_reducible refine k_bin ?_); refine m_binI rfl rfl rfl ?_)  | refine e_nrm ?_ | refine x_none rfl ?_ | with_reducible (first | refine q_then ?_ | refine awp_seq ?_) | ((with_reducible refine w_region ?_ ?_); kernel_rfl))
  refine w_cond rfl (fun h => ?_) (fun h => ?_)
  · have hlt : i < j := by simpa using h
    have hw : IntKind.i64.wrap (((i : Int) + (j : Int)) / 2 ^ (1 : Int).toNat) = ((i : Int) + (j : Int)) / 2 ^ (1 : Int).toNat := wrap_i64_in (by simp; omega)
    obtain ⟨m, hmd⟩ : ∃ m : Nat, ((i : Int) + (j : Int)) / 2 ^ (1 : Int).toNat = (m : Nat) := ⟨(i + j) / 2, by simp⟩
    have hm2 : m = (i + j) / 2 := by simp at hmd; omega
    obtain ⟨r, hx⟩ := some_at (L := L) (k := m) (by omega)
    have hy := ce_at hx
    repeat (first | ((with_reducible refine k_move ?_); refine m_move rfl ?_) | ((with_reducible refine k_assign ?_); refine m_assign rfl ?_) | ((with_reducible refine k_convert ?_); refine x_conv_in tbOk rfl rfl rfl (by first | assumption | exact wrap_u64_in (by omega) | exact wrap_i64_in (by omega) | exact wrap_u8_in (by omega)) ?_) | ((with_reducible refine k_bin ?_); (first | refine x_add_in rfl rfl (by omega) ?_ | refine x_shr rfl rfl (by decide) ?_))  | refine e_nrm ?_ | refine x_none rfl ?_ | with_reducible (first | refine q_then ?_ | refine awp_seq ?_ | refine awp_block ?_ | refine awp_skip ?_) | ((with_reducible refine w_region ?_ ?_); kernel_rfl) | ((with_reducible refine w_draw mixd ?_ ?_); kernel_rfl))
    rw [hmd]
    repeat (first | ((with_reducible refine k_load ?_); (first | refine x_load_agg tbOk rfl rfl rfl rfl (Nat.le_of_ble_eq_true rfl) ?_ | refine x_load_ep_agg tbOk rfl rfl (Nat.le_of_ble_eq_true rfl) ?_)) | ((with_reducible refine k_indexAddr ?_); refine x_indexAddr_n tbOk rfl rfl rfl rfl (by assumption) ?_)  | refine x_none rfl ?_  )
    refine x_callV (ss := []) (cs' := []) (corder_A r x) rfl (by repeat' (first | exact trivial | exact Ren.v _ | exact Ren.sl _ _ | refine ren_ag ?_ | refine ⟨?_, ?_⟩)) (by simp) trivial rfl trivial (by repeat' exact RenB.v _) ?_
    repeat (first | ((with_reducible refine k_bin ?_); refine m_binI rfl rfl rfl ?_)  | refine e_drw (by kernel_rfl) ?_ | refine x_none rfl ?_ | with_reducible refine q_then ?_ )
    rw [ordC_lt]
    refine w_cond rfl (fun hc => ?_) (fun hc => ?_)
    · repeat (first | ((with_reducible refine k_move ?_); refine m_move rfl ?_) | ((with_reducible refine k_assign ?_); refine m_assign rfl ?_) | ((with_reducible refine k_bin ?_); refine x_add_in rfl rfl (by omega) ?_)  | refine e_nrm ?_ | refine x_none rfl ?_ | with_reducible (first | refine q_then ?_ | refine q_block ?_) | ((with_reducible refine w_region ?_ ?_); kernel_rfl))
      refine ⟨(m + 1, j), ⟨by show m + 1 ≤ j; omega, hj, fun k y hk hy' => ?_, h2⟩, by show j - (m + 1) < j - i; omega, ⟨rfl, rfl, rfl, rfl, rfl, rfl, trivial⟩, ⟨rfl, trivial⟩⟩
      rcases Nat.eq_or_lt_of_le (show k ≤ m by simp at hk; omega) with rfl | hk2
      · rw [hx] at hy'; injection hy' with e; rw [← e]; exact hc
      · exact ceLt_tr (asc_at hp hy' hx hk2) hc
    · repeat (first | ((with_reducible refine k_move ?_); refine m_move rfl ?_) | ((with_reducible refine k_assign ?_); refine m_assign rfl ?_)  | refine e_nrm ?_ | refine x_none rfl ?_ | with_reducible (first | refine q_then ?_ | refine q_block ?_) | ((with_reducible refine w_region ?_ ?_); kernel_rfl))
      refine ⟨(i, m), ⟨by show i ≤ m; omega, by show m ≤ L.length; omega, h1, fun k y hk hy' => ?_⟩, by show m - i < j - i; omega, ⟨rfl, rfl, rfl, rfl, rfl, rfl, trivial⟩, ⟨rfl, trivial⟩⟩
      rcases Nat.eq_or_lt_of_le (show m ≤ k from hk) with rfl | hk2
      · rw [hx] at hy'; injection hy' with e; rw [← e]; exact hc
      · cases hq : ceLt y x with
        | false => rfl
        | true =>
          have := ceLt_tr (asc_at hp hx hy' hk2) hq
          rw [hc] at this
          cases this
  · have hge : ¬ i < j := by simpa using h
    obtain rfl : i = j := by omega
    have hlow := lowG_eq (lt := ceLt) hj h1 (fun r hr => h2 i r (Nat.le_refl _) hr)
    have hfn : fndC L x = match L[i]? with
      | some y => ordC y x == 0
      | none => false := by unfold fndC; rw [hlow]
    rw [hlow, hfn]
    repeat (first | ((with_reducible refine k_move ?_); refine m_move rfl ?_) | ((with_reducible refine k_bin ?_); refine m_binI rfl rfl rfl ?_)  | refine x_none rfl ?_ | with_reducible (first | refine q_then ?_ | refine q_then_exit ?_ | refine awp_seq ?_ | refine awp_exit ?_) | ((with_reducible refine q_block_exit ?_ ?_); rfl) | ((with_reducible refine w_draw mixd ?_ ?_); kernel_rfl))
    refine x_split rfl rfl (fun h0 => ?_) (fun h0 => ?_)
    · have hlt : i < L.length := by simpa using h0
      obtain ⟨r, hx⟩ := some_at hlt
      have hy := ce_at hx
      rw [hx]
      repeat (first | ((with_reducible refine k_move ?_); refine m_move rfl ?_) | ((with_reducible refine k_load ?_); (first | refine x_load_agg tbOk rfl rfl rfl rfl (Nat.le_of_ble_eq_true rfl) ?_ | refine x_load_ep_agg tbOk rfl rfl (Nat.le_of_ble_eq_true rfl) ?_)) | ((with_reducible refine k_indexAddr ?_); refine x_indexAddr_n tbOk rfl rfl rfl rfl (by assumption) ?_)  | refine x_run_t rfl rfl (by first | rfl | assumption) ?_  )
      refine x_callV (ss := []) (cs' := []) (corder_A r x) rfl (by repeat' (first | exact trivial | exact Ren.v _ | exact Ren.sl _ _ | refine ren_ag ?_ | refine ⟨?_, ?_⟩)) (by simp) trivial rfl trivial (by repeat' exact RenB.v _) ?_
      repeat (first | ((with_reducible refine k_assign ?_); refine m_assign rfl ?_) | ((with_reducible refine k_pick ?_); refine m_pickt rfl (by first | rfl | assumption) rfl ?_) | ((with_reducible refine k_bin ?_); refine m_binI rfl rfl rfl ?_)  | refine e_drw (by kernel_rfl) ?_ | refine x_none rfl ?_ | refine x_run_t rfl rfl (by first | rfl | assumption) ?_ | with_reducible (first | refine q_then ?_ | refine awp_ret ?_) )
      refine ret0_2 (by first | exact .inr rfl | exact .inl rfl) rfl rfl rfl ?_
      repeat' (first | exact trivial | exact Ren.v _ | refine ren_tu ?_ | refine ⟨?_, ?_⟩)
    · have hlt : ¬ i < L.length := by simpa using h0
      rw [List.getElem?_eq_none (by omega)]
      repeat (first | ((with_reducible refine k_assign ?_); refine m_assign rfl ?_) | ((with_reducible refine k_pick ?_); refine m_pickf rfl (by first | rfl | assumption) rfl ?_)  | refine e_drw (by kernel_rfl) ?_ | refine x_none rfl ?_ | refine x_skip_t rfl rfl (by first | rfl | assumption) ?_ | with_reducible (first | refine q_then ?_ | refine awp_ret ?_) )
      refine ret0_2 (by first | exact .inr rfl | exact .inl rfl) rfl rfl rfl ?_
      repeat' (first | exact trivial | exact Ren.v _ | refine ren_tu ?_ | refine ⟨?_, ?_⟩)
set_option maxHeartbeats 1000000 in
theorem cc_A (c : Ce) (hm : c.lk.length ≤ 900) : ACalls Tryd.prog G 59 [c.av] [] c.av [] := by
  refine acalls_of tbOk (enter_of Tryd.func59 (by kernel_rfl) rfl) Tryd.func59 rfl _ Tryd.ntmps59 (Nat.le_of_ble_eq_true rfl) fun X hX => ?_
  subst hX
  repeat (first | ((with_reducible refine k_fieldAddr ?_); refine x_fieldAddr_ptr tbOk rfl rfl rfl rfl ?_) | ((with_reducible refine k_load ?_); refine x_load_one tbOk rfl rfl rfl rfl rfl ?_) | ((with_reducible refine k_alloc ?_); refine x_alloc tbOk rfl rfl ?_) | ((with_reducible refine k_box ?_); refine m_box rfl rfl rfl ?_)  | refine e_nrm ?_ | refine x_none rfl ?_ | with_reducible (first | refine q_then ?_ | refine awp_seq ?_) | ((with_reducible refine w_region ?_ ?_); kernel_rfl))
  refine x_call_own (clone_OK (c.lk.map Lk.av) (lk_oneB _) (by simp; omega)) (by repeat' (first | exact trivial | exact Ren.sl _ _ | refine ⟨?_, ?_⟩)) rfl ?_
  repeat (first | ((with_reducible refine k_fieldAddr ?_); refine x_fieldAddr_ptr tbOk rfl rfl rfl rfl ?_) | ((with_reducible refine k_store ?_); refine m_store tbOk rfl rfl rfl rfl rfl rfl rfl (Nat.le_of_ble_eq_true rfl) rfl ?_)  | refine e_nrm ?_ | refine x_none rfl ?_ | with_reducible (first | refine q_then ?_ | refine awp_seq ?_))
  refine awp_freeze_at (s := 5) [] [(1, [.v (.int .i64 c.num), .v (.int .i64 c.ask), .v (.int .i64 c.giv), .v (.int .i64 c.st), .sl 3 (c.lk.map Lk.av)])] rfl trivial ⟨⟨_, _, rfl, .same (.same (.same (.same (.hit .nil))))⟩, trivial⟩ ?_
  repeat (first | ((with_reducible refine k_load ?_); refine x_load_agg tbOk rfl rfl rfl rfl (Nat.le_of_ble_eq_true rfl) ?_) | ((with_reducible refine k_store ?_); refine m_store tbOk rfl rfl rfl rfl rfl rfl rfl (Nat.le_of_ble_eq_true rfl) rfl ?_)  | refine e_nrm ?_ | refine x_none rfl ?_ | with_reducible (first | refine q_then ?_ | refine awp_ret ?_) | ((with_reducible refine w_region ?_ ?_); kernel_rfl))
  refine ret0_cell (by first | exact .inr rfl | exact .inl rfl) rfl rfl rfl rfl rfl ?_ rfl
  rfl
set_option maxHeartbeats 1000000 in
theorem callC_W (L : List Ce) (hm : CeMax L) (hl : L.length ≤ 900) : ACallsW Tryd.prog G 58 [.sl 5 (L.map Ce.av), .fn 59 []] 40 5 (L.map Ce.av) := by
  have hml : (L.map Ce.av).length = L.length := by simp
  have hfl : ((L.map Ce.av).flatMap AV.cells).length = L.length * 5 := by rw [flat_len' (ce_cells L), hml]
  refine acallsW_of tbOk (enter_of Tryd.func58 (by kernel_rfl) rfl) Tryd.func58 rfl _ Tryd.ntmps58 (Nat.le_of_ble_eq_true rfl) fun X hX => ?_
  subst hX
  repeat (first | ((with_reducible refine k_move ?_); refine m_move rfl ?_) | ((with_reducible refine k_assign ?_); refine m_assign rfl ?_)  | refine e_nrm ?_ | refine x_none rfl ?_ | with_reducible (first | refine q_then ?_ | refine awp_seq ?_) | ((with_reducible refine w_region ?_ ?_); kernel_rfl))
  refine x_call_own (clone_OC (L.map Ce.av) (ce_one _) (by simp; omega)) (by repeat' (first | exact trivial | exact Ren.sl _ _ | refine ⟨?_, ?_⟩)) rfl ?_
  repeat (first | ((with_reducible refine k_move ?_); refine m_move rfl ?_) | ((with_reducible refine k_assign ?_); refine m_assign rfl ?_) | ((with_reducible refine k_call ?_); refine x_len_own tbOk rfl rfl rfl rfl ?_)  | refine e_nrm ?_ | refine x_none rfl ?_ | with_reducible (first | refine q_then ?_ | refine awp_seq ?_ | refine awp_block ?_) | ((with_reducible refine w_region ?_ ?_); kernel_rfl))
  refine awp_loop (ι := Nat) (fun k => k ≤ L.length) (fun k => L.length - k) (fun v k => [(0, .own 8 (v 8)), (1, .fn 59 []), (9, .own 8 (v 8)), (10, .v (.int .i64 (L.map Ce.av).length)), (11, .v (.int .i64 k))]) (fun v k => [(8, .buf 40 5 (L.map Ce.av))]) ?_ ?_
  · exact ⟨0, Nat.zero_le _, trivial, ⟨rfl, rfl, rfl, rfl, rfl, trivial⟩, ⟨rfl, trivial⟩⟩
  rintro v k hk
  repeat (first | ((with_reducible refine k_bin ?_); refine m_binI rfl rfl rfl ?_)  | refine e_nrm ?_ | refine x_none rfl ?_ | with_reducible (first | refine q_then ?_ | refine awp_seq ?_) | ((with_reducible refine w_region ?_ ?_); kernel_rfl))
  refine w_cond rfl (fun h => ?_) (fun h => ?_)
  · have hlt : k < L.length := by simp at h; omega
    obtain ⟨x, hx⟩ := some_at hlt
    have hy := ce_at hx
    repeat (first | ((with_reducible refine k_move ?_); refine m_move rfl ?_)  | refine x_none rfl ?_ | with_reducible (first | refine q_then ?_ | refine awp_seq ?_ | refine awp_block ?_ | refine awp_skip ?_) | ((with_reducible refine w_region ?_ ?_); kernel_rfl))
    with_reducible refine k_indexAddr ?_
    refine x_indexAddr_own tbOk rfl rfl rfl rfl rfl rfl ⟨by omega, by omega⟩ ?_
    repeat (first   | refine x_none rfl ?_  )
    with_reducible refine k_load ?_
    refine x_load_po_agg (cs := x.av.cells) tbOk rfl rfl rfl rfl (by rw [Int.toNat_natCast]; exact flat_get (ce_cells L) hy) rfl (by omega) ?_
    repeat (first | ((with_reducible refine k_move ?_); refine m_move rfl ?_) | ((with_reducible refine k_assign ?_); refine m_assign rfl ?_) | ((with_reducible refine k_load ?_); refine x_load_agg tbOk rfl rfl rfl rfl (Nat.le_of_ble_eq_true rfl) ?_) | ((with_reducible refine k_store ?_); refine m_store tbOk rfl rfl rfl rfl rfl rfl rfl (Nat.le_of_ble_eq_true rfl) rfl ?_) | ((with_reducible refine k_alloc ?_); refine x_alloc tbOk rfl rfl ?_)  | refine e_nrm ?_ | refine x_none rfl ?_ | with_reducible refine q_then ?_ | ((with_reducible refine w_region ?_ ?_); kernel_rfl))
    refine x_callV (y := x.av) (ss := []) (cs' := []) (cc_A x (hm x (List.mem_of_getElem? hx))) rfl (by repeat' (first | exact trivial | exact Ren.v _ | exact Ren.sl _ _ | refine ren_ag ?_ | refine ⟨?_, ?_⟩)) (by simp) trivial rfl trivial (by repeat' (first | exact trivial | exact RenB.v _ | exact RenB.sl _ _ | refine renb_ag ?_ | refine ⟨?_, ?_⟩)) ?_
    repeat (first   | refine x_none rfl ?_  )
    with_reducible refine k_indexAddr ?_
    refine x_indexAddr_own tbOk rfl rfl rfl rfl rfl rfl ⟨by omega, by omega⟩ ?_
    repeat (first   | refine x_none rfl ?_  )
    with_reducible refine k_store ?_
    refine x_store_po (L' := L.map Ce.av) tbOk rfl rfl rfl rfl rfl rfl rfl rfl rfl (by rw [hfl, Int.toNat_natCast]; omega) rfl (ce_cells L) ?_ ?_
    · rw [Int.toNat_natCast]
      have := flat_set (L.map Ce.av) k x.av (ce_cells L) rfl (by omega)
      have e : (L.map Ce.av).set k x.av = L.map Ce.av := by
        apply List.ext_getElem?
        intro i
        rw [List.getElem?_set]
        split
        · rename_i he; subst he; rw [if_pos (by omega), hy]
        · rfl
      rw [e] at this
      exact this
    repeat (first | ((with_reducible refine k_move ?_); refine m_move rfl ?_) | ((with_reducible refine k_bin ?_); refine x_add_in rfl rfl (by omega) ?_)  | refine e_nrm ?_ | refine x_none rfl ?_ | with_reducible (first | refine q_then ?_ | refine q_block ?_) | ((with_reducible refine w_region ?_ ?_); kernel_rfl))
    exact ⟨k + 1, by omega, by omega, ⟨rfl, rfl, rfl, rfl, rfl, trivial⟩, ⟨rfl, trivial⟩⟩
  · repeat (first | ((with_reducible refine k_move ?_); refine m_move rfl ?_) | ((with_reducible refine k_assign ?_); refine m_assign rfl ?_)  | refine e_nrm ?_ | refine x_none rfl ?_ | with_reducible (first | refine q_then ?_ | refine q_then_exit ?_ | refine awp_seq ?_ | refine awp_exit ?_ | refine awp_ret ?_) | ((with_reducible refine q_block_exit ?_ ?_); rfl) | ((with_reducible refine w_region ?_ ?_); kernel_rfl))
    refine retW (by first | exact .inr rfl | exact .inl rfl) rfl rfl rfl
theorem certs_W (L : List Ce) (hm : CeMax L) (hl : L.length ≤ 900) : ACallsW Tryd.prog G 37 [.sl 5 (L.map Ce.av)] 40 5 (L.map Ce.av) := by
  refine acallsW_of tbOk (enter_of Tryd.func37 (by kernel_rfl) rfl) Tryd.func37 rfl _ Tryd.ntmps37 (Nat.le_of_ble_eq_true rfl) fun X hX => ?_
  subst hX
  repeat (first | ((with_reducible refine k_move ?_); refine m_move rfl ?_) | ((with_reducible refine k_assign ?_); refine m_assign rfl ?_)  | refine e_nrm ?_ | refine x_none rfl ?_ | with_reducible (first | refine q_then ?_ | refine awp_seq ?_) | ((with_reducible refine w_region ?_ ?_); kernel_rfl))
  refine x_call_ownW (callC_W L hm hl) (by repeat' (first | exact trivial | exact Ren.sl _ _ | refine ren_fn ?_ | refine ⟨?_, ?_⟩)) rfl ?_
  repeat (first | ((with_reducible refine k_assign ?_); refine m_assign rfl ?_)  | refine e_nrm ?_ | refine x_none rfl ?_ | with_reducible (first | refine q_then ?_ | refine awp_ret ?_) )
  refine retW (by first | exact .inr rfl | exact .inl rfl) rfl rfl rfl
theorem ins_map {α β : Type} (L : List α) (f : α → β) (r : α) (i : Nat) : (L.take i ++ r :: L.drop i).map f = (L.map f).take i ++ [f r] ++ (L.map f).drop i := by
  simp [List.map_append, List.map_take, List.map_drop]
theorem del_map {α β : Type} (L : List α) (f : α → β) (i : Nat) : (L.take i ++ L.drop (i + 1)).map f = (L.map f).take i ++ (L.map f).drop (i + 1) := by
  simp [List.map_append, List.map_take, List.map_drop]
set_option maxHeartbeats 1000000 in
theorem cput_A (L : List Ce) (c : Ce) (hp : AscG ceLt L) (hm : CeMax L) (hc : c.lk.length ≤ 900) (hl : L.length ≤ 800) : ACalls Tryd.prog G 21 [.sl 5 (L.map Ce.av), c.av] [] (.tu [.sl 5 ((putC L c).1.map Ce.av), .v (.int .i64 (putC L c).2)]) [] := by
  have hml : (L.map Ce.av).length = L.length := by simp
  refine acalls_of tbOk (enter_of Tryd.func21 (by kernel_rfl) rfl) Tryd.func21 rfl _ Tryd.ntmps21 (Nat.le_of_ble_eq_true rfl) fun X hX => ?_
  subst hX
  unfold putC
  repeat (first | ((with_reducible refine k_move ?_); refine m_move rfl ?_) | ((with_reducible refine k_assign ?_); refine m_assign rfl ?_) | ((with_reducible refine k_box ?_); refine m_box rfl rfl rfl ?_) | ((with_reducible refine k_call ?_); refine x_len tbOk rfl rfl ?_) | ((with_reducible refine k_bin ?_); refine m_binI rfl rfl rfl ?_)  | refine e_nrm ?_ | refine x_none rfl ?_ | with_reducible (first | refine q_then ?_ | refine awp_seq ?_) | ((with_reducible refine w_region ?_ ?_); kernel_rfl))
  refine w_cond rfl (fun h => ?_) (fun h => ?_)
  · rw [if_pos (by simp at h; omega)]
    repeat (first | ((with_reducible refine k_assign ?_); refine m_assign rfl ?_)  | refine e_nrm ?_ | refine x_none rfl ?_ | with_reducible (first | refine q_then ?_ | refine q_then_ret ?_ | refine awp_seq ?_ | refine awp_ret ?_) | ((with_reducible refine w_region ?_ ?_); kernel_rfl))
    refine ret0_2 (by first | exact .inr rfl | exact .inl rfl) rfl rfl rfl ?_
    repeat' (first | exact trivial | exact Ren.v _ | exact Ren.nil _ | refine ren_tu ?_ | refine ⟨?_, ?_⟩)
  rw [if_neg (by simp at h; omega)]
  have hlo := lowG_le (lt := ceLt) c L
  have hil := insG_len (lt := ceLt) c L
  have hmi : CeMax (insG ceLt c L) := fun x hx => by
    rcases insG_mem.1 hx with rfl | hx
    · exact hc
    · exact hm x hx
  repeat (first | ((with_reducible refine k_move ?_); refine m_move rfl ?_) | ((with_reducible refine k_load ?_); refine x_load_agg tbOk rfl rfl rfl rfl (Nat.le_of_ble_eq_true rfl) ?_)  | refine x_none rfl ?_ | with_reducible (first | refine q_then ?_ | refine awp_seq ?_ | refine awp_skip ?_) | ((with_reducible refine w_region ?_ ?_); kernel_rfl))
  refine x_call0 (bsC_A L c hp (by omega)) (by repeat' (first | exact trivial | exact Ren.v _ | exact Ren.sl _ _ | refine ren_ag ?_ | refine ren_fn ?_ | refine ⟨?_, ?_⟩)) (by repeat' (first | exact trivial | exact RenB.v _ | refine renb_tu ?_ | refine ⟨?_, ?_⟩)) ?_
  repeat (first | ((with_reducible refine k_move ?_); refine m_move rfl ?_) | ((with_reducible refine k_assign ?_); refine m_assign rfl ?_) | ((with_reducible refine k_extract ?_); refine x_extract rfl rfl ?_)  | refine e_nrm ?_ | refine x_none rfl ?_ | with_reducible (first | refine q_then ?_ | refine awp_seq ?_) | ((with_reducible refine w_draw mixd ?_ ?_); kernel_rfl))
  refine x_call_own (clone_OC (L.map Ce.av) (ce_one _) (by simp; omega)) (by repeat' (first | exact trivial | exact Ren.sl _ _ | refine ⟨?_, ?_⟩)) rfl ?_
  repeat (first | ((with_reducible refine k_move ?_); refine m_move rfl ?_) | ((with_reducible refine k_load ?_); refine x_load_agg tbOk rfl rfl rfl rfl (Nat.le_of_ble_eq_true rfl) ?_) | ((with_reducible refine k_buildSlice ?_); refine m_buildSlice tbOk rfl rfl rfl rfl rfl (by omega) rfl rfl rfl ?_) | refine x_none rfl ?_  )
  refine x_call_ins (insert_IC (L.map Ce.av) c.av (lowG ceLt c L) (by simp; omega) (by simp; omega) rfl) rfl rfl rfl rfl rfl rfl ?_
  rw [← ins_map]
  repeat (first   | refine x_none rfl ?_  )
  refine x_call_ownF (certs_W (insG ceLt c L) hmi (by omega)) rfl rfl rfl rfl ?_
  repeat (first | ((with_reducible refine k_assign ?_); refine m_assign rfl ?_)  | refine e_drw (by kernel_rfl) ?_ | refine x_none rfl ?_ | with_reducible (first | refine q_then ?_ | refine awp_ret ?_) )
  refine ret0_2 (by first | exact .inr rfl | exact .inl rfl) rfl rfl rfl ?_
  repeat' (first | exact trivial | exact Ren.v _ | exact Ren.own _ _ _ _ ⟨_, rfl⟩ | refine ren_tu ?_ | refine ⟨?_, ?_⟩)
set_option maxHeartbeats 1000000 in
theorem cwith_A (L : List Ce) (i : Nat) (s : Int) (hm : CeMax L) (hi : i < L.length) (hl : L.length ≤ 900) : ACalls Tryd.prog G 24 [.sl 5 (L.map Ce.av), .v (.int .i64 i), .v (.int .i64 s)] [] (.sl 5 ((withC L i s).map Ce.av)) [] := by
  have hml : (L.map Ce.av).length = L.length := by simp
  have hfl : ((L.map Ce.av).flatMap AV.cells).length = L.length * 5 := by rw [flat_len' (ce_cells L), hml]
  obtain ⟨x, hx⟩ := some_at hi
  have hy := ce_at hx
  have hat : atC L i = x := by unfold atC; rw [Int.toNat_natCast, List.getD_eq_getElem?_getD, hx]; rfl
  refine acalls_of tbOk (enter_of Tryd.func24 (by kernel_rfl) rfl) Tryd.func24 rfl _ Tryd.ntmps24 (Nat.le_of_ble_eq_true rfl) fun X hX => ?_
  subst hX
  unfold withC
  rw [Int.toNat_natCast, hat]
  repeat (first | ((with_reducible refine k_move ?_); refine m_move rfl ?_) | ((with_reducible refine k_assign ?_); refine m_assign rfl ?_)  | refine e_nrm ?_ | refine x_none rfl ?_ | with_reducible (first | refine q_then ?_ | refine awp_seq ?_) | ((with_reducible refine w_region ?_ ?_); kernel_rfl))
  refine x_call_ownW (certs_W L hm hl) (by repeat' (first | exact trivial | exact Ren.sl _ _ | refine ⟨?_, ?_⟩)) rfl ?_
  repeat (first | ((with_reducible refine k_move ?_); refine m_move rfl ?_) | ((with_reducible refine k_assign ?_); refine m_assign rfl ?_) | ((with_reducible refine k_bin ?_); refine m_binI rfl rfl rfl ?_)  | refine e_nrm ?_ | refine x_none rfl ?_ | with_reducible (first | refine q_then ?_ | refine awp_seq ?_) | ((with_reducible refine w_region ?_ ?_); kernel_rfl))
  refine w_cond rfl (fun h => ?_) (fun h => ?_)
  · rw [if_pos (by simpa using h), del_map]
    repeat (first | ((with_reducible refine k_move ?_); refine m_move rfl ?_) | ((with_reducible refine k_bin ?_); refine x_add_in rfl rfl (by omega) ?_)  | refine x_none rfl ?_ | with_reducible refine awp_seq ?_ | ((with_reducible refine w_region ?_ ?_); kernel_rfl))
    refine x_call_ins (delete_IC (L.map Ce.av) i (by simp; omega)) rfl rfl rfl rfl rfl rfl ?_
    repeat (first | ((with_reducible refine k_assign ?_); refine m_assign rfl ?_)  | refine e_nrm ?_ | refine x_none rfl ?_ | with_reducible (first | refine q_then ?_ | refine q_then_ret ?_ | refine awp_ret ?_) )
    refine ret0_1 (by first | exact .inr rfl | exact .inl rfl) rfl rfl ?_
    repeat' exact Ren.own _ _ _ _ ⟨_, rfl⟩
  · rw [if_neg (by simpa using h)]
    repeat (first | ((with_reducible refine k_move ?_); refine m_move rfl ?_)  | refine x_none rfl ?_ | with_reducible (first | refine q_then ?_ | refine awp_seq ?_ | refine awp_skip ?_) | ((with_reducible refine w_region ?_ ?_); kernel_rfl))
    with_reducible refine k_indexAddr ?_
    refine x_indexAddr_own tbOk rfl rfl rfl rfl rfl rfl ⟨by omega, by omega⟩ ?_
    repeat (first | ((with_reducible refine k_fieldAddr ?_); refine x_fieldAddr_po tbOk rfl rfl rfl rfl ?_)  | refine x_none rfl ?_  )
    with_reducible refine k_store ?_
    refine x_store_po (L' := (L.set i (stC x s)).map Ce.av) tbOk rfl rfl rfl rfl rfl rfl rfl rfl rfl (by rw [hfl, Int.toNat_natCast]; omega) (by simp) (ce_cells _) ?_ ?_
    · rw [Int.toNat_natCast, List.map_set]
      exact flat_field (ce_cells L) hy rfl (by omega)
    repeat (first | ((with_reducible refine k_move ?_); refine m_move rfl ?_) | ((with_reducible refine k_assign ?_); refine m_assign rfl ?_)  | refine e_nrm ?_ | refine x_none rfl ?_ | with_reducible (first | refine q_then ?_ | refine awp_seq ?_ | refine awp_ret ?_) | ((with_reducible refine w_region ?_ ?_); kernel_rfl))
    refine ret0_1 (by first | exact .inr rfl | exact .inl rfl) rfl rfl ?_
    repeat' exact Ren.own _ _ _ _ ⟨_, rfl⟩
set_option maxHeartbeats 1000000 in
theorem ask_A (N : List Nd) (V : List Dv) (L : List Ce) (a : Int) (c : Ce) (hG : GCls G) (hN : ∀ x ∈ N, x.n.size ≤ maxLen) (hV : ∀ x ∈ V, x.n.size ≤ maxLen) (h1 : N.length ≤ maxLen) (h2 : V.length ≤ maxLen) (hm : CeMax L) (hc : c.lk.length ≤ 900) (hl : L.length ≤ 800) :
    ACalls Tryd.prog G 9 [netAV N V, .sl 5 (L.map Ce.av), .v (.int .i64 a), c.av] [] (.tu [.sl 5 ((askC N V L a c).1.map Ce.av), .v (.int .i64 (askC N V L a c).2)]) [] := by
  refine acalls_of tbOk (enter_of Tryd.func9 (by kernel_rfl) rfl) Tryd.func9 rfl _ Tryd.ntmps9 (Nat.le_of_ble_eq_true rfl) fun X hX => ?_
  subst hX
  unfold askC
  repeat (first | ((with_reducible refine k_move ?_); refine m_move rfl ?_) | ((with_reducible refine k_assign ?_); refine m_assign rfl ?_) | ((with_reducible refine k_load ?_); refine x_load_agg tbOk rfl rfl rfl rfl (Nat.le_of_ble_eq_true rfl) ?_) | ((with_reducible refine k_box ?_); refine m_box rfl rfl rfl ?_)  | refine e_nrm ?_ | refine x_none rfl ?_ | with_reducible (first | refine q_then ?_ | refine awp_seq ?_) | ((with_reducible refine w_region ?_ ?_); kernel_rfl))
  refine x_call0 (call_all_A N V L hG hN hV h1 h2 hm (by omega)) (by repeat' (first | exact trivial | exact Ren.sl _ _ | refine ren_ag ?_ | refine ⟨?_, ?_⟩)) (by repeat' exact RenB.v _) ?_
  repeat (first | ((with_reducible refine k_move ?_); refine m_move rfl ?_) | ((with_reducible refine k_assign ?_); refine m_assign rfl ?_) | ((with_reducible refine k_bin ?_); refine m_binI rfl rfl rfl ?_)  | refine e_nrm ?_ | refine x_none rfl ?_ | with_reducible (first | refine q_then ?_ | refine awp_seq ?_) | ((with_reducible refine w_region ?_ ?_); kernel_rfl))
  refine w_cond rfl (fun h => ?_) (fun h => ?_)
  · rw [if_pos (by simpa using h)]
    repeat (first | ((with_reducible refine k_move ?_); refine m_move rfl ?_) | ((with_reducible refine k_assign ?_); refine m_assign rfl ?_)  | refine e_nrm ?_ | refine x_none rfl ?_ | with_reducible (first | refine q_then ?_ | refine q_then_ret ?_ | refine awp_seq ?_ | refine awp_ret ?_) | ((with_reducible refine w_region ?_ ?_); kernel_rfl))
    refine ret0_2 (by first | exact .inr rfl | exact .inl rfl) rfl rfl rfl ?_
    repeat' (first | exact trivial | exact Ren.v _ | exact Ren.nil _ | refine ren_tu ?_ | refine ⟨?_, ?_⟩)
  have h0 : allE N V L = 0 := by simpa using h
  rw [if_neg (by simp [h0])]
  repeat (first | ((with_reducible refine k_load ?_); refine x_load_agg tbOk rfl rfl rfl rfl (Nat.le_of_ble_eq_true rfl) ?_)  | refine x_none rfl ?_ | with_reducible (first | refine q_then ?_ | refine awp_seq ?_ | refine awp_skip ?_) | ((with_reducible refine w_region ?_ ?_); kernel_rfl))
  refine x_call0 (ccheck_A N V c hG hN hV h1 h2 (by omega)) (by repeat' (first | exact trivial | exact Ren.v _ | exact Ren.sl _ _ | refine ren_ag ?_ | refine ⟨?_, ?_⟩)) (by repeat' exact RenB.v _) ?_
  repeat (first | ((with_reducible refine k_move ?_); refine m_move rfl ?_) | ((with_reducible refine k_assign ?_); refine m_assign rfl ?_) | ((with_reducible refine k_bin ?_); refine m_binI rfl rfl rfl ?_)  | refine e_nrm ?_ | refine x_none rfl ?_ | with_reducible (first | refine q_then ?_ | refine awp_seq ?_) | ((with_reducible refine w_region ?_ ?_); kernel_rfl))
  refine w_cond rfl (fun h => ?_) (fun h => ?_)
  · rw [if_pos (by simpa using h)]
    repeat (first | ((with_reducible refine k_move ?_); refine m_move rfl ?_) | ((with_reducible refine k_assign ?_); refine m_assign rfl ?_)  | refine e_nrm ?_ | refine x_none rfl ?_ | with_reducible (first | refine q_then ?_ | refine q_then_ret ?_ | refine awp_seq ?_ | refine awp_ret ?_) | ((with_reducible refine w_region ?_ ?_); kernel_rfl))
    refine ret0_2 (by first | exact .inr rfl | exact .inl rfl) rfl rfl rfl ?_
    repeat' (first | exact trivial | exact Ren.v _ | exact Ren.nil _ | refine ren_tu ?_ | refine ⟨?_, ?_⟩)
  rw [if_neg (by simpa using h)]
  by_cases p1 : c.ask = a
  rotate_left
  · have b1 : (c.ask != a) = true := by simpa using p1
    rw [if_pos (.inl p1)]
    repeat (first | ((with_reducible refine k_move ?_); refine m_move rfl ?_) | ((with_reducible refine k_assign ?_); refine m_assign rfl ?_) | ((with_reducible refine k_fieldAddr ?_); refine x_fieldAddr_ptr tbOk rfl rfl rfl rfl ?_) | ((with_reducible refine k_load ?_); refine x_load_one tbOk rfl rfl rfl rfl rfl ?_) | ((with_reducible refine k_pick ?_); refine m_pickt rfl (by first | rfl | assumption) rfl ?_) | ((with_reducible refine k_bin ?_); refine m_binI rfl rfl rfl ?_)  | refine e_nrm ?_ | refine x_none rfl ?_ | refine x_skip_f rfl rfl (by first | rfl | assumption) ?_ | with_reducible (first | refine q_then ?_ | refine q_then_ret ?_ | refine q_block_ret ?_ | refine awp_seq ?_ | refine awp_block ?_ | refine awp_skip ?_ | refine awp_ret ?_) | ((with_reducible refine w_region ?_ ?_); kernel_rfl) | refine w_cond_t rfl (by first | rfl | assumption) ?_)
    refine ret0_2 (by first | exact .inr rfl | exact .inl rfl) rfl rfl rfl ?_
    repeat' (first | exact trivial | exact Ren.v _ | exact Ren.nil _ | refine ren_tu ?_ | refine ⟨?_, ?_⟩)
  have b1 : (c.ask != a) = false := by simpa using p1
  repeat (first | ((with_reducible refine k_move ?_); refine m_move rfl ?_) | ((with_reducible refine k_assign ?_); refine m_assign rfl ?_) | ((with_reducible refine k_fieldAddr ?_); refine x_fieldAddr_ptr tbOk rfl rfl rfl rfl ?_) | ((with_reducible refine k_load ?_); refine x_load_one tbOk rfl rfl rfl rfl rfl ?_) | ((with_reducible refine k_pick ?_); refine m_pickf rfl (by first | rfl | assumption) rfl ?_) | ((with_reducible refine k_bin ?_); refine m_binI rfl rfl rfl ?_)  | refine e_nrm ?_ | refine x_none rfl ?_ | refine x_run_f rfl rfl (by first | rfl | assumption) ?_ | with_reducible (first | refine q_then ?_ | refine awp_seq ?_ | refine awp_block ?_ | refine awp_skip ?_) | ((with_reducible refine w_region ?_ ?_); kernel_rfl))
  refine w_cond rfl (fun h => ?_) (fun h => ?_)
  · rw [if_pos (.inr (by simpa using h))]
    repeat (first | ((with_reducible refine k_assign ?_); refine m_assign rfl ?_)  | refine e_nrm ?_ | refine x_none rfl ?_ | with_reducible (first | refine q_then ?_ | refine q_then_ret ?_ | refine q_block_ret ?_ | refine awp_seq ?_ | refine awp_ret ?_) | ((with_reducible refine w_region ?_ ?_); kernel_rfl))
    refine ret0_2 (by first | exact .inr rfl | exact .inl rfl) rfl rfl rfl ?_
    repeat' (first | exact trivial | exact Ren.v _ | exact Ren.nil _ | refine ren_tu ?_ | refine ⟨?_, ?_⟩)
  rw [if_neg (by rintro (h9 | h9); exact h9 p1; simp at h; exact h9 h)]
  repeat (first | ((with_reducible refine k_move ?_); refine m_move rfl ?_) | ((with_reducible refine k_fieldAddr ?_); refine x_fieldAddr_ptr tbOk rfl rfl rfl rfl ?_) | ((with_reducible refine k_load ?_); refine x_load_one tbOk rfl rfl rfl rfl rfl ?_)  | refine x_none rfl ?_ | with_reducible refine awp_seq ?_ | ((with_reducible refine w_region ?_ ?_); kernel_rfl))
  refine x_call0 (cfind_A L c.ask c.num (by omega)) (by repeat' (first | exact trivial | exact Ren.v _ | exact Ren.sl _ _ | refine ⟨?_, ?_⟩)) (by repeat' exact RenB.v _) ?_
  repeat (first | ((with_reducible refine k_assign ?_); refine m_assign rfl ?_) | ((with_reducible refine k_bin ?_); refine m_binI rfl rfl rfl ?_)  | refine e_nrm ?_ | refine x_none rfl ?_ | with_reducible refine q_then ?_ )
  refine w_cond rfl (fun h => ?_) (fun h => ?_)
  · rw [if_pos (by simpa using h)]
    repeat (first | ((with_reducible refine k_assign ?_); refine m_assign rfl ?_)  | refine e_nrm ?_ | refine x_none rfl ?_ | with_reducible (first | refine q_then ?_ | refine q_then_ret ?_ | refine q_block_ret ?_ | refine awp_seq ?_ | refine awp_ret ?_) | ((with_reducible refine w_region ?_ ?_); kernel_rfl))
    refine ret0_2 (by first | exact .inr rfl | exact .inl rfl) rfl rfl rfl ?_
    repeat' (first | exact trivial | exact Ren.v _ | exact Ren.nil _ | refine ren_tu ?_ | refine ⟨?_, ?_⟩)
  rw [if_neg (by simpa using h)]
  repeat (first | ((with_reducible refine k_move ?_); refine m_move rfl ?_) | ((with_reducible refine k_load ?_); refine x_load_agg tbOk rfl rfl rfl rfl (Nat.le_of_ble_eq_true rfl) ?_)  | refine x_none rfl ?_ | with_reducible (first | refine q_then ?_ | refine q_block ?_ | refine awp_seq ?_ | refine awp_skip ?_) | ((with_reducible refine w_region ?_ ?_); kernel_rfl))
  refine x_call0 (cput_A L c (allE_iff.1 h0).1.2 hm hc hl) (by repeat' (first | exact trivial | exact Ren.v _ | exact Ren.sl _ _ | refine ren_ag ?_ | refine ⟨?_, ?_⟩)) (by repeat' (first | exact trivial | exact RenB.v _ | exact RenB.sl _ _ | refine renb_tu ?_ | refine ⟨?_, ?_⟩)) ?_
  repeat (first | ((with_reducible refine k_assign ?_); refine m_assign rfl ?_) | ((with_reducible refine k_extract ?_); refine x_extract rfl rfl ?_)  | refine e_nrm ?_ | refine x_none rfl ?_ | with_reducible (first | refine q_then ?_ | refine awp_ret ?_) )
  refine ret0_2 (by first | exact .inr rfl | exact .inl rfl) rfl rfl rfl ?_
  repeat' (first | exact trivial | exact Ren.v _ | exact Ren.sl _ _ | refine ren_tu ?_ | refine ⟨?_, ?_⟩)
end Go.Proofs.YtamihjgfncjdoaaDoor
