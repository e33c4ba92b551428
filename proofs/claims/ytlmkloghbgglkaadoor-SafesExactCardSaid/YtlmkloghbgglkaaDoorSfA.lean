/- slices.BinarySearch, Index and Contains at numbers and at strings, by the abstract machine; conditions: none. -/
import Derived.Test.YtlmkloghbgglkaaDoorAbsX
import Derived.Test.YtlmkloghbgglkaaDoorSfP
import Derived.Test.YtlmkloghbgglkaaDoorLexA
import Derived.Test.YtlmkloghbgglkaaDoorDkA
set_option linter.unusedVariables false
set_option linter.unusedSimpArgs false
namespace Go.Proofs.YtlmkloghbgglkaaDoor
open Go Go.RowKit
set_option maxRecDepth 10000
variable {G : Nat → Option (List Value)}
def sv (s : ByteArray) : AV := .v (.string s)
theorem strEq_dec (a b : ByteArray) : strEq a b = decide (a = b) := by
  cases h : strEq a b with
  | true => rw [decide_eq_true (strEq_iff.1 h)]
  | false => rw [decide_eq_false (fun e => by rw [strEq_iff.2 e] at h; cases h)]
theorem lowG_eq {α : Type} {lt : α → α → Bool} {x : α} : ∀ {L : List α} {i : Nat}, i ≤ L.length → (∀ k r, k < i → L[k]? = some r → lt r x = true) → (∀ r, L[i]? = some r → lt r x = false) → lowG lt x L = i
  | [], i, h, _, _ => by simp at h; subst h; rfl
  | y :: l, 0, _, _, h2 => by rw [lowG, if_neg (by rw [h2 y rfl]; decide)]
  | y :: l, i + 1, h, h1, h2 => by
    rw [lowG, if_pos (h1 0 y (by omega) rfl), lowG_eq (by simpa using h) (fun k r hk hr => h1 (k + 1) r (by omega) (by simpa using hr)) (fun r hr => h2 r (by simpa using hr))]
theorem asc_at {α : Type} {lt : α → α → Bool} {L : List α} (h : AscG lt L) {i j : Nat} {a b : α} (ha : L[i]? = some a) (hb : L[j]? = some b) (hij : i < j) : lt a b = true := by
  have h3 := List.pairwise_iff_getElem.1 h i j (lt_at ha) (lt_at hb) hij
  rw [(List.getElem?_eq_some_iff.1 ha).2, (List.getElem?_eq_some_iff.1 hb).2] at h3
  exact h3
theorem nanI_A (n : Int) : ACalls Tryd.prog G 71 [iv n] [] (.v (.bool false)) [] := by
  refine acalls_of tbOk (enter_of Tryd.func71 (by kernel_rfl) rfl) Tryd.func71 rfl _ Tryd.ntmps71 (Nat.le_of_ble_eq_true rfl) fun X hX => ?_
  subst hX
  repeat' (first | ((with_reducible refine k_move ?_); refine m_move rfl ?_) | ((with_reducible refine k_assign ?_); refine m_assign rfl ?_) | ((with_reducible refine k_bin ?_); refine m_binI rfl rfl rfl ?_)  | refine e_nrm ?_ | refine x_none rfl ?_ | with_reducible refine q_then ?_ | with_reducible refine awp_seq ?_ | with_reducible refine awp_ret ?_ | ((with_reducible refine w_region ?_ ?_); kernel_rfl) | refine x_split rfl rfl (fun _ => ?_) (fun _ => ?_) | refine w_cond rfl (fun _ => ?_) (fun _ => ?_))
  refine ret_v (by first | exact .inr rfl | exact .inl rfl) rfl rfl ?_
  simp [strEq_dec]
theorem snanI_A (n : Int) : ACalls Tryd.prog G 56 [iv n] [] (.v (.bool false)) [] := by
  refine acalls_of tbOk (enter_of Tryd.func56 (by kernel_rfl) rfl) Tryd.func56 rfl _ Tryd.ntmps56 (Nat.le_of_ble_eq_true rfl) fun X hX => ?_
  subst hX
  repeat' (first | ((with_reducible refine k_move ?_); refine m_move rfl ?_) | ((with_reducible refine k_assign ?_); refine m_assign rfl ?_) | ((with_reducible refine k_bin ?_); refine m_binI rfl rfl rfl ?_)  | refine e_nrm ?_ | refine x_none rfl ?_ | with_reducible refine q_then ?_ | with_reducible refine awp_seq ?_ | with_reducible refine awp_ret ?_ | ((with_reducible refine w_region ?_ ?_); kernel_rfl) | refine x_split rfl rfl (fun _ => ?_) (fun _ => ?_) | refine w_cond rfl (fun _ => ?_) (fun _ => ?_))
  refine ret_v (by first | exact .inr rfl | exact .inl rfl) rfl rfl ?_
  simp [strEq_dec]
theorem lessI_A (x y : Int) : ACalls Tryd.prog G 55 [iv x, iv y] [] (.v (.bool (ltI x y))) [] := by
  refine acalls_of tbOk (enter_of Tryd.func55 (by kernel_rfl) rfl) Tryd.func55 rfl _ Tryd.ntmps55 (Nat.le_of_ble_eq_true rfl) fun X hX => ?_
  subst hX
  repeat (first | ((with_reducible refine k_move ?_); refine m_move rfl ?_) | ((with_reducible refine k_assign ?_); refine m_assign rfl ?_)  | refine e_nrm ?_ | refine x_none rfl ?_ | with_reducible refine q_then ?_ | with_reducible refine awp_seq ?_ | ((with_reducible refine w_region ?_ ?_); kernel_rfl))
  refine x_call0 (nanI_A x) (by repeat' (first | exact trivial | exact Ren.v _ | exact Ren.sl _ _ | exact Ren.ep _ | exact Ren.ptr _ _ _ _ rfl | exact Ren.nil _ | exact Ren.own _ _ _ _ ⟨_, rfl⟩ | refine ren_ag ?_ | refine ren_tu ?_ | refine ren_fn ?_ | refine ⟨?_, ?_⟩)) (by repeat' (first | exact trivial | exact RenB.v _ | exact RenB.sl _ _ | exact RenB.ep _ | exact RenB.ptr _ _ _ _ rfl | refine renb_ag ?_ | refine renb_tu ?_ | refine ⟨?_, ?_⟩)) ?_
  repeat (first | ((with_reducible refine k_move ?_); refine m_move rfl ?_) | ((with_reducible refine k_assign ?_); refine m_assign rfl ?_) | ((with_reducible refine k_pick ?_); refine m_pickf rfl (by first | rfl | assumption) rfl ?_) | ((with_reducible refine k_bin ?_); refine m_binI rfl rfl rfl ?_)  | refine e_nrm ?_ | refine x_none rfl ?_ | refine x_skip_t rfl rfl (by first | rfl | assumption) ?_ | refine x_run_f rfl rfl (by first | rfl | assumption) ?_ | with_reducible refine q_then ?_ | with_reducible refine awp_ret ?_ )
  refine ret_v (by first | exact .inr rfl | exact .inl rfl) rfl rfl ?_
  rfl
theorem idxI_A (L : List Int) (x : Int) (hm : L.length ≤ maxLen) : ACalls Tryd.prog G 62 [.sl 1 (L.map iv), iv x] [] (.v (.int .i64 (idxG (fun y => decide (y = x)) L 0))) [] := by
  have hm9 : L.length ≤ 9223372036854775807 := by unfold maxLen at hm; omega
  refine acalls_of tbOk (enter_of Tryd.func62 (by kernel_rfl) rfl) Tryd.func62 rfl _ Tryd.ntmps62 (Nat.le_of_ble_eq_true rfl) fun X hX => ?_
  subst hX
  repeat (first | ((with_reducible refine k_move ?_); refine m_move rfl ?_) | ((with_reducible refine k_assign ?_); refine m_assign rfl ?_) | ((with_reducible refine k_call ?_); refine x_len tbOk rfl rfl ?_)  | refine e_nrm ?_ | refine x_none rfl ?_ | with_reducible refine q_then ?_ | with_reducible refine awp_seq ?_ | with_reducible refine awp_block ?_ | ((with_reducible refine w_region ?_ ?_); kernel_rfl))
  refine awp_loop (ι := Nat) (fun k => k ≤ L.length ∧ idxG (fun y => decide (y = x)) (L.drop k) k = idxG (fun y => decide (y = x)) L 0) (fun k => L.length - k) (fun v k => [(0, .sl 1 (L.map iv)), (1, iv x), (7, .v (.int .i64 (L.map iv).length)), (8, .v (.int .i64 k))]) (fun v k => []) ?_ ?_
  · exact ⟨0, ⟨Nat.zero_le _, rfl⟩, trivial, ⟨rfl, rfl, rfl, rfl, trivial⟩, trivial⟩
  rintro v k ⟨hk, hf⟩
  repeat (first | ((with_reducible refine k_bin ?_); refine m_binI rfl rfl rfl ?_)  | refine e_nrm ?_ | refine x_none rfl ?_ | with_reducible refine q_then ?_ | with_reducible refine awp_seq ?_ | ((with_reducible refine w_region ?_ ?_); kernel_rfl))
  refine w_cond rfl (fun h => ?_) (fun h => ?_)
  · have hlt : k < L.length := by simpa using h
    obtain ⟨r, hx⟩ := some_at hlt
    have hy : (L.map iv)[k]? = some (iv r) := by rw [List.getElem?_map, hx]; rfl
    rw [idxG_at hx] at hf
    repeat (first | ((with_reducible refine k_move ?_); refine m_move rfl ?_) | ((with_reducible refine k_assign ?_); refine m_assign rfl ?_) | ((with_reducible refine k_load ?_); refine x_load_ep_one tbOk rfl rfl rfl ?_) | ((with_reducible refine k_indexAddr ?_); refine x_indexAddr_n tbOk rfl rfl rfl rfl (by assumption) ?_) | ((with_reducible refine k_bin ?_); refine m_binI rfl rfl rfl ?_)  | refine e_nrm ?_ | refine x_none rfl ?_ | with_reducible refine q_then ?_ | with_reducible refine awp_seq ?_ | with_reducible refine awp_block ?_ | with_reducible refine awp_skip ?_ | ((with_reducible refine w_region ?_ ?_); kernel_rfl))
    refine w_cond rfl (fun h => ?_) (fun h => ?_)
    · have e : r = x := by first | (have := strEq_iff.1 h; exact this.symm) | (simp at h; exact h.symm)
      rw [if_pos (by simpa using e)] at hf
      repeat (first | ((with_reducible refine k_move ?_); refine m_move rfl ?_) | ((with_reducible refine k_assign ?_); refine m_assign rfl ?_)  | refine e_nrm ?_ | refine x_none rfl ?_ | with_reducible refine q_then ?_ | with_reducible refine q_then_ret ?_ | with_reducible refine q_block_ret ?_ | with_reducible refine awp_seq ?_ | with_reducible refine awp_ret ?_ | ((with_reducible refine w_region ?_ ?_); kernel_rfl))
      refine ret_v (by first | exact .inr rfl | exact .inl rfl) rfl rfl ?_
      rw [← hf]
    · have e : ¬ r = x := by
        rintro rfl
        first | (rw [strEq_iff.2 rfl] at h; cases h) | simp at h
      rw [if_neg (by simpa using e)] at hf
      repeat (first | ((with_reducible refine k_move ?_); refine m_move rfl ?_) | ((with_reducible refine k_bin ?_); refine x_add_in rfl rfl (by omega) ?_)  | refine e_nrm ?_ | refine x_none rfl ?_ | with_reducible refine q_then ?_ | with_reducible refine q_block ?_ | with_reducible refine awp_skip ?_ | ((with_reducible refine w_region ?_ ?_); kernel_rfl))
      exact ⟨k + 1, ⟨by omega, hf⟩, by omega, ⟨rfl, rfl, rfl, rfl, trivial⟩, trivial⟩
  · have hlt : ¬ k < L.length := by simpa using h
    rw [List.drop_of_length_le (by omega)] at hf
    repeat (first | ((with_reducible refine k_assign ?_); refine m_assign rfl ?_)  | refine e_nrm ?_ | refine x_none rfl ?_ | with_reducible refine q_then ?_ | with_reducible refine q_then_exit ?_ | with_reducible refine awp_seq ?_ | with_reducible refine awp_exit ?_ | with_reducible refine awp_ret ?_ | ((with_reducible refine q_block_exit ?_ ?_); rfl) | ((with_reducible refine w_region ?_ ?_); kernel_rfl))
    refine ret_v (by first | exact .inr rfl | exact .inl rfl) rfl rfl ?_
    rw [← hf]; rfl
theorem conI_A (L : List Int) (x : Int) (hm : L.length ≤ maxLen) : ACalls Tryd.prog G 41 [.sl 1 (L.map iv), iv x] [] (.v (.bool (hasI L x))) [] := by
  refine acalls_of tbOk (enter_of Tryd.func41 (by kernel_rfl) rfl) Tryd.func41 rfl _ Tryd.ntmps41 (Nat.le_of_ble_eq_true rfl) fun X hX => ?_
  subst hX
  repeat (first | ((with_reducible refine k_move ?_); refine m_move rfl ?_) | ((with_reducible refine k_assign ?_); refine m_assign rfl ?_)  | refine e_nrm ?_ | refine x_none rfl ?_ | with_reducible refine q_then ?_ | with_reducible refine awp_seq ?_ | ((with_reducible refine w_region ?_ ?_); kernel_rfl))
  refine x_call0 (idxI_A L x hm) (by repeat' (first | exact trivial | exact Ren.v _ | exact Ren.sl _ _ | exact Ren.ep _ | exact Ren.ptr _ _ _ _ rfl | exact Ren.nil _ | exact Ren.own _ _ _ _ ⟨_, rfl⟩ | refine ren_ag ?_ | refine ren_tu ?_ | refine ren_fn ?_ | refine ⟨?_, ?_⟩)) (by repeat' (first | exact trivial | exact RenB.v _ | exact RenB.sl _ _ | exact RenB.ep _ | exact RenB.ptr _ _ _ _ rfl | refine renb_ag ?_ | refine renb_tu ?_ | refine ⟨?_, ?_⟩)) ?_
  repeat (first | ((with_reducible refine k_assign ?_); refine m_assign rfl ?_) | ((with_reducible refine k_bin ?_); refine m_binI rfl rfl rfl ?_)  | refine e_nrm ?_ | refine x_none rfl ?_ | with_reducible refine q_then ?_ | with_reducible refine awp_ret ?_ )
  refine ret_v (by first | exact .inr rfl | exact .inl rfl) rfl rfl ?_
  rw [show hasI L x = L.any (fun y => decide (y = x)) from rfl, ← idxG_any _ L 0]
set_option maxHeartbeats 2000000 in
theorem bsI_A (L : List Int) (x : Int) (hp : AscG ltI L) (hm : L.length ≤ 100000) :
    ACalls Tryd.prog G 32 [.sl 1 (L.map iv), iv x] [] (.tu [.v (.int .i64 (lowG ltI x L)), .v (.bool (hasI L x))]) [] := by
  have hln : (L.map iv).length = L.length := by simp
  have ho : StrictOrd ltI := ltI_ord
  refine acalls_of tbOk (enter_of Tryd.func32 (by kernel_rfl) rfl) Tryd.func32 rfl _ Tryd.ntmps32 (Nat.le_of_ble_eq_true rfl) fun X hX => ?_
  subst hX
  repeat (first | ((with_reducible refine k_move ?_); refine m_move rfl ?_) | ((with_reducible refine k_assign ?_); refine m_assign rfl ?_) | ((with_reducible refine k_call ?_); refine x_len tbOk rfl rfl ?_)  | refine e_nrm ?_ | refine x_none rfl ?_ | with_reducible refine q_then ?_ | with_reducible refine awp_seq ?_ | with_reducible refine awp_block ?_ | ((with_reducible refine w_region ?_ ?_); kernel_rfl))
  refine awp_loop (ι := Nat × Nat) (fun q => q.1 ≤ q.2 ∧ q.2 ≤ L.length ∧ (∀ k r, k < q.1 → L[k]? = some r → ltI r x = true) ∧ (∀ k r, q.2 ≤ k → L[k]? = some r → ltI r x = false)) (fun q => q.2 - q.1) (fun v q => [(0, .sl 1 (L.map iv)), (1, iv x), (6, .v (.int .i64 (L.map iv).length)), (7, .v (.int .i64 (q.1 : Nat))), (8, .v (.int .i64 (q.2 : Nat)))]) (fun v q => []) ?_ ?_
  · exact ⟨(0, (L.map iv).length), ⟨Nat.zero_le _, by simp, by simp, fun k r hk hr => by
      have := lt_at hr
      simp at hk; omega⟩, trivial, ⟨rfl, rfl, rfl, rfl, rfl, trivial⟩, trivial⟩
  rintro v ⟨i, j⟩ ⟨hij, hj, h1, h2⟩
  simp only at hij hj h1 h2
  dsimp only
  repeat (first | ((with_reducible refine k_move ?_); refine m_move rfl ?_) | ((with_reducible refine k_bin ?_); refine m_binI rfl rfl rfl ?_)  | refine e_nrm ?_ | refine x_none rfl ?_ | with_reducible refine q_then ?_ | with_reducible refine awp_seq ?_ | ((with_reducible refine w_region ?_ ?_); kernel_rfl))
  refine w_cond rfl (fun h => ?_) (fun h => ?_)
  · have hlt : i < j := by simpa using h
    have hw : IntKind.i64.wrap (((i : Int) + (j : Int)) / 2 ^ (1 : Int).toNat) = ((i : Int) + (j : Int)) / 2 ^ (1 : Int).toNat := wrap_i64_in (by simp; omega)
    obtain ⟨m, hmd⟩ : ∃ m : Nat, ((i : Int) + (j : Int)) / 2 ^ (1 : Int).toNat = (m : Nat) := ⟨(i + j) / 2, by simp⟩
    have hm2 : m = (i + j) / 2 := by simp at hmd; omega
    obtain ⟨r, hx⟩ := some_at (L := L) (k := m) (by omega)
    have hy : (L.map iv)[m]? = some (iv r) := by rw [List.getElem?_map, hx]; rfl
    repeat (first | ((with_reducible refine k_move ?_); refine m_move rfl ?_) | ((with_reducible refine k_assign ?_); refine m_assign rfl ?_) | ((with_reducible refine k_convert ?_); refine x_conv_in tbOk rfl rfl rfl (by first | assumption | exact wrap_u64_in (by omega) | exact wrap_i64_in (by omega) | exact wrap_u8_in (by omega)) ?_) | ((with_reducible refine k_bin ?_); refine x_add_in rfl rfl (by omega) ?_) | ((with_reducible refine k_bin ?_); refine x_shr rfl rfl (by decide) ?_)  | refine e_nrm ?_ | refine x_none rfl ?_ | with_reducible refine q_then ?_ | with_reducible refine awp_seq ?_ | with_reducible refine awp_block ?_ | with_reducible refine awp_skip ?_ | ((with_reducible refine w_region ?_ ?_); kernel_rfl))
    rw [hmd]
    repeat (first | ((with_reducible refine k_move ?_); refine m_move rfl ?_) | ((with_reducible refine k_load ?_); refine x_load_ep_one tbOk rfl rfl rfl ?_) | ((with_reducible refine k_indexAddr ?_); refine x_indexAddr_n tbOk rfl rfl rfl rfl (by assumption) ?_)  | refine x_none rfl ?_  )
    refine x_call0 (lessI_A r x) (by repeat' (first | exact trivial | exact Ren.v _ | exact Ren.sl _ _ | exact Ren.ep _ | exact Ren.ptr _ _ _ _ rfl | exact Ren.nil _ | exact Ren.own _ _ _ _ ⟨_, rfl⟩ | refine ren_ag ?_ | refine ren_tu ?_ | refine ren_fn ?_ | refine ⟨?_, ?_⟩)) (by repeat' (first | exact trivial | exact RenB.v _ | exact RenB.sl _ _ | exact RenB.ep _ | exact RenB.ptr _ _ _ _ rfl | refine renb_ag ?_ | refine renb_tu ?_ | refine ⟨?_, ?_⟩)) ?_
    repeat (first   | refine e_nrm ?_ | with_reducible refine q_then ?_ )
    refine w_cond rfl (fun hc => ?_) (fun hc => ?_)
    · repeat (first | ((with_reducible refine k_move ?_); refine m_move rfl ?_) | ((with_reducible refine k_assign ?_); refine m_assign rfl ?_) | ((with_reducible refine k_bin ?_); refine x_add_in rfl rfl (by omega) ?_)  | refine e_nrm ?_ | refine x_none rfl ?_ | with_reducible refine q_then ?_ | with_reducible refine q_block ?_ | ((with_reducible refine w_region ?_ ?_); kernel_rfl))
      refine ⟨(m + 1, j), ⟨by show m + 1 ≤ j; omega, hj, fun k y hk hy' => ?_, h2⟩, by show j - (m + 1) < j - i; omega, ⟨rfl, rfl, rfl, rfl, rfl, trivial⟩, trivial⟩
      rcases Nat.eq_or_lt_of_le (show k ≤ m by simp at hk; omega) with rfl | hk2
      · rw [hx] at hy'; injection hy' with e; rw [← e]; exact hc
      · exact ho.tr _ _ _ (asc_at hp hy' hx hk2) hc
    · repeat (first | ((with_reducible refine k_move ?_); refine m_move rfl ?_) | ((with_reducible refine k_assign ?_); refine m_assign rfl ?_)  | refine e_nrm ?_ | refine x_none rfl ?_ | with_reducible refine q_then ?_ | with_reducible refine q_block ?_ | ((with_reducible refine w_region ?_ ?_); kernel_rfl))
      refine ⟨(i, m), ⟨by show i ≤ m; omega, by show m ≤ L.length; omega, h1, fun k y hk hy' => ?_⟩, by show m - i < j - i; omega, ⟨rfl, rfl, rfl, rfl, rfl, trivial⟩, trivial⟩
      rcases Nat.eq_or_lt_of_le (show m ≤ k from hk) with rfl | hk2
      · rw [hx] at hy'; injection hy' with e; rw [← e]; exact hc
      · cases hq : ltI y x with
        | false => rfl
        | true =>
          have := ho.tr _ _ _ (asc_at hp hx hy' hk2) hq
          rw [hc] at this
          cases this
  · have hge : ¬ i < j := by simpa using h
    obtain rfl : i = j := by omega
    have hlow := lowG_eq (lt := ltI) hj h1 (fun r hr => h2 i r (Nat.le_refl _) hr)
    have hmem := lowG_mem ho (x := x) hp
    rw [hlow] at hmem ⊢
    repeat (first | ((with_reducible refine k_move ?_); refine m_move rfl ?_) | ((with_reducible refine k_bin ?_); refine m_binI rfl rfl rfl ?_)  | refine x_none rfl ?_ | with_reducible refine q_then ?_ | with_reducible refine q_then_exit ?_ | with_reducible refine awp_seq ?_ | with_reducible refine awp_exit ?_ | ((with_reducible refine q_block_exit ?_ ?_); rfl) | ((with_reducible refine w_region ?_ ?_); kernel_rfl))
    refine x_split rfl rfl (fun h0 => ?_) (fun h0 => ?_)
    · have hlt : i < L.length := by simpa using h0
      obtain ⟨r, hx⟩ := some_at hlt
      have hy : (L.map iv)[i]? = some (iv r) := by rw [List.getElem?_map, hx]; rfl
      rw [hx] at hmem
      repeat (first | ((with_reducible refine k_move ?_); refine m_move rfl ?_) | ((with_reducible refine k_load ?_); refine x_load_ep_one tbOk rfl rfl rfl ?_) | ((with_reducible refine k_indexAddr ?_); refine x_indexAddr_n tbOk rfl rfl rfl rfl (by assumption) ?_) | ((with_reducible refine k_bin ?_); refine m_binI rfl rfl rfl ?_)  | refine x_run_t rfl rfl (by first | rfl | assumption) ?_  )
      refine x_split rfl rfl (fun h1 => ?_) (fun h1 => ?_)
      all_goals repeat (first | ((with_reducible refine k_move ?_); refine m_move rfl ?_) | ((with_reducible refine k_assign ?_); refine m_assign rfl ?_) | ((with_reducible refine k_load ?_); refine x_load_ep_one tbOk rfl rfl rfl ?_) | ((with_reducible refine k_pick ?_); refine m_pickt rfl (by first | rfl | assumption) rfl ?_) | ((with_reducible refine k_indexAddr ?_); refine x_indexAddr_n tbOk rfl rfl rfl rfl (by assumption) ?_)  | refine e_nrm ?_ | refine x_none rfl ?_ | refine x_run_t rfl rfl (by first | rfl | assumption) ?_ | refine x_run_f rfl rfl (by first | rfl | assumption) ?_ | refine x_skip_f rfl rfl (by first | rfl | assumption) ?_ | refine x_skip' rfl rfl rfl ?_ | with_reducible refine q_then ?_ | with_reducible refine awp_ret ?_ )
      all_goals first
        | (fail_if_success with_reducible refine k_call ?_
           skip)
        | (refine x_call0 (snanI_A r) (by repeat' (first | exact trivial | exact Ren.v _ | exact Ren.sl _ _ | exact Ren.ep _ | exact Ren.ptr _ _ _ _ rfl | exact Ren.nil _ | exact Ren.own _ _ _ _ ⟨_, rfl⟩ | refine ren_ag ?_ | refine ren_tu ?_ | refine ren_fn ?_ | refine ⟨?_, ?_⟩)) (by repeat' (first | exact trivial | exact RenB.v _ | exact RenB.sl _ _ | exact RenB.ep _ | exact RenB.ptr _ _ _ _ rfl | refine renb_ag ?_ | refine renb_tu ?_ | refine ⟨?_, ?_⟩)) ?_
           skip)
      all_goals repeat (first | ((with_reducible refine k_move ?_); refine m_move rfl ?_) | ((with_reducible refine k_assign ?_); refine m_assign rfl ?_) | ((with_reducible refine k_pick ?_); refine m_pickt rfl (by first | rfl | assumption) rfl ?_) | ((with_reducible refine k_pick ?_); refine m_pickf rfl (by first | rfl | assumption) rfl ?_)  | refine e_nrm ?_ | refine x_none rfl ?_ | refine x_run_t rfl rfl (by first | rfl | assumption) ?_ | refine x_skip_t rfl rfl (by first | rfl | assumption) ?_ | refine x_run_f rfl rfl (by first | rfl | assumption) ?_ | with_reducible refine q_then ?_ | with_reducible refine awp_ret ?_ )
      all_goals refine ret0_2 (by first | exact .inr rfl | exact .inl rfl) rfl rfl rfl ?_
      all_goals first
        | (have e : hasI L x = true := hasI_iff.2 (hmem.1 (by first | rw [strEq_iff.1 h1] | (simp at h1; rw [h1])))
           rw [e, h1]
           repeat' (first | exact trivial | exact Ren.v _ | exact Ren.sl _ _ | exact Ren.ep _ | exact Ren.ptr _ _ _ _ rfl | exact Ren.nil _ | exact Ren.own _ _ _ _ ⟨_, rfl⟩ | refine ren_ag ?_ | refine ren_tu ?_ | refine ren_fn ?_ | refine ⟨?_, ?_⟩)
           skip)
        | (have e : hasI L x = false := by
             cases hh : hasI L x with
             | false => rfl
             | true =>
               have e2 := hmem.2 (hasI_iff.1 hh)
               injection e2 with e2
               subst e2
               first | (rw [strEq_iff.2 rfl] at h1; cases h1) | simp at h1
           rw [e]
           repeat' (first | exact trivial | exact Ren.v _ | exact Ren.sl _ _ | exact Ren.ep _ | exact Ren.ptr _ _ _ _ rfl | exact Ren.nil _ | exact Ren.own _ _ _ _ ⟨_, rfl⟩ | refine ren_ag ?_ | refine ren_tu ?_ | refine ren_fn ?_ | refine ⟨?_, ?_⟩)
           skip)
    · have hlt : ¬ i < L.length := by simpa using h0
      rw [List.getElem?_eq_none (by omega)] at hmem
      have e : hasI L x = false := by
        cases hh : hasI L x with
        | false => rfl
        | true => have := hmem.2 (hasI_iff.1 hh); cases this
      rw [e]
      repeat (first | ((with_reducible refine k_assign ?_); refine m_assign rfl ?_) | ((with_reducible refine k_pick ?_); refine m_pickf rfl (by first | rfl | assumption) rfl ?_)  | refine e_nrm ?_ | refine x_none rfl ?_ | refine x_skip_t rfl rfl (by first | rfl | assumption) ?_ | refine x_skip' rfl rfl rfl ?_ | with_reducible refine q_then ?_ | with_reducible refine awp_ret ?_ )
      refine ret0_2 (by first | exact .inr rfl | exact .inl rfl) rfl rfl rfl ?_
      repeat' (first | exact trivial | exact Ren.v _ | exact Ren.sl _ _ | exact Ren.ep _ | exact Ren.ptr _ _ _ _ rfl | exact Ren.nil _ | exact Ren.own _ _ _ _ ⟨_, rfl⟩ | refine ren_ag ?_ | refine ren_tu ?_ | refine ren_fn ?_ | refine ⟨?_, ?_⟩)
theorem nanS_A (n : ByteArray) : ACalls Tryd.prog G 75 [sv n] [] (.v (.bool false)) [] := by
  refine acalls_of tbOk (enter_of Tryd.func75 (by kernel_rfl) rfl) Tryd.func75 rfl _ Tryd.ntmps75 (Nat.le_of_ble_eq_true rfl) fun X hX => ?_
  subst hX
  repeat' (first | ((with_reducible refine k_move ?_); refine m_move rfl ?_) | ((with_reducible refine k_assign ?_); refine m_assign rfl ?_) | ((with_reducible refine k_bin ?_); refine m_binS rfl rfl rfl ?_)  | refine e_nrm ?_ | refine x_none rfl ?_ | with_reducible refine q_then ?_ | with_reducible refine awp_seq ?_ | with_reducible refine awp_ret ?_ | ((with_reducible refine w_region ?_ ?_); kernel_rfl) | refine x_split rfl rfl (fun _ => ?_) (fun _ => ?_) | refine w_cond rfl (fun _ => ?_) (fun _ => ?_))
  refine ret_v (by first | exact .inr rfl | exact .inl rfl) rfl rfl ?_
  simp [strEq_dec]
theorem snanS_A (n : ByteArray) : ACalls Tryd.prog G 66 [sv n] [] (.v (.bool false)) [] := by
  refine acalls_of tbOk (enter_of Tryd.func66 (by kernel_rfl) rfl) Tryd.func66 rfl _ Tryd.ntmps66 (Nat.le_of_ble_eq_true rfl) fun X hX => ?_
  subst hX
  repeat' (first | ((with_reducible refine k_move ?_); refine m_move rfl ?_) | ((with_reducible refine k_assign ?_); refine m_assign rfl ?_) | ((with_reducible refine k_bin ?_); refine m_binS rfl rfl rfl ?_)  | refine e_nrm ?_ | refine x_none rfl ?_ | with_reducible refine q_then ?_ | with_reducible refine awp_seq ?_ | with_reducible refine awp_ret ?_ | ((with_reducible refine w_region ?_ ?_); kernel_rfl) | refine x_split rfl rfl (fun _ => ?_) (fun _ => ?_) | refine w_cond rfl (fun _ => ?_) (fun _ => ?_))
  refine ret_v (by first | exact .inr rfl | exact .inl rfl) rfl rfl ?_
  simp [strEq_dec]
theorem lessS_A (x y : ByteArray) : ACalls Tryd.prog G 65 [sv x, sv y] [] (.v (.bool (strLt x y))) [] := by
  refine acalls_of tbOk (enter_of Tryd.func65 (by kernel_rfl) rfl) Tryd.func65 rfl _ Tryd.ntmps65 (Nat.le_of_ble_eq_true rfl) fun X hX => ?_
  subst hX
  repeat (first | ((with_reducible refine k_move ?_); refine m_move rfl ?_) | ((with_reducible refine k_assign ?_); refine m_assign rfl ?_)  | refine e_nrm ?_ | refine x_none rfl ?_ | with_reducible refine q_then ?_ | with_reducible refine awp_seq ?_ | ((with_reducible refine w_region ?_ ?_); kernel_rfl))
  refine x_call0 (nanS_A x) (by repeat' (first | exact trivial | exact Ren.v _ | exact Ren.sl _ _ | exact Ren.ep _ | exact Ren.ptr _ _ _ _ rfl | exact Ren.nil _ | exact Ren.own _ _ _ _ ⟨_, rfl⟩ | refine ren_ag ?_ | refine ren_tu ?_ | refine ren_fn ?_ | refine ⟨?_, ?_⟩)) (by repeat' (first | exact trivial | exact RenB.v _ | exact RenB.sl _ _ | exact RenB.ep _ | exact RenB.ptr _ _ _ _ rfl | refine renb_ag ?_ | refine renb_tu ?_ | refine ⟨?_, ?_⟩)) ?_
  repeat (first | ((with_reducible refine k_move ?_); refine m_move rfl ?_) | ((with_reducible refine k_assign ?_); refine m_assign rfl ?_) | ((with_reducible refine k_pick ?_); refine m_pickf rfl (by first | rfl | assumption) rfl ?_) | ((with_reducible refine k_bin ?_); refine m_binS rfl rfl rfl ?_)  | refine e_nrm ?_ | refine x_none rfl ?_ | refine x_skip_t rfl rfl (by first | rfl | assumption) ?_ | refine x_run_f rfl rfl (by first | rfl | assumption) ?_ | with_reducible refine q_then ?_ | with_reducible refine awp_ret ?_ )
  refine ret_v (by first | exact .inr rfl | exact .inl rfl) rfl rfl ?_
  rfl
theorem idxS_A (L : List ByteArray) (x : ByteArray) (hm : L.length ≤ maxLen) : ACalls Tryd.prog G 70 [.sl 1 (L.map sv), sv x] [] (.v (.int .i64 (idxG (fun y => decide (y = x)) L 0))) [] := by
  have hm9 : L.length ≤ 9223372036854775807 := by unfold maxLen at hm; omega
  refine acalls_of tbOk (enter_of Tryd.func70 (by kernel_rfl) rfl) Tryd.func70 rfl _ Tryd.ntmps70 (Nat.le_of_ble_eq_true rfl) fun X hX => ?_
  subst hX
  repeat (first | ((with_reducible refine k_move ?_); refine m_move rfl ?_) | ((with_reducible refine k_assign ?_); refine m_assign rfl ?_) | ((with_reducible refine k_call ?_); refine x_len tbOk rfl rfl ?_)  | refine e_nrm ?_ | refine x_none rfl ?_ | with_reducible refine q_then ?_ | with_reducible refine awp_seq ?_ | with_reducible refine awp_block ?_ | ((with_reducible refine w_region ?_ ?_); kernel_rfl))
  refine awp_loop (ι := Nat) (fun k => k ≤ L.length ∧ idxG (fun y => decide (y = x)) (L.drop k) k = idxG (fun y => decide (y = x)) L 0) (fun k => L.length - k) (fun v k => [(0, .sl 1 (L.map sv)), (1, sv x), (7, .v (.int .i64 (L.map sv).length)), (8, .v (.int .i64 k))]) (fun v k => []) ?_ ?_
  · exact ⟨0, ⟨Nat.zero_le _, rfl⟩, trivial, ⟨rfl, rfl, rfl, rfl, trivial⟩, trivial⟩
  rintro v k ⟨hk, hf⟩
  repeat (first | ((with_reducible refine k_bin ?_); refine m_binI rfl rfl rfl ?_)  | refine e_nrm ?_ | refine x_none rfl ?_ | with_reducible refine q_then ?_ | with_reducible refine awp_seq ?_ | ((with_reducible refine w_region ?_ ?_); kernel_rfl))
  refine w_cond rfl (fun h => ?_) (fun h => ?_)
  · have hlt : k < L.length := by simpa using h
    obtain ⟨r, hx⟩ := some_at hlt
    have hy : (L.map sv)[k]? = some (sv r) := by rw [List.getElem?_map, hx]; rfl
    rw [idxG_at hx] at hf
    repeat (first | ((with_reducible refine k_move ?_); refine m_move rfl ?_) | ((with_reducible refine k_assign ?_); refine m_assign rfl ?_) | ((with_reducible refine k_load ?_); refine x_load_ep_one tbOk rfl rfl rfl ?_) | ((with_reducible refine k_indexAddr ?_); refine x_indexAddr_n tbOk rfl rfl rfl rfl (by assumption) ?_) | ((with_reducible refine k_bin ?_); refine m_binS rfl rfl rfl ?_)  | refine e_nrm ?_ | refine x_none rfl ?_ | with_reducible refine q_then ?_ | with_reducible refine awp_seq ?_ | with_reducible refine awp_block ?_ | with_reducible refine awp_skip ?_ | ((with_reducible refine w_region ?_ ?_); kernel_rfl))
    refine w_cond rfl (fun h => ?_) (fun h => ?_)
    · have e : r = x := by first | (have := strEq_iff.1 h; exact this.symm) | (simp at h; exact h.symm)
      rw [if_pos (by simpa using e)] at hf
      repeat (first | ((with_reducible refine k_move ?_); refine m_move rfl ?_) | ((with_reducible refine k_assign ?_); refine m_assign rfl ?_)  | refine e_nrm ?_ | refine x_none rfl ?_ | with_reducible refine q_then ?_ | with_reducible refine q_then_ret ?_ | with_reducible refine q_block_ret ?_ | with_reducible refine awp_seq ?_ | with_reducible refine awp_ret ?_ | ((with_reducible refine w_region ?_ ?_); kernel_rfl))
      refine ret_v (by first | exact .inr rfl | exact .inl rfl) rfl rfl ?_
      rw [← hf]
    · have e : ¬ r = x := by
        rintro rfl
        first | (rw [strEq_iff.2 rfl] at h; cases h) | simp at h
      rw [if_neg (by simpa using e)] at hf
      repeat (first | ((with_reducible refine k_move ?_); refine m_move rfl ?_) | ((with_reducible refine k_bin ?_); refine x_add_in rfl rfl (by omega) ?_)  | refine e_nrm ?_ | refine x_none rfl ?_ | with_reducible refine q_then ?_ | with_reducible refine q_block ?_ | with_reducible refine awp_skip ?_ | ((with_reducible refine w_region ?_ ?_); kernel_rfl))
      exact ⟨k + 1, ⟨by omega, hf⟩, by omega, ⟨rfl, rfl, rfl, rfl, trivial⟩, trivial⟩
  · have hlt : ¬ k < L.length := by simpa using h
    rw [List.drop_of_length_le (by omega)] at hf
    repeat (first | ((with_reducible refine k_assign ?_); refine m_assign rfl ?_)  | refine e_nrm ?_ | refine x_none rfl ?_ | with_reducible refine q_then ?_ | with_reducible refine q_then_exit ?_ | with_reducible refine awp_seq ?_ | with_reducible refine awp_exit ?_ | with_reducible refine awp_ret ?_ | ((with_reducible refine q_block_exit ?_ ?_); rfl) | ((with_reducible refine w_region ?_ ?_); kernel_rfl))
    refine ret_v (by first | exact .inr rfl | exact .inl rfl) rfl rfl ?_
    rw [← hf]; rfl
theorem conS_A (L : List ByteArray) (x : ByteArray) (hm : L.length ≤ maxLen) : ACalls Tryd.prog G 53 [.sl 1 (L.map sv), sv x] [] (.v (.bool (hasS L x))) [] := by
  refine acalls_of tbOk (enter_of Tryd.func53 (by kernel_rfl) rfl) Tryd.func53 rfl _ Tryd.ntmps53 (Nat.le_of_ble_eq_true rfl) fun X hX => ?_
  subst hX
  repeat (first | ((with_reducible refine k_move ?_); refine m_move rfl ?_) | ((with_reducible refine k_assign ?_); refine m_assign rfl ?_)  | refine e_nrm ?_ | refine x_none rfl ?_ | with_reducible refine q_then ?_ | with_reducible refine awp_seq ?_ | ((with_reducible refine w_region ?_ ?_); kernel_rfl))
  refine x_call0 (idxS_A L x hm) (by repeat' (first | exact trivial | exact Ren.v _ | exact Ren.sl _ _ | exact Ren.ep _ | exact Ren.ptr _ _ _ _ rfl | exact Ren.nil _ | exact Ren.own _ _ _ _ ⟨_, rfl⟩ | refine ren_ag ?_ | refine ren_tu ?_ | refine ren_fn ?_ | refine ⟨?_, ?_⟩)) (by repeat' (first | exact trivial | exact RenB.v _ | exact RenB.sl _ _ | exact RenB.ep _ | exact RenB.ptr _ _ _ _ rfl | refine renb_ag ?_ | refine renb_tu ?_ | refine ⟨?_, ?_⟩)) ?_
  repeat (first | ((with_reducible refine k_assign ?_); refine m_assign rfl ?_) | ((with_reducible refine k_bin ?_); refine m_binI rfl rfl rfl ?_)  | refine e_nrm ?_ | refine x_none rfl ?_ | with_reducible refine q_then ?_ | with_reducible refine awp_ret ?_ )
  refine ret_v (by first | exact .inr rfl | exact .inl rfl) rfl rfl ?_
  rw [show hasS L x = L.any (fun y => decide (y = x)) from rfl, ← idxG_any _ L 0]
set_option maxHeartbeats 2000000 in
theorem bsS_A (L : List ByteArray) (x : ByteArray) (hp : AscG strLt L) (hm : L.length ≤ 100000) :
    ACalls Tryd.prog G 46 [.sl 1 (L.map sv), sv x] [] (.tu [.v (.int .i64 (lowG strLt x L)), .v (.bool (hasS L x))]) [] := by
  have hln : (L.map sv).length = L.length := by simp
  have ho : StrictOrd strLt := strLt_ord
  refine acalls_of tbOk (enter_of Tryd.func46 (by kernel_rfl) rfl) Tryd.func46 rfl _ Tryd.ntmps46 (Nat.le_of_ble_eq_true rfl) fun X hX => ?_
  subst hX
  repeat (first | ((with_reducible refine k_move ?_); refine m_move rfl ?_) | ((with_reducible refine k_assign ?_); refine m_assign rfl ?_) | ((with_reducible refine k_call ?_); refine x_len tbOk rfl rfl ?_)  | refine e_nrm ?_ | refine x_none rfl ?_ | with_reducible refine q_then ?_ | with_reducible refine awp_seq ?_ | with_reducible refine awp_block ?_ | ((with_reducible refine w_region ?_ ?_); kernel_rfl))
  refine awp_loop (ι := Nat × Nat) (fun q => q.1 ≤ q.2 ∧ q.2 ≤ L.length ∧ (∀ k r, k < q.1 → L[k]? = some r → strLt r x = true) ∧ (∀ k r, q.2 ≤ k → L[k]? = some r → strLt r x = false)) (fun q => q.2 - q.1) (fun v q => [(0, .sl 1 (L.map sv)), (1, sv x), (6, .v (.int .i64 (L.map sv).length)), (7, .v (.int .i64 (q.1 : Nat))), (8, .v (.int .i64 (q.2 : Nat)))]) (fun v q => []) ?_ ?_
  · exact ⟨(0, (L.map sv).length), ⟨Nat.zero_le _, by simp, by simp, fun k r hk hr => by
      have := lt_at hr
      simp at hk; omega⟩, trivial, ⟨rfl, rfl, rfl, rfl, rfl, trivial⟩, trivial⟩
  rintro v ⟨i, j⟩ ⟨hij, hj, h1, h2⟩
  simp only at hij hj h1 h2
  dsimp only
  repeat (first | ((with_reducible refine k_move ?_); refine m_move rfl ?_) | ((with_reducible refine k_bin ?_); refine m_binI rfl rfl rfl ?_)  | refine e_nrm ?_ | refine x_none rfl ?_ | with_reducible refine q_then ?_ | with_reducible refine awp_seq ?_ | ((with_reducible refine w_region ?_ ?_); kernel_rfl))
  refine w_cond rfl (fun h => ?_) (fun h => ?_)
  · have hlt : i < j := by simpa using h
    have hw : IntKind.i64.wrap (((i : Int) + (j : Int)) / 2 ^ (1 : Int).toNat) = ((i : Int) + (j : Int)) / 2 ^ (1 : Int).toNat := wrap_i64_in (by simp; omega)
    obtain ⟨m, hmd⟩ : ∃ m : Nat, ((i : Int) + (j : Int)) / 2 ^ (1 : Int).toNat = (m : Nat) := ⟨(i + j) / 2, by simp⟩
    have hm2 : m = (i + j) / 2 := by simp at hmd; omega
    obtain ⟨r, hx⟩ := some_at (L := L) (k := m) (by omega)
    have hy : (L.map sv)[m]? = some (sv r) := by rw [List.getElem?_map, hx]; rfl
    repeat (first | ((with_reducible refine k_move ?_); refine m_move rfl ?_) | ((with_reducible refine k_assign ?_); refine m_assign rfl ?_) | ((with_reducible refine k_convert ?_); refine x_conv_in tbOk rfl rfl rfl (by first | assumption | exact wrap_u64_in (by omega) | exact wrap_i64_in (by omega) | exact wrap_u8_in (by omega)) ?_) | ((with_reducible refine k_bin ?_); refine x_add_in rfl rfl (by omega) ?_) | ((with_reducible refine k_bin ?_); refine x_shr rfl rfl (by decide) ?_)  | refine e_nrm ?_ | refine x_none rfl ?_ | with_reducible refine q_then ?_ | with_reducible refine awp_seq ?_ | with_reducible refine awp_block ?_ | with_reducible refine awp_skip ?_ | ((with_reducible refine w_region ?_ ?_); kernel_rfl))
    rw [hmd]
    repeat (first | ((with_reducible refine k_move ?_); refine m_move rfl ?_) | ((with_reducible refine k_load ?_); refine x_load_ep_one tbOk rfl rfl rfl ?_) | ((with_reducible refine k_indexAddr ?_); refine x_indexAddr_n tbOk rfl rfl rfl rfl (by assumption) ?_)  | refine x_none rfl ?_  )
    refine x_call0 (lessS_A r x) (by repeat' (first | exact trivial | exact Ren.v _ | exact Ren.sl _ _ | exact Ren.ep _ | exact Ren.ptr _ _ _ _ rfl | exact Ren.nil _ | exact Ren.own _ _ _ _ ⟨_, rfl⟩ | refine ren_ag ?_ | refine ren_tu ?_ | refine ren_fn ?_ | refine ⟨?_, ?_⟩)) (by repeat' (first | exact trivial | exact RenB.v _ | exact RenB.sl _ _ | exact RenB.ep _ | exact RenB.ptr _ _ _ _ rfl | refine renb_ag ?_ | refine renb_tu ?_ | refine ⟨?_, ?_⟩)) ?_
    repeat (first   | refine e_nrm ?_ | with_reducible refine q_then ?_ )
    refine w_cond rfl (fun hc => ?_) (fun hc => ?_)
    · repeat (first | ((with_reducible refine k_move ?_); refine m_move rfl ?_) | ((with_reducible refine k_assign ?_); refine m_assign rfl ?_) | ((with_reducible refine k_bin ?_); refine x_add_in rfl rfl (by omega) ?_)  | refine e_nrm ?_ | refine x_none rfl ?_ | with_reducible refine q_then ?_ | with_reducible refine q_block ?_ | ((with_reducible refine w_region ?_ ?_); kernel_rfl))
      refine ⟨(m + 1, j), ⟨by show m + 1 ≤ j; omega, hj, fun k y hk hy' => ?_, h2⟩, by show j - (m + 1) < j - i; omega, ⟨rfl, rfl, rfl, rfl, rfl, trivial⟩, trivial⟩
      rcases Nat.eq_or_lt_of_le (show k ≤ m by simp at hk; omega) with rfl | hk2
      · rw [hx] at hy'; injection hy' with e; rw [← e]; exact hc
      · exact ho.tr _ _ _ (asc_at hp hy' hx hk2) hc
    · repeat (first | ((with_reducible refine k_move ?_); refine m_move rfl ?_) | ((with_reducible refine k_assign ?_); refine m_assign rfl ?_)  | refine e_nrm ?_ | refine x_none rfl ?_ | with_reducible refine q_then ?_ | with_reducible refine q_block ?_ | ((with_reducible refine w_region ?_ ?_); kernel_rfl))
      refine ⟨(i, m), ⟨by show i ≤ m; omega, by show m ≤ L.length; omega, h1, fun k y hk hy' => ?_⟩, by show m - i < j - i; omega, ⟨rfl, rfl, rfl, rfl, rfl, trivial⟩, trivial⟩
      rcases Nat.eq_or_lt_of_le (show m ≤ k from hk) with rfl | hk2
      · rw [hx] at hy'; injection hy' with e; rw [← e]; exact hc
      · cases hq : strLt y x with
        | false => rfl
        | true =>
          have := ho.tr _ _ _ (asc_at hp hx hy' hk2) hq
          rw [hc] at this
          cases this
  · have hge : ¬ i < j := by simpa using h
    obtain rfl : i = j := by omega
    have hlow := lowG_eq (lt := strLt) hj h1 (fun r hr => h2 i r (Nat.le_refl _) hr)
    have hmem := lowG_mem ho (x := x) hp
    rw [hlow] at hmem ⊢
    repeat (first | ((with_reducible refine k_move ?_); refine m_move rfl ?_) | ((with_reducible refine k_bin ?_); refine m_binI rfl rfl rfl ?_)  | refine x_none rfl ?_ | with_reducible refine q_then ?_ | with_reducible refine q_then_exit ?_ | with_reducible refine awp_seq ?_ | with_reducible refine awp_exit ?_ | ((with_reducible refine q_block_exit ?_ ?_); rfl) | ((with_reducible refine w_region ?_ ?_); kernel_rfl))
    refine x_split rfl rfl (fun h0 => ?_) (fun h0 => ?_)
    · have hlt : i < L.length := by simpa using h0
      obtain ⟨r, hx⟩ := some_at hlt
      have hy : (L.map sv)[i]? = some (sv r) := by rw [List.getElem?_map, hx]; rfl
      rw [hx] at hmem
      repeat (first | ((with_reducible refine k_move ?_); refine m_move rfl ?_) | ((with_reducible refine k_load ?_); refine x_load_ep_one tbOk rfl rfl rfl ?_) | ((with_reducible refine k_indexAddr ?_); refine x_indexAddr_n tbOk rfl rfl rfl rfl (by assumption) ?_) | ((with_reducible refine k_bin ?_); refine m_binS rfl rfl rfl ?_)  | refine x_run_t rfl rfl (by first | rfl | assumption) ?_  )
      refine x_split rfl rfl (fun h1 => ?_) (fun h1 => ?_)
      all_goals repeat (first | ((with_reducible refine k_move ?_); refine m_move rfl ?_) | ((with_reducible refine k_assign ?_); refine m_assign rfl ?_) | ((with_reducible refine k_load ?_); refine x_load_ep_one tbOk rfl rfl rfl ?_) | ((with_reducible refine k_pick ?_); refine m_pickt rfl (by first | rfl | assumption) rfl ?_) | ((with_reducible refine k_indexAddr ?_); refine x_indexAddr_n tbOk rfl rfl rfl rfl (by assumption) ?_)  | refine e_nrm ?_ | refine x_none rfl ?_ | refine x_run_t rfl rfl (by first | rfl | assumption) ?_ | refine x_run_f rfl rfl (by first | rfl | assumption) ?_ | refine x_skip_f rfl rfl (by first | rfl | assumption) ?_ | refine x_skip' rfl rfl rfl ?_ | with_reducible refine q_then ?_ | with_reducible refine awp_ret ?_ )
      all_goals first
        | (fail_if_success with_reducible refine k_call ?_
           skip)
        | (refine x_call0 (snanS_A r) (by repeat' (first | exact trivial | exact Ren.v _ | exact Ren.sl _ _ | exact Ren.ep _ | exact Ren.ptr _ _ _ _ rfl | exact Ren.nil _ | exact Ren.own _ _ _ _ ⟨_, rfl⟩ | refine ren_ag ?_ | refine ren_tu ?_ | refine ren_fn ?_ | refine ⟨?_, ?_⟩)) (by repeat' (first | exact trivial | exact RenB.v _ | exact RenB.sl _ _ | exact RenB.ep _ | exact RenB.ptr _ _ _ _ rfl | refine renb_ag ?_ | refine renb_tu ?_ | refine ⟨?_, ?_⟩)) ?_
           skip)
      all_goals repeat (first | ((with_reducible refine k_move ?_); refine m_move rfl ?_) | ((with_reducible refine k_assign ?_); refine m_assign rfl ?_) | ((with_reducible refine k_pick ?_); refine m_pickt rfl (by first | rfl | assumption) rfl ?_) | ((with_reducible refine k_pick ?_); refine m_pickf rfl (by first | rfl | assumption) rfl ?_)  | refine e_nrm ?_ | refine x_none rfl ?_ | refine x_run_t rfl rfl (by first | rfl | assumption) ?_ | refine x_skip_t rfl rfl (by first | rfl | assumption) ?_ | refine x_run_f rfl rfl (by first | rfl | assumption) ?_ | with_reducible refine q_then ?_ | with_reducible refine awp_ret ?_ )
      all_goals refine ret0_2 (by first | exact .inr rfl | exact .inl rfl) rfl rfl rfl ?_
      all_goals first
        | (have e : hasS L x = true := hasS_iff.2 (hmem.1 (by first | rw [strEq_iff.1 h1] | (simp at h1; rw [h1])))
           rw [e, h1]
           repeat' (first | exact trivial | exact Ren.v _ | exact Ren.sl _ _ | exact Ren.ep _ | exact Ren.ptr _ _ _ _ rfl | exact Ren.nil _ | exact Ren.own _ _ _ _ ⟨_, rfl⟩ | refine ren_ag ?_ | refine ren_tu ?_ | refine ren_fn ?_ | refine ⟨?_, ?_⟩)
           skip)
        | (have e : hasS L x = false := by
             cases hh : hasS L x with
             | false => rfl
             | true =>
               have e2 := hmem.2 (hasS_iff.1 hh)
               injection e2 with e2
               subst e2
               first | (rw [strEq_iff.2 rfl] at h1; cases h1) | simp at h1
           rw [e]
           repeat' (first | exact trivial | exact Ren.v _ | exact Ren.sl _ _ | exact Ren.ep _ | exact Ren.ptr _ _ _ _ rfl | exact Ren.nil _ | exact Ren.own _ _ _ _ ⟨_, rfl⟩ | refine ren_ag ?_ | refine ren_tu ?_ | refine ren_fn ?_ | refine ⟨?_, ?_⟩)
           skip)
    · have hlt : ¬ i < L.length := by simpa using h0
      rw [List.getElem?_eq_none (by omega)] at hmem
      have e : hasS L x = false := by
        cases hh : hasS L x with
        | false => rfl
        | true => have := hmem.2 (hasS_iff.1 hh); cases this
      rw [e]
      repeat (first | ((with_reducible refine k_assign ?_); refine m_assign rfl ?_) | ((with_reducible refine k_pick ?_); refine m_pickf rfl (by first | rfl | assumption) rfl ?_)  | refine e_nrm ?_ | refine x_none rfl ?_ | refine x_skip_t rfl rfl (by first | rfl | assumption) ?_ | refine x_skip' rfl rfl rfl ?_ | with_reducible refine q_then ?_ | with_reducible refine awp_ret ?_ )
      refine ret0_2 (by first | exact .inr rfl | exact .inl rfl) rfl rfl rfl ?_
      repeat' (first | exact trivial | exact Ren.v _ | exact Ren.sl _ _ | exact Ren.ep _ | exact Ren.ptr _ _ _ _ rfl | exact Ren.nil _ | exact Ren.own _ _ _ _ ⟨_, rfl⟩ | refine ren_ag ?_ | refine ren_tu ?_ | refine ren_fn ?_ | refine ⟨?_, ?_⟩)
end Go.Proofs.YtlmkloghbgglkaaDoor
