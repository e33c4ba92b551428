/- keys.Find, slices.Clone at rows, keys.Give, the reference's Same, and Mod, by the abstract machine; conditions: the table of classes stands. -/
import Derived.Test.YtaoegbmgombhdaaDoorKyB
import Derived.Test.YtaoegbmgombhdaaDoorKyE
import Derived.Lib.SliceRun
set_option linter.unusedVariables false
set_option linter.unusedSimpArgs false
namespace Go.Proofs.YtaoegbmgombhdaaDoor
open Go Go.RowKit
set_option maxRecDepth 10000
variable {G : Nat → Option (List Value)}
def hol0 : Hol := ⟨0, 0, emptyS⟩
def findP (L : List Rw) (n : Int) : Hol × Bool :=
  if chk L ≠ 0 then (hol0, false) else if fnd n L = false then (hol0, false) else match L[low n L]? with
    | some r => (r.h, true)
    | none => (hol0, false)
theorem fnd_some {n : Int} {L : List Rw} (h : fnd n L = true) : ∃ r, L[low n L]? = some r ∧ r.num = n := by
  unfold fnd at h
  split at h
  · rename_i r hr; exact ⟨r, hr, by simpa using h⟩
  · cases h
set_option maxHeartbeats 1000000 in
theorem find_A (L : List Rw) (n : Int) (hG : GCls G) (hs : ∀ r ∈ L, r.h.n.size ≤ maxLen) (hm : L.length ≤ maxLen) : ACalls Tryd.prog G 45 [.sl 4 (L.map Rw.av), .v (.int .i64 n)] [] (.tu [(findP L n).1.av, .v (.bool (findP L n).2)]) [] := by
  refine acalls_of tbOk (enter_of Tryd.func45 (by kernel_rfl) rfl) Tryd.func45 rfl _ Tryd.ntmps45 (Nat.le_of_ble_eq_true rfl) fun X hX => ?_
  subst hX
  repeat (first | ((with_reducible refine k_move ?_); refine m_move rfl ?_) | ((with_reducible refine k_assign ?_); refine m_assign rfl ?_) | ((with_reducible refine k_alloc ?_); refine x_alloc tbOk rfl rfl ?_)  | refine e_nrm ?_ | refine x_none rfl ?_ | with_reducible refine q_then ?_ | with_reducible refine awp_seq ?_ | ((with_reducible refine w_region ?_ ?_); kernel_rfl))
  refine x_call0 (kcheck_A L hG hs hm) (by repeat' (first | exact trivial | exact Ren.v _ | exact Ren.sl _ _ | exact Ren.ep _ | exact Ren.ptr _ _ _ _ rfl | exact Ren.nil _ | exact Ren.own _ _ _ _ ⟨_, rfl⟩ | refine ren_ag ?_ | refine ren_tu ?_ | refine ren_fn ?_ | refine ⟨?_, ?_⟩)) (by repeat' (first | exact trivial | exact RenB.v _ | exact RenB.sl _ _ | exact RenB.ep _ | exact RenB.ptr _ _ _ _ rfl | refine renb_ag ?_ | refine renb_tu ?_ | refine ⟨?_, ?_⟩)) ?_
  repeat (first | ((with_reducible refine k_bin ?_); refine m_binI rfl rfl rfl ?_)  | refine e_nrm ?_ | refine x_none rfl ?_ | with_reducible refine q_then ?_ )
  unfold findP
  refine w_cond rfl (fun h => ?_) (fun h => ?_)
  · rw [if_pos (by simpa using h)]
    repeat (first | ((with_reducible refine k_assign ?_); refine m_assign rfl ?_) | ((with_reducible refine k_store ?_); refine m_store tbOk rfl rfl rfl rfl rfl rfl rfl (Nat.le_of_ble_eq_true rfl) rfl ?_) | ((with_reducible refine k_build ?_); refine m_build tbOk rfl rfl rfl rfl rfl ?_)  | refine e_nrm ?_ | refine x_none rfl ?_ | with_reducible refine q_then ?_ | with_reducible refine q_then_ret ?_ | with_reducible refine awp_seq ?_ | with_reducible refine awp_ret ?_ | ((with_reducible refine w_region ?_ ?_); kernel_rfl))
    refine ret0_ct (by first | exact .inr rfl | exact .inl rfl) rfl rfl rfl rfl rfl rfl ?_
    repeat' (first | exact trivial | exact Ren.v _ | exact Ren.sl _ _ | exact Ren.ep _ | exact Ren.ptr _ _ _ _ rfl | exact Ren.nil _ | exact Ren.own _ _ _ _ ⟨_, rfl⟩ | refine ren_ag ?_ | refine ren_tu ?_ | refine ren_fn ?_ | refine ⟨?_, ?_⟩)
  · have hc : chk L = 0 := by simpa using h
    obtain ⟨h128, -, hp⟩ := (chk_iff L).1 hc
    rw [if_neg (by simp [hc])]
    repeat (first | ((with_reducible refine k_move ?_); refine m_move rfl ?_)  | refine x_none rfl ?_ | with_reducible refine q_then ?_ | with_reducible refine awp_seq ?_ | with_reducible refine awp_skip ?_ | ((with_reducible refine w_region ?_ ?_); kernel_rfl))
    refine x_call0 (place_A L n hp h128) (by repeat' (first | exact trivial | exact Ren.v _ | exact Ren.sl _ _ | exact Ren.ep _ | exact Ren.ptr _ _ _ _ rfl | exact Ren.nil _ | exact Ren.own _ _ _ _ ⟨_, rfl⟩ | refine ren_ag ?_ | refine ren_tu ?_ | refine ren_fn ?_ | refine ⟨?_, ?_⟩)) (by repeat' (first | exact trivial | exact RenB.v _ | exact RenB.sl _ _ | exact RenB.ep _ | exact RenB.ptr _ _ _ _ rfl | refine renb_ag ?_ | refine renb_tu ?_ | refine ⟨?_, ?_⟩)) ?_
    repeat (first | ((with_reducible refine k_move ?_); refine m_move rfl ?_) | ((with_reducible refine k_assign ?_); refine m_assign rfl ?_) | ((with_reducible refine k_un ?_); refine x_not rfl ?_) | ((with_reducible refine k_extract ?_); refine x_extract rfl rfl ?_)  | refine e_nrm ?_ | refine x_none rfl ?_ | with_reducible refine q_then ?_ | with_reducible refine awp_seq ?_ | ((with_reducible refine w_region ?_ ?_); kernel_rfl))
    refine w_cond rfl (fun hf => ?_) (fun hf => ?_)
    · rw [if_pos (by simpa using hf)]
      repeat (first | ((with_reducible refine k_assign ?_); refine m_assign rfl ?_) | ((with_reducible refine k_store ?_); refine m_store tbOk rfl rfl rfl rfl rfl rfl rfl (Nat.le_of_ble_eq_true rfl) rfl ?_) | ((with_reducible refine k_build ?_); refine m_build tbOk rfl rfl rfl rfl rfl ?_)  | refine e_nrm ?_ | refine x_none rfl ?_ | with_reducible refine q_then ?_ | with_reducible refine q_then_ret ?_ | with_reducible refine awp_seq ?_ | with_reducible refine awp_ret ?_ | ((with_reducible refine w_region ?_ ?_); kernel_rfl))
      refine ret0_ct (by first | exact .inr rfl | exact .inl rfl) rfl rfl rfl rfl rfl rfl ?_
      repeat' (first | exact trivial | exact Ren.v _ | exact Ren.sl _ _ | exact Ren.ep _ | exact Ren.ptr _ _ _ _ rfl | exact Ren.nil _ | exact Ren.own _ _ _ _ ⟨_, rfl⟩ | refine ren_ag ?_ | refine ren_tu ?_ | refine ren_fn ?_ | refine ⟨?_, ?_⟩)
    · have hf' : fnd n L = true := by simpa using hf
      rw [if_neg (by simp [hf'])]
      obtain ⟨r, hx, -⟩ := fnd_some hf'
      have hy : (L.map Rw.av)[low n L]? = some r.av := by rw [List.getElem?_map, hx]; rfl
      rw [hx]
      repeat (first | ((with_reducible refine k_move ?_); refine m_move rfl ?_) | ((with_reducible refine k_assign ?_); refine m_assign rfl ?_) | ((with_reducible refine k_fieldAddr ?_); refine x_fieldAddr_ep tbOk rfl rfl rfl rfl ?_) | ((with_reducible refine k_load ?_); refine x_load_ep_agg tbOk rfl rfl (Nat.le_of_ble_eq_true rfl) ?_) | ((with_reducible refine k_store ?_); refine m_store tbOk rfl rfl rfl rfl rfl rfl rfl (Nat.le_of_ble_eq_true rfl) rfl ?_) | ((with_reducible refine k_indexAddr ?_); refine x_indexAddr_n tbOk rfl rfl rfl rfl (by assumption) ?_)  | refine e_nrm ?_ | refine x_none rfl ?_ | with_reducible refine q_then ?_ | with_reducible refine awp_seq ?_ | with_reducible refine awp_skip ?_ | with_reducible refine awp_ret ?_ | ((with_reducible refine w_region ?_ ?_); kernel_rfl))
      refine ret0_ct (by first | exact .inr rfl | exact .inl rfl) rfl rfl rfl rfl rfl rfl ?_
      repeat' (first | exact trivial | exact Ren.v _ | exact Ren.sl _ _ | exact Ren.ep _ | exact Ren.ptr _ _ _ _ rfl | exact Ren.nil _ | exact Ren.own _ _ _ _ ⟨_, rfl⟩ | refine ren_ag ?_ | refine ren_tu ?_ | refine ren_fn ?_ | refine ⟨?_, ?_⟩)
theorem infoRow : (Tryd.prog.info? 46).map (fun i => (i.zero, i.size, i.bytes)) = some (some (.agg #[.int .i64 0, .int .i64 0, .int .i64 0, .string ⟨#[]⟩]), 4, 40) := by kernel_rfl
theorem eqlNilR (A : Option Addr) (n c : Nat) (w : World) : (binOp .eql 49 (.slice A n c) (.slice none 0 0)).run Tryd.prog w = .ok (.bool A.isNone) w :=
  Lib.run_eql_slice_nil w 49 46 A n c 0 0 Tryd.underlying49
set_option maxHeartbeats 1000000 in
theorem clone_nil (c : Nat) (w : World) : Calls Tryd.prog 65 #[.slice none 0 c] w fun e w' => e = .returned (.slice none 0 0) ∧ w = w' := by
  have he := eqlNilR
  go_enter Tryd.func65, Tryd.ntmps65
  go_wp2
  go_ret
  exact ⟨rfl, rfl⟩
set_option maxHeartbeats 1000000 in
theorem clone_some (ad : Addr) (c n : Nat) (news : List Value) (w : World) (hl : news.length = n * 4) (hr : ∀ w', Below w.heap.size w w' → 0 < n → ∃ a, some ad = some a ∧ ∀ j u, news[j]? = some u → w'.cell? (a.add j) = some u) (h1 : ∀ u ∈ news, u.oneCell' = true) (hn : n ≤ 1000) :
    Calls Tryd.prog 65 #[.slice (some ad) n c] w fun e w' => ∃ v, e = .returned v ∧ w'.ownsRow w.heap.size 46 4 v n news ∧ Below w.heap.size w w' := by
  have he := eqlNilR
  obtain ⟨i0, hi, hz0, hz1, hz2⟩ := info_parts infoRow
  go_enter Tryd.func65, Tryd.ntmps65
  go_wp2_with (at_builtin; refine wpList_append_any _ rfl (.tmp 5) (.tmp 6) _ rfl w.heap.size 46 i0 _ 4 40 Tryd.underlying49 hi hz0 hz1 hz2 rfl (by omega) (.slice (some ⟨w.heap.size, 0, none⟩) 0 0) 0 [] rfl (World.ownsRow_made w #[] 0 (Nat.le_refl _) (by simp [maxLen]) rfl) (some ad) n c news rfl hl (hr _ ((Below.refl _ _).alloc (Nat.le_refl _) _)) h1 (by simp only [maxLen]; omega) (by omega) (by simp) ?_; intro v1 w1 hown1 hg1 hat1; simp only [Nat.zero_add, List.nil_append] at hown1)
  go_ret
  refine ⟨v1, rfl, hown1, ?_⟩
  refine ((Below.refl _ _).alloc (Nat.le_refl _) _).grown hg1 (by simp) (fun k hk => ?_)
  simp [Value.ownBlock] at hk
  omega
theorem clone_O (N : List AV) (ho : ∀ x ∈ N, allOne x.cells = true) (hn : N.length ≤ 1000) : ACallsO Tryd.prog 65 [.sl 4 N] 46 4 N := by
  refine ⟨enter_of Tryd.func65 (by kernel_rfl) rfl, fun M w vs hlive hl ha => ?_⟩
  obtain ⟨v, rfl⟩ : ∃ v, vs = [v] := List.length_eq_one_iff.1 hl
  have hv := ha 0 _ v rfl rfl
  obtain ⟨A, c, news, rfl, e2, e3, e4, e5, e6, e7⟩ := sl_news hlive hv (by decide) ho
  rcases A with _ | ad
  · have h0 : N.length = 0 := by
      rcases Nat.eq_zero_or_pos N.length with h0 | h0
      · exact h0
      · obtain ⟨_, e, _⟩ := e3 h0; cases e
    have hN : N = [] := List.eq_nil_of_length_eq_zero h0
    subst hN
    have hnews : news = [] := List.eq_nil_of_length_eq_zero (by simpa using e2)
    subst hnews
    exact (clone_nil c w).mono fun e w' ⟨he, hw⟩ => ⟨_, [], he, by subst hw; exact Below.refl _ _, nil_owns _ _ _ _, by simp, by simp, by simp⟩
  · refine (clone_some ad c N.length news w e2 (fun w' hb h0 => ?_) e4 hn).mono fun e w' ⟨u, he, hown, hb⟩ => ⟨u, news, he, hb, hown, e6, e5, e7⟩
    obtain ⟨a, ea, hc⟩ := e3 h0
    refine ⟨a, ea, fun j u hj => ?_⟩
    have h1 := hc j u hj
    have hlt := block_lt_of_cell h1
    rw [← h1]
    exact World.cell?_of_block (hb.block _ hlt)
theorem putL_app {α : Type} : ∀ (xs A B : List α) (o : Nat), putL (A ++ B) (A.length + o) xs = A ++ putL B o xs
  | [], A, B, o => rfl
  | x :: xs, A, B, o => by
    rw [putL, putL, List.set_append, if_neg (by omega), Nat.add_sub_cancel_left, Nat.add_assoc]
    exact putL_app xs A _ (o + 1)
theorem flat_give (b : Hol) : ∀ (L : List Rw) (i : Nat) (r : Rw), L[i]? = some r → ((L.set i ⟨r.num, b⟩).map Rw.av).flatMap AV.cells = putL ((L.map Rw.av).flatMap AV.cells) (i * 4 + 1) b.av.cells
  | [], i, r, h => by simp at h
  | x :: l, 0, r, h => by
    simp at h
    subst h
    rfl
  | x :: l, i + 1, r, h => by
    have ih := flat_give b l i r (by simpa using h)
    rw [List.set_cons_succ, List.map_cons, List.flatMap_cons, ih, List.map_cons, List.flatMap_cons]
    rw [show (i + 1) * 4 + 1 = x.av.cells.length + (i * 4 + 1) by simp [Rw.av, AV.cells]; omega, putL_app]
theorem rw_cells (L : List Rw) : ∀ x ∈ L.map Rw.av, x.cells.length = 4 := by
  intro x hx
  obtain ⟨r, _, rfl⟩ := List.mem_map.1 hx
  rfl
set_option maxHeartbeats 2000000 in
theorem give_A (L : List Rw) (n : Int) (a b : Hol) (hG : GCls G) (hs : ∀ r ∈ L, r.h.n.size ≤ maxLen) (hm : L.length ≤ maxLen) (hb : b.n.size ≤ maxLen) : ACalls Tryd.prog G 43 [.sl 4 (L.map Rw.av), .v (.int .i64 n), a.av, b.av] [] (.tu [.sl 4 ((giveP L n a b).1.map Rw.av), .v (.int .i64 (giveP L n a b).2)]) [] := by
  refine acalls_of tbOk (enter_of Tryd.func43 (by kernel_rfl) rfl) Tryd.func43 rfl _ Tryd.ntmps43 (Nat.le_of_ble_eq_true rfl) fun X hX => ?_
  subst hX
  repeat (first | ((with_reducible refine k_move ?_); refine m_move rfl ?_) | ((with_reducible refine k_assign ?_); refine m_assign rfl ?_) | ((with_reducible refine k_box ?_); refine m_box rfl rfl rfl ?_)  | refine e_nrm ?_ | refine x_none rfl ?_ | with_reducible refine q_then ?_ | with_reducible refine awp_seq ?_ | ((with_reducible refine w_region ?_ ?_); kernel_rfl))
  refine x_call0 (kcheck_A L hG hs hm) (by repeat' (first | exact trivial | exact Ren.v _ | exact Ren.sl _ _ | exact Ren.ep _ | exact Ren.ptr _ _ _ _ rfl | exact Ren.nil _ | exact Ren.own _ _ _ _ ⟨_, rfl⟩ | refine ren_ag ?_ | refine ren_tu ?_ | refine ren_fn ?_ | refine ⟨?_, ?_⟩)) (by repeat' (first | exact trivial | exact RenB.v _ | exact RenB.sl _ _ | exact RenB.ep _ | exact RenB.ptr _ _ _ _ rfl | refine renb_ag ?_ | refine renb_tu ?_ | refine ⟨?_, ?_⟩)) ?_
  repeat (first | ((with_reducible refine k_move ?_); refine m_move rfl ?_) | ((with_reducible refine k_assign ?_); refine m_assign rfl ?_) | ((with_reducible refine k_bin ?_); refine m_binI rfl rfl rfl ?_)  | refine e_nrm ?_ | refine x_none rfl ?_ | with_reducible refine q_then ?_ | with_reducible refine awp_seq ?_ | ((with_reducible refine w_region ?_ ?_); kernel_rfl))
  unfold giveP
  refine w_cond rfl (fun h => ?_) (fun h => ?_)
  · rw [if_pos (by simpa using h)]
    repeat (first | ((with_reducible refine k_move ?_); refine m_move rfl ?_) | ((with_reducible refine k_assign ?_); refine m_assign rfl ?_)  | refine e_nrm ?_ | refine x_none rfl ?_ | with_reducible refine q_then ?_ | with_reducible refine q_then_ret ?_ | with_reducible refine awp_seq ?_ | with_reducible refine awp_ret ?_ | ((with_reducible refine w_region ?_ ?_); kernel_rfl))
    refine ret0_2 (by first | exact .inr rfl | exact .inl rfl) rfl rfl rfl ?_
    repeat' (first | exact trivial | exact Ren.v _ | exact Ren.sl _ _ | exact Ren.ep _ | exact Ren.ptr _ _ _ _ rfl | exact Ren.nil _ | exact Ren.own _ _ _ _ ⟨_, rfl⟩ | refine ren_ag ?_ | refine ren_tu ?_ | refine ren_fn ?_ | refine ⟨?_, ?_⟩)
  · have hc : chk L = 0 := by simpa using h
    obtain ⟨h128, -, hp⟩ := (chk_iff L).1 hc
    rw [if_neg (by simp [hc])]
    repeat (first | ((with_reducible refine k_move ?_); refine m_move rfl ?_)  | refine x_none rfl ?_ | with_reducible refine q_then ?_ | with_reducible refine awp_seq ?_ | with_reducible refine awp_skip ?_ | ((with_reducible refine w_region ?_ ?_); kernel_rfl))
    refine x_call0 (place_A L n hp h128) (by repeat' (first | exact trivial | exact Ren.v _ | exact Ren.sl _ _ | exact Ren.ep _ | exact Ren.ptr _ _ _ _ rfl | exact Ren.nil _ | exact Ren.own _ _ _ _ ⟨_, rfl⟩ | refine ren_ag ?_ | refine ren_tu ?_ | refine ren_fn ?_ | refine ⟨?_, ?_⟩)) (by repeat' (first | exact trivial | exact RenB.v _ | exact RenB.sl _ _ | exact RenB.ep _ | exact RenB.ptr _ _ _ _ rfl | refine renb_ag ?_ | refine renb_tu ?_ | refine ⟨?_, ?_⟩)) ?_
    repeat (first | ((with_reducible refine k_move ?_); refine m_move rfl ?_) | ((with_reducible refine k_assign ?_); refine m_assign rfl ?_) | ((with_reducible refine k_load ?_); refine x_load_agg tbOk rfl rfl rfl rfl (Nat.le_of_ble_eq_true rfl) ?_) | ((with_reducible refine k_extract ?_); refine x_extract rfl rfl ?_)  | refine e_nrm ?_ | refine x_none rfl ?_ | with_reducible refine q_then ?_ | with_reducible refine awp_seq ?_ | with_reducible refine awp_block ?_ | ((with_reducible refine w_region ?_ ?_); kernel_rfl))
    refine x_call0 (right_A b hG hb) (by repeat' (first | exact trivial | exact Ren.v _ | exact Ren.sl _ _ | exact Ren.ep _ | exact Ren.ptr _ _ _ _ rfl | exact Ren.nil _ | exact Ren.own _ _ _ _ ⟨_, rfl⟩ | refine ren_ag ?_ | refine ren_tu ?_ | refine ren_fn ?_ | refine ⟨?_, ?_⟩)) (by repeat' (first | exact trivial | exact RenB.v _ | exact RenB.sl _ _ | exact RenB.ep _ | exact RenB.ptr _ _ _ _ rfl | refine renb_ag ?_ | refine renb_tu ?_ | refine ⟨?_, ?_⟩)) ?_
    repeat (first | ((with_reducible refine k_assign ?_); refine m_assign rfl ?_) | ((with_reducible refine k_un ?_); refine x_not rfl ?_)  | refine e_nrm ?_ | refine x_none rfl ?_ | with_reducible refine q_then ?_ )
    refine w_cond rfl (fun hr => ?_) (fun hr => ?_)
    · rw [if_pos (by simpa using hr)]
      repeat (first | ((with_reducible refine k_assign ?_); refine m_assign rfl ?_)  | refine e_nrm ?_ | refine x_none rfl ?_ | with_reducible refine q_then ?_ | with_reducible refine q_then_ret ?_ | with_reducible refine q_block_ret ?_ | with_reducible refine awp_seq ?_ | with_reducible refine awp_ret ?_ | ((with_reducible refine w_region ?_ ?_); kernel_rfl))
      refine ret0_2 (by first | exact .inr rfl | exact .inl rfl) rfl rfl rfl ?_
      repeat' (first | exact trivial | exact Ren.v _ | exact Ren.sl _ _ | exact Ren.ep _ | exact Ren.ptr _ _ _ _ rfl | exact Ren.nil _ | exact Ren.own _ _ _ _ ⟨_, rfl⟩ | refine ren_ag ?_ | refine ren_tu ?_ | refine ren_fn ?_ | refine ⟨?_, ?_⟩)
    · rw [if_neg (by simpa using hr)]
      repeat (first | ((with_reducible refine k_move ?_); refine m_move rfl ?_) | ((with_reducible refine k_assign ?_); refine m_assign rfl ?_) | ((with_reducible refine k_un ?_); refine x_not rfl ?_)  | refine e_nrm ?_ | refine x_none rfl ?_ | with_reducible refine q_then ?_ | with_reducible refine awp_seq ?_ | ((with_reducible refine w_region ?_ ?_); kernel_rfl))
      refine w_cond rfl (fun hf => ?_) (fun hf => ?_)
      · rw [if_pos (by simpa using hf)]
        repeat (first | ((with_reducible refine k_assign ?_); refine m_assign rfl ?_)  | refine e_nrm ?_ | refine x_none rfl ?_ | with_reducible refine q_then ?_ | with_reducible refine q_then_ret ?_ | with_reducible refine q_block_ret ?_ | with_reducible refine awp_seq ?_ | with_reducible refine awp_ret ?_ | ((with_reducible refine w_region ?_ ?_); kernel_rfl))
        refine ret0_2 (by first | exact .inr rfl | exact .inl rfl) rfl rfl rfl ?_
        repeat' (first | exact trivial | exact Ren.v _ | exact Ren.sl _ _ | exact Ren.ep _ | exact Ren.ptr _ _ _ _ rfl | exact Ren.nil _ | exact Ren.own _ _ _ _ ⟨_, rfl⟩ | refine ren_ag ?_ | refine ren_tu ?_ | refine ren_fn ?_ | refine ⟨?_, ?_⟩)
      · have hf' : fnd n L = true := by simpa using hf
        rw [if_neg (by simp [hf'])]
        obtain ⟨r, hx, -⟩ := fnd_some hf'
        have hy : (L.map Rw.av)[low n L]? = some r.av := by rw [List.getElem?_map, hx]; rfl
        have hlt : low n L < (L.map Rw.av).length := lt_at hy
        rw [hx]
        repeat (first | ((with_reducible refine k_move ?_); refine m_move rfl ?_) | ((with_reducible refine k_fieldAddr ?_); refine x_fieldAddr_ep tbOk rfl rfl rfl rfl ?_) | ((with_reducible refine k_load ?_); refine x_load_agg tbOk rfl rfl rfl rfl (Nat.le_of_ble_eq_true rfl) ?_) | ((with_reducible refine k_load ?_); refine x_load_ep_agg tbOk rfl rfl (Nat.le_of_ble_eq_true rfl) ?_) | ((with_reducible refine k_indexAddr ?_); refine x_indexAddr_n tbOk rfl rfl rfl rfl (by assumption) ?_)  | refine x_none rfl ?_ | with_reducible refine awp_seq ?_ | ((with_reducible refine w_draw mixd ?_ ?_); kernel_rfl))
        refine x_bin_ag rfl rfl (rfl : concL _ = some r.h.vals) (rfl : concL _ = some a.vals) (fun w => holNe _ _ r.h a w) ?_
        repeat (first | ((with_reducible refine k_assign ?_); refine m_assign rfl ?_)  | refine e_drw (by kernel_rfl) ?_ | refine x_none rfl ?_ | with_reducible refine q_then ?_ )
        refine w_cond rfl (fun he => ?_) (fun he => ?_)
        · have he' : ¬ r.h = a := by simpa using he
          simp only [if_neg he']
          repeat (first | ((with_reducible refine k_assign ?_); refine m_assign rfl ?_)  | refine e_nrm ?_ | refine x_none rfl ?_ | with_reducible refine q_then ?_ | with_reducible refine q_then_ret ?_ | with_reducible refine q_block_ret ?_ | with_reducible refine awp_seq ?_ | with_reducible refine awp_ret ?_ | ((with_reducible refine w_region ?_ ?_); kernel_rfl))
          refine ret0_2 (by first | exact .inr rfl | exact .inl rfl) rfl rfl rfl ?_
          repeat' (first | exact trivial | exact Ren.v _ | exact Ren.sl _ _ | exact Ren.ep _ | exact Ren.ptr _ _ _ _ rfl | exact Ren.nil _ | exact Ren.own _ _ _ _ ⟨_, rfl⟩ | refine ren_ag ?_ | refine ren_tu ?_ | refine ren_fn ?_ | refine ⟨?_, ?_⟩)
        · have he' : r.h = a := by simpa using he
          simp only [if_pos he']
          repeat (first | ((with_reducible refine k_move ?_); refine m_move rfl ?_)  | refine x_none rfl ?_ | with_reducible refine q_then ?_ | with_reducible refine q_block ?_ | with_reducible refine awp_seq ?_ | with_reducible refine awp_skip ?_ | ((with_reducible refine w_region ?_ ?_); kernel_rfl))
          refine x_call_own (clone_O (L.map Rw.av) (rw_one L) (by simp; omega)) (by repeat' (first | exact trivial | exact Ren.v _ | exact Ren.sl _ _ | exact Ren.ep _ | exact Ren.ptr _ _ _ _ rfl | exact Ren.nil _ | exact Ren.own _ _ _ _ ⟨_, rfl⟩ | refine ren_ag ?_ | refine ren_tu ?_ | refine ren_fn ?_ | refine ⟨?_, ?_⟩)) rfl ?_
          repeat (first | ((with_reducible refine k_move ?_); refine m_move rfl ?_) | ((with_reducible refine k_assign ?_); refine m_assign rfl ?_) | ((with_reducible refine k_load ?_); refine x_load_agg tbOk rfl rfl rfl rfl (Nat.le_of_ble_eq_true rfl) ?_)  | refine e_nrm ?_ | refine x_none rfl ?_ | with_reducible refine q_then ?_ | with_reducible refine awp_seq ?_ | ((with_reducible refine w_region ?_ ?_); kernel_rfl))
          refine x_indexAddr_own tbOk rfl rfl rfl rfl rfl rfl ⟨by omega, by omega⟩ ?_
          repeat (first | ((with_reducible refine k_fieldAddr ?_); refine x_fieldAddr_po tbOk rfl rfl rfl rfl ?_)  | refine x_none rfl ?_  )
          refine x_store_po (L' := (L.set (low n L) ⟨r.num, b⟩).map Rw.av) tbOk rfl rfl rfl rfl rfl rfl rfl rfl rfl ?_ ?_ (rw_cells _) (flat_give b L (low n L) r hx) ?_
          · rw [flat_len' (rw_cells L)]; simp at hlt ⊢; omega
          · simp
          · repeat (first | ((with_reducible refine k_move ?_); refine m_move rfl ?_) | ((with_reducible refine k_assign ?_); refine m_assign rfl ?_)  | refine e_nrm ?_ | refine x_none rfl ?_ | with_reducible refine q_then ?_ | with_reducible refine awp_seq ?_ | with_reducible refine awp_ret ?_ | ((with_reducible refine w_region ?_ ?_); kernel_rfl))
            refine ret0_2 (by first | exact .inr rfl | exact .inl rfl) rfl rfl rfl ?_
            repeat' (first | exact trivial | exact Ren.v _ | exact Ren.sl _ _ | exact Ren.ep _ | exact Ren.ptr _ _ _ _ rfl | exact Ren.nil _ | exact Ren.own _ _ _ _ ⟨_, rfl⟩ | refine ren_ag ?_ | refine ren_tu ?_ | refine ren_fn ?_ | refine ⟨?_, ?_⟩)
def sameR (L M : List Rw) : Bool := decide (L = M)
set_option maxHeartbeats 2000000 in
theorem same_A (L M : List Rw) (hl : L.length ≤ 1000) : ACalls Tryd.prog G 25 [.sl 4 (L.map Rw.av), .sl 4 (M.map Rw.av)] [] (.v (.bool (sameR L M))) [] := by
  refine acalls_of tbOk (enter_of Tryd.func25 (by kernel_rfl) rfl) Tryd.func25 rfl _ Tryd.ntmps25 (Nat.le_of_ble_eq_true rfl) fun X hX => ?_
  subst hX
  repeat (first | ((with_reducible refine k_move ?_); refine m_move rfl ?_) | ((with_reducible refine k_assign ?_); refine m_assign rfl ?_) | ((with_reducible refine k_call ?_); refine x_len tbOk rfl rfl ?_) | ((with_reducible refine k_bin ?_); refine m_binI rfl rfl rfl ?_)  | refine e_nrm ?_ | refine x_none rfl ?_ | with_reducible refine q_then ?_ | with_reducible refine awp_seq ?_ | ((with_reducible refine w_region ?_ ?_); kernel_rfl))
  refine w_cond rfl (fun h => ?_) (fun h => ?_)
  · repeat (first | ((with_reducible refine k_assign ?_); refine m_assign rfl ?_)  | refine e_nrm ?_ | refine x_none rfl ?_ | with_reducible refine q_then ?_ | with_reducible refine q_then_ret ?_ | with_reducible refine awp_seq ?_ | with_reducible refine awp_ret ?_ | ((with_reducible refine w_region ?_ ?_); kernel_rfl))
    refine ret_v (by first | exact .inr rfl | exact .inl rfl) rfl rfl ?_
    have : ¬ L.length = M.length := by simp at h; omega
    unfold sameR
    rw [decide_eq_false (fun e => this (by rw [e]))]
  · have hlm : L.length = M.length := by simp at h; omega
    repeat (first | ((with_reducible refine k_assign ?_); refine m_assign rfl ?_)  | refine e_nrm ?_ | refine x_none rfl ?_ | with_reducible refine q_then ?_ | with_reducible refine awp_seq ?_ | with_reducible refine awp_block ?_ | with_reducible refine awp_skip ?_ | ((with_reducible refine w_region ?_ ?_); kernel_rfl))
    refine awp_loop (ι := Nat) (fun k => k ≤ L.length ∧ (L = M ↔ L.drop k = M.drop k)) (fun k => L.length - k) (fun v k => [(0, .sl 4 (L.map Rw.av)), (1, .sl 4 (M.map Rw.av)), (5, .v (.int .i64 k))]) (fun v k => []) ?_ ?_
    · exact ⟨0, ⟨Nat.zero_le _, Iff.rfl⟩, trivial, ⟨rfl, rfl, rfl, trivial⟩, trivial⟩
    · rintro v k ⟨hk, hf⟩
      repeat (first | ((with_reducible refine k_move ?_); refine m_move rfl ?_) | ((with_reducible refine k_call ?_); refine x_len tbOk rfl rfl ?_) | ((with_reducible refine k_bin ?_); refine m_binI rfl rfl rfl ?_)  | refine e_nrm ?_ | refine x_none rfl ?_ | with_reducible refine q_then ?_ | with_reducible refine awp_seq ?_ | ((with_reducible refine w_region ?_ ?_); kernel_rfl))
      refine w_cond rfl (fun h => ?_) (fun h => ?_)
      · have hlt : k < L.length := by simpa using h
        obtain ⟨r, hx⟩ := some_at hlt
        obtain ⟨q, hq⟩ := some_at (L := M) (k := k) (by omega)
        have hy : (L.map Rw.av)[k]? = some r.av := by rw [List.getElem?_map, hx]; rfl
        have hz : (M.map Rw.av)[k]? = some q.av := by rw [List.getElem?_map, hq]; rfl
        rw [drop_at hx, drop_at hq, List.cons.injEq] at hf
        repeat (first | ((with_reducible refine k_move ?_); refine m_move rfl ?_) | ((with_reducible refine k_load ?_); refine x_load_ep_agg tbOk rfl rfl (Nat.le_of_ble_eq_true rfl) ?_) | ((with_reducible refine k_indexAddr ?_); refine x_indexAddr_n tbOk rfl rfl rfl rfl (by assumption) ?_)  | refine x_none rfl ?_ | with_reducible refine q_then ?_ | with_reducible refine awp_seq ?_ | with_reducible refine awp_block ?_ | with_reducible refine awp_skip ?_ | ((with_reducible refine w_draw mixd ?_ ?_); kernel_rfl))
        refine x_bin_ag rfl rfl (rfl : concL _ = some r.vals) (rfl : concL _ = some q.vals) (fun w => rowNe _ _ r q w) ?_
        repeat (first   | refine e_drw (by kernel_rfl) ?_ | with_reducible refine q_then ?_ )
        refine w_cond rfl (fun he => ?_) (fun he => ?_)
        · have he' : ¬ r = q := by simpa using he
          repeat (first | ((with_reducible refine k_assign ?_); refine m_assign rfl ?_)  | refine e_nrm ?_ | refine x_none rfl ?_ | with_reducible refine q_then ?_ | with_reducible refine q_then_ret ?_ | with_reducible refine q_block_ret ?_ | with_reducible refine awp_seq ?_ | with_reducible refine awp_ret ?_ | ((with_reducible refine w_region ?_ ?_); kernel_rfl))
          refine ret_v (by first | exact .inr rfl | exact .inl rfl) rfl rfl ?_
          unfold sameR
          rw [decide_eq_false (fun e => he' (hf.1 e).1)]
        · have he' : r = q := by simpa using he
          repeat (first | ((with_reducible refine k_move ?_); refine m_move rfl ?_) | ((with_reducible refine k_assign ?_); refine m_assign rfl ?_) | ((with_reducible refine k_bin ?_); refine x_add_in rfl rfl (by omega) ?_)  | refine e_nrm ?_ | refine x_none rfl ?_ | with_reducible refine q_then ?_ | with_reducible refine q_block ?_ | with_reducible refine awp_skip ?_ | ((with_reducible refine w_region ?_ ?_); kernel_rfl))
          exact ⟨k + 1, ⟨by omega, by rw [hf]; exact ⟨fun e => e.2, fun e => ⟨he', e⟩⟩⟩, by omega, ⟨rfl, rfl, rfl, trivial⟩, trivial⟩
      · have hlt : ¬ k < L.length := by simpa using h
        repeat (first | ((with_reducible refine k_assign ?_); refine m_assign rfl ?_)  | refine e_nrm ?_ | refine x_none rfl ?_ | with_reducible refine q_then ?_ | with_reducible refine q_then_exit ?_ | with_reducible refine awp_seq ?_ | with_reducible refine awp_exit ?_ | with_reducible refine awp_ret ?_ | ((with_reducible refine q_block_exit ?_ ?_); rfl) | ((with_reducible refine w_region ?_ ?_); kernel_rfl))
        refine ret_v (by first | exact .inr rfl | exact .inl rfl) rfl rfl ?_
        unfold sameR
        rw [decide_eq_true (hf.2 (by rw [List.drop_of_length_le (by omega), List.drop_of_length_le (by omega)]))]
end Go.Proofs.YtaoegbmgombhdaaDoor
