/- permitofficelaw10.FieldreportLong, by the abstract machine: it answers true for all lists and numbers; conditions: the tables of classes and powers stand. -/
import Derived.Test.YtgpglcccjkpmdaaDoorFsB
set_option linter.unusedVariables false
set_option linter.unusedSimpArgs false
namespace Go.Proofs.YtgpglcccjkpmdaaDoor
open Go Go.RowKit
set_option maxRecDepth 10000
variable {G : Nat → Option (List Value)}
def lgR (m k : Nat) : Rp := ⟨((k % m : Nat) : Int), 1 + ((k % 2 : Nat) : Int), 2, 7, false⟩
def lgL (m c : Nat) : List Rp := (List.range c).map (lgR m)
theorem lgL_succ (m k : Nat) : lgL m (k + 1) = lgL m k ++ [lgR m k] := by unfold lgL; rw [List.range_succ, List.map_append]; rfl
theorem lgL_len (m c : Nat) : (lgL m c).length = c := by simp [lgL]
def lgC : ByteArray := ⟨#[67]⟩
def lgM (m c : Nat) : Ms := ⟨lgC, 7, lgL m c⟩
def lgW (V : List Dv) (c : Nat) : List (List UInt8) := headW lgC 7 ++ (lgL V.length c).flatMap (repW V)
theorem lg7 : strL (joinW (headW lgC 7)) = (⟨#[67, 32, 97, 116, 32, 48, 47, 48, 48, 58, 48, 55, 58]⟩ : ByteArray) := by decide +kernel
theorem lgL_in {m c : Nat} (h : 1 ≤ m) : ∀ r ∈ lgL m c, (0 ≤ r.d ∧ r.d < m) ∧ (r.p = 1 ∨ r.p = 2) ∧ r.s = 2 ∧ r.t = 7 := by
  intro r hr
  obtain ⟨k, _, rfl⟩ := List.mem_map.1 hr
  have h1 : k % m < m := Nat.mod_lt _ h
  have h2 : k % 2 < 2 := Nat.mod_lt _ (by decide)
  refine ⟨⟨?_, ?_⟩, ?_, rfl, rfl⟩
  · show (0 : Int) ≤ ((k % m : Nat) : Int); omega
  · show ((k % m : Nat) : Int) < (m : Int); omega
  · show 1 + ((k % 2 : Nat) : Int) = 1 ∨ 1 + ((k % 2 : Nat) : Int) = 2; omega
theorem lgW_words {N : List Nd} {V : List Dv} (hn : netE N V = 0) (hv : 1 ≤ V.length) (c : Nat) : ∀ w ∈ lgW V c, (w ≠ [] ∧ ∀ x ∈ w, x ≠ 32) ∧ w.length ≤ 101 := by
  obtain ⟨hN, _⟩ := net_names hn
  intro w hw
  rcases List.mem_append.1 hw with hw | hw
  · have key : ∀ w ∈ headW lgC 7, (w ≠ [] ∧ ∀ x ∈ w, x ≠ 32) ∧ w.length ≤ 101 := by decide +kernel
    exact key w hw
  · obtain ⟨r, hr, hw⟩ := List.mem_flatMap.1 hw
    obtain ⟨x, hx, e⟩ := devN_at (lgL_in hv r hr).1
    simp only [repW, List.mem_cons, List.not_mem_nil, or_false] at hw
    rcases hw with rfl | rfl | rfl
    · rw [e]
      have := name_sp (hN x (List.mem_of_getElem? hx))
      exact ⟨⟨this.1, this.2.1⟩, by omega⟩
    · rcases posW_ok r.p with e | e <;> rw [e] <;> exact ⟨⟨by decide, by decide⟩, by decide⟩
    · rcases howW_ok r.b with e | e <;> rw [e] <;> exact ⟨⟨by decide, by decide⟩, by decide⟩
theorem lgW_len (V : List Dv) (c : Nat) : (lgW V c).length = 3 + 3 * c := by unfold lgW; rw [List.length_append, flat3, lgL_len]; rfl
theorem lgJ_len {N : List Nd} {V : List Dv} (hn : netE N V = 0) (hv : 1 ≤ V.length) {c : Nat} (hc : c ≤ 40) : (joinW (lgW V c)).length ≤ 20000 := by
  have h1 := joinW_len2 (lgW V c) 101 (fun w hw => (lgW_words hn hv c w hw).2)
  have h2 := lgW_len V c
  omega
theorem lgJ_succ {V : List Dv} {k : Nat} {x : Dv} (hx : V[k % V.length]? = some x) : strL (joinW (lgW V (k + 1))) = strL (joinW (lgW V k)) ++ (((⟨#[32]⟩ : ByteArray) ++ x.n) ++ strL (if k % 2 = 0 then 32 :: openL ++ 32 :: seenL else 32 :: closedL ++ 32 :: seenL)) := by
  have hd : devN V ((k % V.length : Nat) : Int) = x.n.data.toList := by unfold devN; rw [Int.toNat_natCast, hx]
  have e : lgW V (k + 1) = lgW V k ++ [x.n.data.toList, (if k % 2 = 0 then openL else closedL), seenL] := by
    unfold lgW
    rw [lgL_succ, List.flatMap_append, ← List.append_assoc]
    congr 1
    rw [List.flatMap_cons, List.flatMap_nil, List.append_nil]
    show [devN V ((k % V.length : Nat) : Int), posW (1 + ((k % 2 : Nat) : Int)), howW false] = _
    rw [hd]
    have h2 : posW (1 + ((k % 2 : Nat) : Int)) = if k % 2 = 0 then openL else closedL := by
      unfold posW
      by_cases h : k % 2 = 0
      · rw [if_pos h, if_neg (by omega)]
      · rw [if_neg h, if_pos (by omega)]
    rw [h2]; rfl
  rw [e, join3 (show lgW V k ≠ [] from head_ne _ _ _)]
  refine ba_ext2 ?_
  split <;> simp [strL]
theorem lg_ok {V : List Dv} {c : Nat} (hv : 1 ≤ V.length) (h1 : 1 ≤ c) (h2 : c ≤ 32) : MsOk V (lgM V.length c) :=
  ⟨by show nameB lgC.data.toList = true; decide +kernel, by show timeB 7 = true; decide +kernel, by show 1 ≤ (lgL V.length c).length; rw [lgL_len]; exact h1, by show (lgL V.length c).length ≤ 32; rw [lgL_len]; exact h2, lgL_in hv⟩
theorem lg_print0 {N : List Nd} {V : List Dv} (h0 : netE N V = 0) : printM N V (lgM V.length 0) = (ByteArray.empty, 16) := by
  have : msgE N V (lgM V.length 0) = 16 := by
    unfold msgE
    rw [if_neg (by rw [h0]; decide), if_neg (by show ¬ nameB lgC.data.toList = false; decide +kernel), if_neg (by show ¬ ((7 : Int) < 0 ∨ 16777216 < (7 : Int)); decide)]
    rfl
  unfold printM
  rw [this, if_pos (by decide)]
theorem lg_print9 {N : List Nd} {V : List Dv} (h0 : netE N V = 0) {c : Nat} (hc : 32 < c) : printM N V (lgM V.length c) = (ByteArray.empty, 1) := by
  have hl : (lgM V.length c).rs.length = c := lgL_len _ _
  have : msgE N V (lgM V.length c) = 1 := by
    unfold msgE
    rw [if_neg (by rw [h0]; decide), if_neg (by show ¬ nameB lgC.data.toList = false; decide +kernel), if_neg (by show ¬ ((7 : Int) < 0 ∨ 16777216 < (7 : Int)); decide), if_neg (by omega), if_pos (by omega)]
  unfold printM
  rw [this, if_pos (by decide)]
theorem lg_bad {N : List Nd} {V : List Dv} (h0 : netE N V = 0) (hv : 1 ≤ V.length) {c : Nat} (hc : c = 0 ∨ 32 < c) : parseM N V (joinW (lgW V c)) = (ms0, 2) := by
  have hw := words_join (fun w hw => (lgW_words h0 hv c w hw).1)
  have hl := lgW_len V c
  unfold parseM
  rw [if_neg (by rw [h0]; decide), hw]
  unfold parseW readW
  rw [if_pos (by rcases hc with h | h; exact .inl (by omega); exact .inr (.inr (.inl (by omega))))]
theorem lg_good {N : List Nd} {V : List Dv} (h0 : netE N V = 0) (hv : 1 ≤ V.length) {c : Nat} (h1 : 1 ≤ c) (h2 : c ≤ 32) : printM N V (lgM V.length c) = (strL (joinW (lgW V c)), 0) ∧ parseM N V (joinW (lgW V c)) = (lgM V.length c, 0) := by
  have ok := lg_ok hv h1 h2
  exact ⟨print_ok h0 ok, parse_msg (msgE_iff.2 ⟨h0, ok⟩) (words_msg h0 ok)⟩
set_option maxHeartbeats 8000000 in
theorem long_law (u : Int) (l : List Int) (hu0 : 0 ≤ u) (hu1 : u ≤ 255) (hG : GCls G) (hP : GPow G) : ACalls Tryd.prog G 3 [.v (.int .u8 u), .sl 1 (l.map iv)] [] (.v (.bool true)) [] := by
  have h35 : u.tmod 35 = u % 35 := Int.tmod_eq_emod_of_nonneg hu0
  obtain ⟨c, hc⟩ : ∃ c : Nat, u % 35 = (c : Int) := ⟨(u % 35).toNat, by omega⟩
  have hc34 : c ≤ 34 := by omega
  refine acalls_of tbOk (enter_of Tryd.func3 (by kernel_rfl) rfl) Tryd.func3 rfl _ Tryd.ntmps3 (Nat.le_of_ble_eq_true rfl) fun X hX => ?_
  subst hX
  repeat (first | ((with_reducible refine k_move ?_); refine m_move rfl ?_) | ((with_reducible refine k_assign ?_); refine m_assign rfl ?_)  | refine e_nrm ?_ | refine x_none rfl ?_ | with_reducible refine q_then ?_ | with_reducible refine awp_seq ?_ | ((with_reducible refine w_region ?_ ?_); kernel_rfl))
  refine x_call0 (few_A (l.map iv)) (by repeat' (first | exact trivial | exact Ren.v _ | exact Ren.sl _ _ | exact Ren.ep _ | exact Ren.ptr _ _ _ _ rfl | exact Ren.bs _ _ _ _ _ rfl | exact Ren.nil _ | exact Ren.own _ _ _ _ ⟨_, rfl⟩ | refine ren_ag ?_ | refine ren_tu ?_ | refine ren_fn ?_ | refine ⟨?_, ?_⟩)) (by repeat' (first | exact trivial | exact RenB.v _ | exact RenB.sl _ _ | exact RenB.ep _ | exact RenB.ptr _ _ _ _ rfl | refine renb_ag ?_ | refine renb_tu ?_ | refine ⟨?_, ?_⟩)) ?_
  repeat (first | ((with_reducible refine k_un ?_); refine x_not rfl ?_)  | refine e_nrm ?_ | refine x_none rfl ?_ | with_reducible refine q_then ?_ )
  refine w_cond rfl (fun h => ?_) (fun h => ?_)
  · repeat (first   | refine x_none rfl ?_ | with_reducible refine awp_seq ?_ | ((with_reducible refine w_region ?_ ?_); kernel_rfl))
    refine x_call0 (awake_A hG hP) (by repeat' (first | exact trivial | exact Ren.v _ | exact Ren.sl _ _ | exact Ren.ep _ | exact Ren.ptr _ _ _ _ rfl | exact Ren.bs _ _ _ _ _ rfl | exact Ren.nil _ | exact Ren.own _ _ _ _ ⟨_, rfl⟩ | refine ren_ag ?_ | refine ren_tu ?_ | refine ren_fn ?_ | refine ⟨?_, ?_⟩)) (by repeat' (first | exact trivial | exact RenB.v _ | exact RenB.sl _ _ | exact RenB.ep _ | exact RenB.ptr _ _ _ _ rfl | refine renb_ag ?_ | refine renb_tu ?_ | refine ⟨?_, ?_⟩)) ?_
    repeat (first | ((with_reducible refine k_assign ?_); refine m_assign rfl ?_)  | refine e_nrm ?_ | refine x_none rfl ?_ | with_reducible refine q_then ?_ | with_reducible refine q_then_ret ?_ | with_reducible refine awp_ret ?_ )
    refine ret_v (by first | exact .inr rfl | exact .inl rfl) rfl rfl ?_
    rfl
  have hl : l.length ≤ 400 := by simp at h; omega
  have dk := DkOk.new hl
  have hv := net5_ok dk 6 (nodes := 4) (by decide) (by decide)
  have hvp := net5_pos (dk0 l) 4 (m := 6) (by decide)
  have ok : NwOk (net1 (dk0 l) 4).1 (net5 (dk0 l) 4 6).1 := nw_ok hl (nodes := 4) (m := 6) (by decide) (by decide) (by decide)
  have h0 : netE (net1 (dk0 l) 4).1 (net5 (dk0 l) 4 6).1 = 0 := nw_valid hl (nodes := 4) (m := 6) (by decide) (by decide) (by decide)
  have hnet := network_A (G := X.G) (dk0 l) 4 6 dk (by decide) (by decide) (by decide)
  have hvl := hv.len
  obtain ⟨N, hN⟩ : ∃ N, N = (net1 (dk0 l) 4).1 := ⟨_, rfl⟩
  obtain ⟨V, hV⟩ : ∃ V, V = (net5 (dk0 l) 4 6).1 := ⟨_, rfl⟩
  obtain ⟨E, hE⟩ : ∃ E, E = (net5 (dk0 l) 4 6).2 := ⟨_, rfl⟩
  rw [← hN, ← hV, ← hE] at hnet
  rw [← hN, ← hV] at ok h0
  rw [← hV] at hvp hvl
  have hml : (V.map Dv.av).length = V.length := by simp
  repeat (first | ((with_reducible refine k_move ?_); refine m_move rfl ?_)  | refine x_none rfl ?_ | with_reducible refine q_then ?_ | with_reducible refine awp_seq ?_ | with_reducible refine awp_skip ?_ | ((with_reducible refine w_region ?_ ?_); kernel_rfl))
  refine x_call_new (new_A l) (by repeat' (first | exact trivial | exact Ren.v _ | exact Ren.sl _ _ | exact Ren.ep _ | exact Ren.ptr _ _ _ _ rfl | exact Ren.bs _ _ _ _ _ rfl | exact Ren.nil _ | exact Ren.own _ _ _ _ ⟨_, rfl⟩ | refine ren_ag ?_ | refine ren_tu ?_ | refine ren_fn ?_ | refine ⟨?_, ?_⟩)) ⟨.sl _ _, .v _, .v _, trivial⟩ rfl ?_
  repeat (first   | refine x_none rfl ?_  )
  refine x_call (y := .ag [.sl 3 (N.map Nd.av), .sl 5 (V.map Dv.av)]) (ss := [(19, 1)]) (hnet) (by repeat' (first | exact trivial | exact Ren.v _ | exact Ren.sl _ _ | exact Ren.ep _ | exact Ren.ptr _ _ _ _ rfl | exact Ren.bs _ _ _ _ _ rfl | exact Ren.nil _ | exact Ren.own _ _ _ _ ⟨_, rfl⟩ | refine ren_ag ?_ | refine ren_tu ?_ | refine ren_fn ?_ | refine ⟨?_, ?_⟩)) (by simp) (in1 rfl rfl) rfl (back1 rfl) (by repeat' (first | exact trivial | exact RenB.v _ | exact RenB.sl _ _ | exact RenB.ep _ | exact RenB.ptr _ _ _ _ rfl | refine renb_ag ?_ | refine renb_tu ?_ | refine ⟨?_, ?_⟩)) ?_
  repeat (first | ((with_reducible refine k_move ?_); refine m_move rfl ?_) | ((with_reducible refine k_assign ?_); refine m_assign rfl ?_) | ((with_reducible refine k_store ?_); refine m_store tbOk rfl rfl rfl rfl rfl rfl rfl (Nat.le_of_ble_eq_true rfl) rfl ?_) | ((with_reducible refine k_alloc ?_); refine x_alloc tbOk rfl rfl ?_) | ((with_reducible refine k_build ?_); refine m_build tbOk rfl rfl rfl rfl rfl ?_) | ((with_reducible refine k_convert ?_); refine x_conv_in tbOk rfl rfl rfl (by first | assumption | exact wrap_u64_in (by omega) | exact wrap_i64_in (by omega) | exact wrap_u8_in (by omega)) ?_) | ((with_reducible refine k_bin ?_); refine x_rem rfl rfl (by first | decide | assumption | omega) ?_)  | refine e_nrm ?_ | refine x_none rfl ?_ | with_reducible refine q_then ?_ | with_reducible refine awp_seq ?_ | with_reducible refine awp_block ?_ | ((with_reducible refine w_region ?_ ?_); kernel_rfl))
  rw [h35, hc]
  repeat (first | fail    )
  refine awp_own_at (s := 42) 36 5 [] [(7, [.v (.string lgC), .v (.int .i64 7), .own 42 1])] rfl trivial ⟨⟨_, _, rfl, .same (.same (.hit .nil))⟩, trivial⟩ ?_
  refine awp_loop (ι := Nat) (fun k => k ≤ c) (fun k => c - k) (fun v k => [(5, .ptr 5 (v 5) 0), (6, .v (.int .i64 (c : Nat))), (7, .ptr 7 (v 7) 0), (8, .v (.string (strL (joinW (lgW V k))))), (9, .v (.int .i64 (k : Nat)))]) (fun v k => [(5, .box [.sl 3 (N.map Nd.av), .sl 5 (V.map Dv.av)]), (7, .box [.v (.string lgC), .v (.int .i64 7), .own 42 (v 42)]), (42, .buf 36 5 ((lgL V.length k).map Rp.av))]) ?_ ?_
  · exact ⟨0, Nat.zero_le _, trivial, ⟨rfl, rfl, rfl, congrArg (fun s => AV.v (.string s)) lg7.symm, rfl, trivial⟩, ⟨rfl, rfl, rfl, trivial⟩⟩
  rintro v k hk
  have hjl := lgJ_len h0 hvp (c := k) (by omega)
  have hjs : (strL (joinW (lgW V k))).size = (joinW (lgW V k)).length := strL_size _
  repeat (first | ((with_reducible refine k_move ?_); refine m_move rfl ?_) | ((with_reducible refine k_bin ?_); refine m_binI rfl rfl rfl ?_)  | refine e_nrm ?_ | refine x_none rfl ?_ | with_reducible refine q_then ?_ | with_reducible refine awp_seq ?_ | ((with_reducible refine w_region ?_ ?_); kernel_rfl))
  refine w_cond rfl (fun h => ?_) (fun h => ?_)
  · have hlt : k < c := by simp at h; omega
    obtain ⟨x, hx⟩ := some_at (L := V) (k := k % V.length) (Nat.mod_lt _ hvp)
    have hxs := (name_sp ((net_names h0).1 x (List.mem_of_getElem? hx))).2.2
    rw [← nsz] at hxs
    have t1 : ((k : Int).tmod ((V.map Dv.av).length : Int)) = ((k % V.length : Nat) : Int) := by
      rw [hml, Int.tmod_eq_emod_of_nonneg (by omega)]; omega
    have t2 : ((k : Int).tmod 2) = ((k % 2 : Nat) : Int) := by
      rw [Int.tmod_eq_emod_of_nonneg (by omega)]; omega
    have hz : (V.map Dv.av)[((k : Int).tmod ((V.map Dv.av).length : Int)).toNat]? = some x.av := by
      rw [t1, Int.toNat_natCast]; exact dv_at' hx
    have hnn : 0 ≤ (k : Int).tmod ((V.map Dv.av).length : Int) := by rw [t1]; omega
    have hb2 : k % 2 < 2 := Nat.mod_lt _ (by decide)
    have hn2 : 0 ≤ (k : Int).tmod 2 := by rw [t2]; omega
    have hn3 : (k : Int).tmod 2 ≤ 1 := by rw [t2]; omega
    have hne : ((V.map Dv.av).length : Int) ≠ 0 := by rw [hml]; omega
    have hS := lgJ_succ hx
    have hlen := lgL_len V.length k
    have hw2 : ([AV.v (.string ⟨#[32, 111, 112, 101, 110, 32, 115, 101, 101, 110, 59]⟩), AV.v (.string ⟨#[32, 99, 108, 111, 115, 101, 100, 32, 115, 101, 101, 110, 59]⟩)] : List AV)[((k : Int).tmod 2).toNat]? = some (.v (.string (strL (if k % 2 = 0 then 32 :: openL ++ 32 :: seenL else 32 :: closedL ++ 32 :: seenL)))) := by
      rw [t2, Int.toNat_natCast]
      rcases (by omega : k % 2 = 0 ∨ k % 2 = 1) with e | e <;> rw [e] <;> rfl
    obtain ⟨q, hq⟩ : ∃ q, q = strL (if k % 2 = 0 then 32 :: openL ++ 32 :: seenL else 32 :: closedL ++ 32 :: seenL) := ⟨_, rfl⟩
    rw [← hq] at hw2 hS
    have hqs : q.size ≤ 100 := by rw [hq]; split <;> decide
    obtain ⟨S, hSe⟩ : ∃ S, S = strL (joinW (lgW V k)) := ⟨_, rfl⟩
    rw [← hSe] at hS hjs ⊢
    repeat (first | ((with_reducible refine k_move ?_); refine m_move rfl ?_) | ((with_reducible refine k_fieldAddr ?_); refine x_fieldAddr_ptr tbOk rfl rfl rfl rfl ?_) | ((with_reducible refine k_load ?_); refine x_load_one tbOk rfl rfl rfl rfl rfl ?_) | ((with_reducible refine k_build ?_); refine m_build tbOk rfl rfl rfl rfl rfl ?_) | ((with_reducible refine k_call ?_); refine x_len tbOk rfl rfl ?_) | ((with_reducible refine k_bin ?_); refine x_add_in rfl rfl (by omega) ?_) | ((with_reducible refine k_bin ?_); refine x_rem rfl rfl (by first | decide | assumption | omega) ?_) | ((with_reducible refine k_buildSlice ?_); refine m_buildSlice tbOk rfl rfl rfl rfl rfl (by omega) rfl rfl rfl ?_) | refine x_none rfl ?_ | with_reducible refine q_then ?_ | with_reducible refine awp_seq ?_ | with_reducible refine awp_block ?_ | with_reducible refine awp_skip ?_ | ((with_reducible refine w_draw mixd ?_ ?_); kernel_rfl))
    refine x_append_own tbOk rfl rfl rfl rfl rfl (by decide) rfl rfl rfl rfl rfl (fun x hx => by simp at hx; subst hx; rfl) (by simp only [List.length_map, List.length_cons, List.length_nil]; omega) (by simp only [List.length_map, List.length_cons, List.length_nil]; omega) ?_
    repeat (first | ((with_reducible refine k_move ?_); refine m_move rfl ?_) | ((with_reducible refine k_fieldAddr ?_); refine x_fieldAddr_ptr tbOk rfl rfl rfl rfl ?_) | ((with_reducible refine k_fieldAddr ?_); refine x_fieldAddr_ep tbOk rfl rfl rfl rfl ?_) | ((with_reducible refine k_load ?_); refine x_load_one tbOk rfl rfl rfl rfl rfl ?_) | ((with_reducible refine k_load ?_); refine x_load_ep_one tbOk rfl rfl rfl ?_) | ((with_reducible refine k_store ?_); refine m_store tbOk rfl rfl rfl rfl rfl rfl rfl (Nat.le_of_ble_eq_true rfl) rfl ?_) | ((with_reducible refine k_indexAddr ?_); refine x_indexAddr_n tbOk rfl rfl rfl rfl (by assumption) ?_) | ((with_reducible refine k_call ?_); refine x_len tbOk rfl rfl ?_) | ((with_reducible refine k_bin ?_); refine x_rem rfl rfl (by first | decide | assumption | omega) ?_)  | refine e_drw (by kernel_rfl) ?_ | refine x_none rfl ?_ | with_reducible refine q_then ?_ | ((with_reducible refine w_draw mixd ?_ ?_); kernel_rfl))
    with_reducible refine k_bin ?_
    refine x_add_s rfl rfl (by show 1 + x.n.size ≤ _; omega) ?_
    repeat (first | ((with_reducible refine k_move ?_); refine m_move rfl ?_) | ((with_reducible refine k_load ?_); refine x_load_ep_one tbOk rfl rfl rfl ?_) | ((with_reducible refine k_indexAddr ?_); refine x_indexAddr_n tbOk rfl rfl rfl rfl (by assumption) ?_) | ((with_reducible refine k_bin ?_); refine x_rem rfl rfl (by first | decide | assumption | omega) ?_) | ((with_reducible refine k_buildSlice ?_); refine m_buildSlice tbOk rfl rfl rfl rfl rfl (by omega) rfl rfl rfl ?_) | refine x_none rfl ?_  )
    with_reducible refine k_bin ?_
    refine x_add_s rfl rfl (by rw [ByteArray.size_append]; show 1 + x.n.size + q.size ≤ _; omega) ?_
    repeat (first   | refine x_none rfl ?_  )
    with_reducible refine k_bin ?_
    refine x_add_s rfl rfl (by rw [ByteArray.size_append, ByteArray.size_append]; show S.size + (1 + x.n.size + q.size) ≤ _; omega) ?_
    repeat (first | ((with_reducible refine k_move ?_); refine m_move rfl ?_) | ((with_reducible refine k_assign ?_); refine m_assign rfl ?_) | ((with_reducible refine k_bin ?_); refine x_add_in rfl rfl (by omega) ?_)  | refine e_nrm ?_ | refine e_drw (by kernel_rfl) ?_ | refine x_none rfl ?_ | with_reducible refine q_then ?_ | with_reducible refine q_block ?_ | ((with_reducible refine w_region ?_ ?_); kernel_rfl))
    refine ⟨k + 1, by omega, by omega, ⟨rfl, rfl, rfl, congrArg (fun s => AV.v (.string s)) hS.symm, rfl, trivial⟩, ⟨rfl, rfl, hc_buf ?_, trivial⟩⟩
    rw [lgL_succ, List.map_append, t1, t2]; rfl
  obtain rfl : k = c := by simp at h; omega
  have hlen := lgL_len V.length k
  refine awp_freeze_at (s := 42) [] [(7, [.v (.string lgC), .v (.int .i64 7), .sl 5 ((lgL V.length k).map Rp.av)])] rfl trivial ⟨⟨_, _, rfl, .same (.same (.hit .nil))⟩, trivial⟩ ?_
  have hp := fprint_A (G := X.G) N V (lgM V.length k) hG hP ok (by show lgC.size ≤ maxLen; decide) (by show (lgL V.length k).length ≤ maxLen; unfold maxLen; omega)
  have hpa := fparse_A (G := X.G) N V (strL (joinW (lgW V k))) hG ok (by omega)
  rw [strL_data] at hpa
  by_cases hbad : k = 0 ∨ 32 < k
  · rw [lg_bad h0 hvp hbad] at hpa
    have hem : strEq ByteArray.empty ⟨#[]⟩ = true := strEq_iff.2 rfl
    rcases hbad with hk0 | hk9
    · rw [show printM N V (lgM V.length k) = (ByteArray.empty, 16) by rw [hk0]; exact lg_print0 h0] at hp
      repeat (first | ((with_reducible refine k_load ?_); refine x_load_agg tbOk rfl rfl rfl rfl (Nat.le_of_ble_eq_true rfl) ?_)  | refine x_none rfl ?_ | with_reducible refine q_then ?_ | with_reducible refine q_then_exit ?_ | with_reducible refine awp_seq ?_ | with_reducible refine awp_exit ?_ | ((with_reducible refine q_block_exit ?_ ?_); rfl) | ((with_reducible refine w_region ?_ ?_); kernel_rfl))
      refine x_call0 (hp) (by repeat' (first | exact trivial | exact Ren.v _ | exact Ren.sl _ _ | exact Ren.ep _ | exact Ren.ptr _ _ _ _ rfl | exact Ren.bs _ _ _ _ _ rfl | exact Ren.nil _ | exact Ren.own _ _ _ _ ⟨_, rfl⟩ | refine ren_ag ?_ | refine ren_tu ?_ | refine ren_fn ?_ | refine ⟨?_, ?_⟩)) (by repeat' (first | exact trivial | exact RenB.v _ | exact RenB.sl _ _ | exact RenB.ep _ | exact RenB.ptr _ _ _ _ rfl | refine renb_ag ?_ | refine renb_tu ?_ | refine ⟨?_, ?_⟩)) ?_
      repeat (first | ((with_reducible refine k_move ?_); refine m_move rfl ?_) | ((with_reducible refine k_assign ?_); refine m_assign rfl ?_) | ((with_reducible refine k_load ?_); refine x_load_agg tbOk rfl rfl rfl rfl (Nat.le_of_ble_eq_true rfl) ?_) | ((with_reducible refine k_extract ?_); refine x_extract rfl rfl ?_)  | refine e_nrm ?_ | refine x_none rfl ?_ | with_reducible refine q_then ?_ | with_reducible refine awp_seq ?_ | ((with_reducible refine w_region ?_ ?_); kernel_rfl))
      refine x_call0 (hpa) (by repeat' (first | exact trivial | exact Ren.v _ | exact Ren.sl _ _ | exact Ren.ep _ | exact Ren.ptr _ _ _ _ rfl | exact Ren.bs _ _ _ _ _ rfl | exact Ren.nil _ | exact Ren.own _ _ _ _ ⟨_, rfl⟩ | refine ren_ag ?_ | refine ren_tu ?_ | refine ren_fn ?_ | refine ⟨?_, ?_⟩)) (by repeat' (first | exact trivial | exact RenB.v _ | exact RenB.sl _ _ | exact RenB.ep _ | exact RenB.ptr _ _ _ _ rfl | refine renb_ag ?_ | refine renb_tu ?_ | refine ⟨?_, ?_⟩)) ?_
      repeat (first | ((with_reducible refine k_move ?_); refine m_move rfl ?_) | ((with_reducible refine k_assign ?_); refine m_assign rfl ?_) | ((with_reducible refine k_store ?_); refine m_store tbOk rfl rfl rfl rfl rfl rfl rfl (Nat.le_of_ble_eq_true rfl) rfl ?_) | ((with_reducible refine k_alloc ?_); refine x_alloc tbOk rfl rfl ?_) | ((with_reducible refine k_extract ?_); refine x_extract rfl rfl ?_) | ((with_reducible refine k_bin ?_); refine m_binI rfl rfl rfl ?_)  | refine e_nrm ?_ | refine x_none rfl ?_ | with_reducible refine q_then ?_ | with_reducible refine awp_seq ?_ | ((with_reducible refine w_region ?_ ?_); kernel_rfl))
      refine x_split rfl rfl (fun b1 => ?_) (fun b1 => (by exfalso; simp at b1; omega))
      repeat (first | ((with_reducible refine k_move ?_); refine m_move rfl ?_) | ((with_reducible refine k_pick ?_); refine m_pickt rfl (by first | rfl | assumption) rfl ?_) | ((with_reducible refine k_bin ?_); refine m_binI rfl rfl rfl ?_) | ((with_reducible refine k_bin ?_); refine m_binS rfl rfl rfl ?_)  | refine e_nrm ?_ | refine x_none rfl ?_ | refine x_run_t rfl rfl (by first | rfl | assumption) ?_ | refine x_skip_f rfl rfl (by first | rfl | assumption) ?_ | with_reducible refine q_then ?_ | with_reducible refine awp_seq ?_ | ((with_reducible refine w_region ?_ ?_); kernel_rfl) | refine w_cond_t rfl (by first | rfl | assumption) ?_)
      refine x_call0 (awake_A hG hP) (by repeat' (first | exact trivial | exact Ren.v _ | exact Ren.sl _ _ | exact Ren.ep _ | exact Ren.ptr _ _ _ _ rfl | exact Ren.bs _ _ _ _ _ rfl | exact Ren.nil _ | exact Ren.own _ _ _ _ ⟨_, rfl⟩ | refine ren_ag ?_ | refine ren_tu ?_ | refine ren_fn ?_ | refine ⟨?_, ?_⟩)) (by repeat' (first | exact trivial | exact RenB.v _ | exact RenB.sl _ _ | exact RenB.ep _ | exact RenB.ptr _ _ _ _ rfl | refine renb_ag ?_ | refine renb_tu ?_ | refine ⟨?_, ?_⟩)) ?_
      repeat (first | ((with_reducible refine k_assign ?_); refine m_assign rfl ?_) | ((with_reducible refine k_pick ?_); refine m_pickt rfl (by first | rfl | assumption) rfl ?_)  | refine e_nrm ?_ | refine x_none rfl ?_ | with_reducible refine q_then ?_ | with_reducible refine q_then_ret ?_ | with_reducible refine awp_ret ?_ )
      refine ret_v (by first | exact .inr rfl | exact .inl rfl) rfl rfl ?_
      rfl
    · rw [lg_print9 h0 hk9] at hp
      repeat (first | ((with_reducible refine k_load ?_); refine x_load_agg tbOk rfl rfl rfl rfl (Nat.le_of_ble_eq_true rfl) ?_)  | refine x_none rfl ?_ | with_reducible refine q_then ?_ | with_reducible refine q_then_exit ?_ | with_reducible refine awp_seq ?_ | with_reducible refine awp_exit ?_ | ((with_reducible refine q_block_exit ?_ ?_); rfl) | ((with_reducible refine w_region ?_ ?_); kernel_rfl))
      refine x_call0 (hp) (by repeat' (first | exact trivial | exact Ren.v _ | exact Ren.sl _ _ | exact Ren.ep _ | exact Ren.ptr _ _ _ _ rfl | exact Ren.bs _ _ _ _ _ rfl | exact Ren.nil _ | exact Ren.own _ _ _ _ ⟨_, rfl⟩ | refine ren_ag ?_ | refine ren_tu ?_ | refine ren_fn ?_ | refine ⟨?_, ?_⟩)) (by repeat' (first | exact trivial | exact RenB.v _ | exact RenB.sl _ _ | exact RenB.ep _ | exact RenB.ptr _ _ _ _ rfl | refine renb_ag ?_ | refine renb_tu ?_ | refine ⟨?_, ?_⟩)) ?_
      repeat (first | ((with_reducible refine k_move ?_); refine m_move rfl ?_) | ((with_reducible refine k_assign ?_); refine m_assign rfl ?_) | ((with_reducible refine k_load ?_); refine x_load_agg tbOk rfl rfl rfl rfl (Nat.le_of_ble_eq_true rfl) ?_) | ((with_reducible refine k_extract ?_); refine x_extract rfl rfl ?_)  | refine e_nrm ?_ | refine x_none rfl ?_ | with_reducible refine q_then ?_ | with_reducible refine awp_seq ?_ | ((with_reducible refine w_region ?_ ?_); kernel_rfl))
      refine x_call0 (hpa) (by repeat' (first | exact trivial | exact Ren.v _ | exact Ren.sl _ _ | exact Ren.ep _ | exact Ren.ptr _ _ _ _ rfl | exact Ren.bs _ _ _ _ _ rfl | exact Ren.nil _ | exact Ren.own _ _ _ _ ⟨_, rfl⟩ | refine ren_ag ?_ | refine ren_tu ?_ | refine ren_fn ?_ | refine ⟨?_, ?_⟩)) (by repeat' (first | exact trivial | exact RenB.v _ | exact RenB.sl _ _ | exact RenB.ep _ | exact RenB.ptr _ _ _ _ rfl | refine renb_ag ?_ | refine renb_tu ?_ | refine ⟨?_, ?_⟩)) ?_
      repeat (first | ((with_reducible refine k_move ?_); refine m_move rfl ?_) | ((with_reducible refine k_assign ?_); refine m_assign rfl ?_) | ((with_reducible refine k_store ?_); refine m_store tbOk rfl rfl rfl rfl rfl rfl rfl (Nat.le_of_ble_eq_true rfl) rfl ?_) | ((with_reducible refine k_alloc ?_); refine x_alloc tbOk rfl rfl ?_) | ((with_reducible refine k_extract ?_); refine x_extract rfl rfl ?_) | ((with_reducible refine k_bin ?_); refine m_binI rfl rfl rfl ?_)  | refine e_nrm ?_ | refine x_none rfl ?_ | with_reducible refine q_then ?_ | with_reducible refine awp_seq ?_ | ((with_reducible refine w_region ?_ ?_); kernel_rfl))
      refine x_split rfl rfl (fun b1 => (by exfalso; simp at b1; omega)) (fun b1 => ?_)
      repeat (first | ((with_reducible refine k_move ?_); refine m_move rfl ?_) | ((with_reducible refine k_pick ?_); refine m_pickf rfl (by first | rfl | assumption) rfl ?_) | ((with_reducible refine k_bin ?_); refine m_binI rfl rfl rfl ?_)  | refine e_nrm ?_ | refine x_none rfl ?_ | refine x_run_f rfl rfl (by first | rfl | assumption) ?_ | with_reducible refine q_then ?_ )
      refine w_cond rfl (fun b2 => ?_) (fun b2 => (by exfalso; simp at b2; omega))
      repeat (first | ((with_reducible refine k_move ?_); refine m_move rfl ?_) | ((with_reducible refine k_pick ?_); refine m_pickt rfl (by first | rfl | assumption) rfl ?_) | ((with_reducible refine k_pick ?_); refine m_pickf rfl (by first | rfl | assumption) rfl ?_) | ((with_reducible refine k_bin ?_); refine m_binI rfl rfl rfl ?_) | ((with_reducible refine k_bin ?_); refine m_binS rfl rfl rfl ?_)  | refine x_none rfl ?_ | refine x_run_t rfl rfl (by first | rfl | assumption) ?_ | refine x_run_f rfl rfl (by first | rfl | assumption) ?_ | with_reducible refine awp_seq ?_ | ((with_reducible refine w_region ?_ ?_); kernel_rfl))
      refine x_call0 (awake_A hG hP) (by repeat' (first | exact trivial | exact Ren.v _ | exact Ren.sl _ _ | exact Ren.ep _ | exact Ren.ptr _ _ _ _ rfl | exact Ren.bs _ _ _ _ _ rfl | exact Ren.nil _ | exact Ren.own _ _ _ _ ⟨_, rfl⟩ | refine ren_ag ?_ | refine ren_tu ?_ | refine ren_fn ?_ | refine ⟨?_, ?_⟩)) (by repeat' (first | exact trivial | exact RenB.v _ | exact RenB.sl _ _ | exact RenB.ep _ | exact RenB.ptr _ _ _ _ rfl | refine renb_ag ?_ | refine renb_tu ?_ | refine ⟨?_, ?_⟩)) ?_
      repeat (first | ((with_reducible refine k_assign ?_); refine m_assign rfl ?_) | ((with_reducible refine k_pick ?_); refine m_pickt rfl (by first | rfl | assumption) rfl ?_)  | refine e_nrm ?_ | refine x_none rfl ?_ | with_reducible refine q_then ?_ | with_reducible refine q_then_ret ?_ | with_reducible refine awp_ret ?_ )
      refine ret_v (by first | exact .inr rfl | exact .inl rfl) rfl rfl ?_
      rfl
  · obtain ⟨g1, g2⟩ := lg_good h0 hvp (c := k) (by omega) (by omega)
    rw [g1] at hp
    rw [g2] at hpa
    have hf2 := frsame_A (G := X.G) (lgM V.length k) (lgM V.length k) (by show (lgL V.length k).length ≤ maxLen; unfold maxLen; omega) (by show (lgL V.length k).length ≤ maxLen; unfold maxLen; omega)
    rw [sameB_refl] at hf2
    have hu : strEq (strL (joinW (lgW V k))) (strL (joinW (lgW V k))) = true := strEq_iff.2 rfl
    have hrn := rnet_A (G := X.G) N V ok.n ok.v ok.l1 ok.l2
    rw [h0] at hrn
    repeat (first | ((with_reducible refine k_load ?_); refine x_load_agg tbOk rfl rfl rfl rfl (Nat.le_of_ble_eq_true rfl) ?_)  | refine x_none rfl ?_ | with_reducible refine q_then ?_ | with_reducible refine q_then_exit ?_ | with_reducible refine awp_seq ?_ | with_reducible refine awp_exit ?_ | ((with_reducible refine q_block_exit ?_ ?_); rfl) | ((with_reducible refine w_region ?_ ?_); kernel_rfl))
    refine x_call0 (hp) (by repeat' (first | exact trivial | exact Ren.v _ | exact Ren.sl _ _ | exact Ren.ep _ | exact Ren.ptr _ _ _ _ rfl | exact Ren.bs _ _ _ _ _ rfl | exact Ren.nil _ | exact Ren.own _ _ _ _ ⟨_, rfl⟩ | refine ren_ag ?_ | refine ren_tu ?_ | refine ren_fn ?_ | refine ⟨?_, ?_⟩)) (by repeat' (first | exact trivial | exact RenB.v _ | exact RenB.sl _ _ | exact RenB.ep _ | exact RenB.ptr _ _ _ _ rfl | refine renb_ag ?_ | refine renb_tu ?_ | refine ⟨?_, ?_⟩)) ?_
    repeat (first | ((with_reducible refine k_move ?_); refine m_move rfl ?_) | ((with_reducible refine k_assign ?_); refine m_assign rfl ?_) | ((with_reducible refine k_load ?_); refine x_load_agg tbOk rfl rfl rfl rfl (Nat.le_of_ble_eq_true rfl) ?_) | ((with_reducible refine k_extract ?_); refine x_extract rfl rfl ?_)  | refine e_nrm ?_ | refine x_none rfl ?_ | with_reducible refine q_then ?_ | with_reducible refine awp_seq ?_ | ((with_reducible refine w_region ?_ ?_); kernel_rfl))
    refine x_call0 (hpa) (by repeat' (first | exact trivial | exact Ren.v _ | exact Ren.sl _ _ | exact Ren.ep _ | exact Ren.ptr _ _ _ _ rfl | exact Ren.bs _ _ _ _ _ rfl | exact Ren.nil _ | exact Ren.own _ _ _ _ ⟨_, rfl⟩ | refine ren_ag ?_ | refine ren_tu ?_ | refine ren_fn ?_ | refine ⟨?_, ?_⟩)) (by repeat' (first | exact trivial | exact RenB.v _ | exact RenB.sl _ _ | exact RenB.ep _ | exact RenB.ptr _ _ _ _ rfl | refine renb_ag ?_ | refine renb_tu ?_ | refine ⟨?_, ?_⟩)) ?_
    repeat (first | ((with_reducible refine k_move ?_); refine m_move rfl ?_) | ((with_reducible refine k_assign ?_); refine m_assign rfl ?_) | ((with_reducible refine k_store ?_); refine m_store tbOk rfl rfl rfl rfl rfl rfl rfl (Nat.le_of_ble_eq_true rfl) rfl ?_) | ((with_reducible refine k_alloc ?_); refine x_alloc tbOk rfl rfl ?_) | ((with_reducible refine k_extract ?_); refine x_extract rfl rfl ?_) | ((with_reducible refine k_bin ?_); refine m_binI rfl rfl rfl ?_)  | refine e_nrm ?_ | refine x_none rfl ?_ | with_reducible refine q_then ?_ | with_reducible refine awp_seq ?_ | ((with_reducible refine w_region ?_ ?_); kernel_rfl))
    refine x_split rfl rfl (fun b1 => (by exfalso; simp at b1; omega)) (fun b1 => ?_)
    repeat (first | ((with_reducible refine k_move ?_); refine m_move rfl ?_) | ((with_reducible refine k_pick ?_); refine m_pickf rfl (by first | rfl | assumption) rfl ?_) | ((with_reducible refine k_bin ?_); refine m_binI rfl rfl rfl ?_)  | refine e_nrm ?_ | refine x_none rfl ?_ | refine x_run_f rfl rfl (by first | rfl | assumption) ?_ | with_reducible refine q_then ?_ )
    refine w_cond rfl (fun b2 => (by exfalso; simp at b2; omega)) (fun b2 => ?_)
    repeat (first | ((with_reducible refine k_move ?_); refine m_move rfl ?_) | ((with_reducible refine k_load ?_); refine x_load_agg tbOk rfl rfl rfl rfl (Nat.le_of_ble_eq_true rfl) ?_) | ((with_reducible refine k_pick ?_); refine m_pickt rfl (by first | rfl | assumption) rfl ?_) | ((with_reducible refine k_bin ?_); refine m_binI rfl rfl rfl ?_) | ((with_reducible refine k_bin ?_); refine m_binS rfl rfl rfl ?_)  | refine x_none rfl ?_ | refine x_run_t rfl rfl (by first | rfl | assumption) ?_ | with_reducible refine q_then ?_ | with_reducible refine awp_seq ?_ | with_reducible refine awp_skip ?_ | ((with_reducible refine w_region ?_ ?_); kernel_rfl))
    refine x_call0 (hf2) (by repeat' (first | exact trivial | exact Ren.v _ | exact Ren.sl _ _ | exact Ren.ep _ | exact Ren.ptr _ _ _ _ rfl | exact Ren.bs _ _ _ _ _ rfl | exact Ren.nil _ | exact Ren.own _ _ _ _ ⟨_, rfl⟩ | refine ren_ag ?_ | refine ren_tu ?_ | refine ren_fn ?_ | refine ⟨?_, ?_⟩)) (by repeat' (first | exact trivial | exact RenB.v _ | exact RenB.sl _ _ | exact RenB.ep _ | exact RenB.ptr _ _ _ _ rfl | refine renb_ag ?_ | refine renb_tu ?_ | refine ⟨?_, ?_⟩)) ?_
    repeat (first | ((with_reducible refine k_move ?_); refine m_move rfl ?_) | ((with_reducible refine k_load ?_); refine x_load_agg tbOk rfl rfl rfl rfl (Nat.le_of_ble_eq_true rfl) ?_) | ((with_reducible refine k_pick ?_); refine m_pickt rfl (by first | rfl | assumption) rfl ?_)  | refine x_none rfl ?_ | refine x_run_t rfl rfl (by first | rfl | assumption) ?_  )
    refine x_call0 (hrn) (by repeat' (first | exact trivial | exact Ren.v _ | exact Ren.sl _ _ | exact Ren.ep _ | exact Ren.ptr _ _ _ _ rfl | exact Ren.bs _ _ _ _ _ rfl | exact Ren.nil _ | exact Ren.own _ _ _ _ ⟨_, rfl⟩ | refine ren_ag ?_ | refine ren_tu ?_ | refine ren_fn ?_ | refine ⟨?_, ?_⟩)) (by repeat' (first | exact trivial | exact RenB.v _ | exact RenB.sl _ _ | exact RenB.ep _ | exact RenB.ptr _ _ _ _ rfl | refine renb_ag ?_ | refine renb_tu ?_ | refine ⟨?_, ?_⟩)) ?_
    repeat (first | ((with_reducible refine k_move ?_); refine m_move rfl ?_) | ((with_reducible refine k_pick ?_); refine m_pickt rfl (by first | rfl | assumption) rfl ?_) | ((with_reducible refine k_bin ?_); refine m_binI rfl rfl rfl ?_)  | refine x_none rfl ?_ | refine x_run_t rfl rfl (by first | rfl | assumption) ?_  )
    refine x_call0 (awake_A hG hP) (by repeat' (first | exact trivial | exact Ren.v _ | exact Ren.sl _ _ | exact Ren.ep _ | exact Ren.ptr _ _ _ _ rfl | exact Ren.bs _ _ _ _ _ rfl | exact Ren.nil _ | exact Ren.own _ _ _ _ ⟨_, rfl⟩ | refine ren_ag ?_ | refine ren_tu ?_ | refine ren_fn ?_ | refine ⟨?_, ?_⟩)) (by repeat' (first | exact trivial | exact RenB.v _ | exact RenB.sl _ _ | exact RenB.ep _ | exact RenB.ptr _ _ _ _ rfl | refine renb_ag ?_ | refine renb_tu ?_ | refine ⟨?_, ?_⟩)) ?_
    repeat (first | ((with_reducible refine k_assign ?_); refine m_assign rfl ?_) | ((with_reducible refine k_pick ?_); refine m_pickt rfl (by first | rfl | assumption) rfl ?_)  | refine e_nrm ?_ | refine x_none rfl ?_ | with_reducible refine q_then ?_ | with_reducible refine awp_ret ?_ )
    refine ret_v (by first | exact .inr rfl | exact .inl rfl) rfl rfl ?_
    rfl
end Go.Proofs.YtgpglcccjkpmdaaDoor
