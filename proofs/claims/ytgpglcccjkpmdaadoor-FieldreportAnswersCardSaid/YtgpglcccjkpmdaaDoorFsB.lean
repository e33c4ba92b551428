/- permitofficelaw10.FieldreportReturns, by the abstract machine: it answers true for all lists; conditions: the tables of classes and powers stand. -/
import Derived.Test.YtgpglcccjkpmdaaDoorFsA
set_option linter.unusedVariables false
set_option linter.unusedSimpArgs false
namespace Go.Proofs.YtgpglcccjkpmdaaDoor
open Go Go.RowKit
set_option maxRecDepth 10000
variable {G : Nat → Option (List Value)}
theorem wl_dup : ∀ (l cur r : List UInt8), wl cur (l ++ 32 :: 32 :: r) = wl cur (l ++ 32 :: r)
  | [], cur, r => by
    show wl cur (32 :: 32 :: r) = wl cur (32 :: r)
    simp [wl]
  | c :: l, cur, r => by
    show wl cur (c :: (l ++ 32 :: 32 :: r)) = wl cur (c :: (l ++ 32 :: r))
    rw [wl, wl, wl_dup l [] r, wl_dup l (cur ++ [c]) r]
theorem wl_end : ∀ (l cur : List UInt8), wl cur (l ++ [32]) = wl cur l
  | [], cur => by
    show wl cur [32] = wl cur []
    simp [wl]
  | c :: l, cur => by
    show wl cur (c :: (l ++ [32])) = wl cur (c :: l)
    rw [wl, wl, wl_end l [], wl_end l (cur ++ [c])]
/-- A text with more spaces behind its spaces, as the deck wants it. -/
def wdS (D : Dk) (w : List UInt8) (c : UInt8) : List UInt8 × Dk := if c = 32 then (if D.val 2 = 0 then (w ++ [c] ++ [32, 32], D.next) else (w ++ [c], D.next)) else (w ++ [c], D)
def wdN (L : List UInt8) (D : Dk) : Nat → List UInt8 × Dk
  | 0 => ([], D)
  | i + 1 => wdS (wdN L D i).2 (wdN L D i).1 ((L[i]?).getD 0)
theorem wdN_ok {L : List UInt8} {D : Dk} (h : DkOk D) : ∀ i, DkOk (wdN L D i).2
  | 0 => h
  | i + 1 => by
    have := wdN_ok h (L := L) i
    rw [wdN]
    unfold wdS
    split
    · split <;> exact this.next
    · exact this
theorem wdN_len (L : List UInt8) (D : Dk) : ∀ i, (wdN L D i).1.length ≤ 3 * i
  | 0 => by simp [wdN]
  | i + 1 => by
    have := wdN_len L D i
    rw [wdN]
    unfold wdS
    split
    · split <;> (simp; omega)
    · simp; omega
theorem wdN_words (L : List UInt8) (D : Dk) : ∀ i, i ≤ L.length → ∀ r, wordsL ((wdN L D i).1 ++ r) = wordsL (L.take i ++ r)
  | 0, _, r => by simp [wdN]
  | i + 1, hi, r => by
    obtain ⟨c, hc⟩ := some_at (L := L) (k := i) (by omega)
    have ih := wdN_words L D i (by omega)
    rw [wdN, take_at hc, hc]
    simp only [Option.getD_some]
    have e1 : wordsL ((wdN L D i).1 ++ [c] ++ r) = wordsL (L.take i ++ [c] ++ r) := by
      rw [List.append_assoc, ih, List.append_assoc]
    unfold wdS
    split
    · rename_i h32
      subst h32
      split
      · have e2 : (wdN L D i).1 ++ [32] ++ [32, 32] ++ r = (wdN L D i).1 ++ (32 :: 32 :: 32 :: r) := by simp
        show wordsL ((wdN L D i).1 ++ [32] ++ [32, 32] ++ r) = _
        rw [e2, ih, List.append_assoc]
        show wl [] (L.take i ++ 32 :: 32 :: 32 :: r) = wl [] (L.take i ++ 32 :: r)
        rw [wl_dup, wl_dup]
      · exact e1
    · exact e1
theorem wide_words (L : List UInt8) (D : Dk) : wordsL (32 :: 32 :: ((wdN L D L.length).1 ++ [32])) = wordsL L := by
  show wl [] (32 :: 32 :: ((wdN L D L.length).1 ++ [32])) = _
  rw [wl_space, wl_space]
  show wordsL ((wdN L D L.length).1 ++ [32]) = _
  rw [wdN_words L D _ (Nat.le_refl _), List.take_length]
  exact wl_end L []
/-- The network of a list of numbers. -/
def nD (l : List Int) (nodes : Int) : List Nd := (net1 (dk0 l) nodes).1
def vD (l : List Int) (nodes : Int) (m : Nat) : List Dv := (net5 (dk0 l) nodes m).1
theorem nw_ok {l : List Int} (h : l.length ≤ 400) {nodes : Int} {m : Nat} (h1 : 1 ≤ nodes) (h2 : nodes ≤ 30) (hm : m ≤ 60) : NwOk (nD l nodes) (vD l nodes m) := by
  have hk := netK_in (dk0 l) h1 (by omega)
  have hN : (nD l nodes).length = netK (dk0 l) nodes := nodesD_len _ _
  have hv := net5_ok (DkOk.new h) m h1 (by omega)
  refine ⟨fun x hx => ?_, fun x hx => ?_, by rw [hN]; unfold maxLen; omega, by have := hv.len; unfold maxLen; show (vD l nodes m).length ≤ _; unfold vD; omega⟩
  · obtain ⟨j, hj⟩ := List.getElem?_of_mem hx
    rw [(nodesD_at _ _ j x hj).1, nmS_size]; decide
  · obtain ⟨j, hj⟩ := List.getElem?_of_mem hx
    rw [(hv.at_ j x hj).nm, nmS_size]; decide
theorem nw_valid {l : List Int} (h : l.length ≤ 400) {nodes : Int} {m : Nat} (h1 : 1 ≤ nodes) (h2 : nodes ≤ 30) (hm : m ≤ 60) : netE (nD l nodes) (vD l nodes m) = 0 := net_valid (DkOk.new h) h1 h2 hm
theorem one_byte (L : List UInt8) {i : Nat} {c : UInt8} (hc : L[i]? = some c) : (strL L).extract i (i + 1) = strL [c] := by
  refine ba_ext2 ?_
  have hlt := lt_at hc
  rw [ba_sub, strL_data, strL_data, take_at hc, List.drop_append_of_le_length (by rw [List.length_take]; omega), List.drop_of_length_le (by rw [List.length_take]; omega)]; rfl
theorem str_app (a b : List UInt8) : strL a ++ strL b = strL (a ++ b) := by
  refine ba_ext2 ?_
  simp [strL]
theorem ms_small {V : List Dv} {M : Ms} (h : MsOk V M) : M.cr.size ≤ maxLen ∧ M.rs.length ≤ maxLen := by
  have h1 := (name_sp h.cr).2.2
  rw [← nsz] at h1
  have h2 := h.l2
  unfold maxLen
  omega
theorem print_ok {N : List Nd} {V : List Dv} {M : Ms} (h0 : netE N V = 0) (h : MsOk V M) : printM N V M = (strL (joinW (msgW V M)), 0) := by
  unfold printM
  rw [if_neg (by rw [msgE_iff.2 ⟨h0, h⟩]; decide)]
  rfl
set_option maxHeartbeats 8000000 in
theorem returns_law (l : List Int) (hG : GCls G) (hP : GPow G) : ACalls Tryd.prog G 5 [.sl 1 (l.map iv)] [] (.v (.bool true)) [] := by
  refine acalls_of tbOk (enter_of Tryd.func5 (by kernel_rfl) rfl) Tryd.func5 rfl _ Tryd.ntmps5 (Nat.le_of_ble_eq_true rfl) fun X hX => ?_
  subst hX
  repeat (first | ((with_reducible refine k_move ?_); refine m_move rfl ?_) | ((with_reducible refine k_assign ?_); refine m_assign rfl ?_)  | refine e_nrm ?_ | refine x_none rfl ?_ | with_reducible refine q_then ?_ | with_reducible refine awp_seq ?_ | ((with_reducible refine w_region ?_ ?_); kernel_rfl))
  refine x_call0 (few_A (l.map iv)) (by repeat' (first | exact trivial | exact Ren.v _ | exact Ren.sl _ _ | exact Ren.ep _ | exact Ren.ptr _ _ _ _ rfl | exact Ren.bs _ _ _ _ _ rfl | exact Ren.nil _ | exact Ren.own _ _ _ _ ⟨_, rfl⟩ | refine ren_ag ?_ | refine ren_tu ?_ | refine ren_fn ?_ | refine ⟨?_, ?_⟩)) (by repeat' (first | exact trivial | exact RenB.v _ | exact RenB.sl _ _ | exact RenB.ep _ | exact RenB.ptr _ _ _ _ rfl | refine renb_ag ?_ | refine renb_tu ?_ | refine ⟨?_, ?_⟩)) ?_
  repeat (first | ((with_reducible refine k_un ?_); refine x_not rfl ?_)  | refine e_nrm ?_ | refine x_none rfl ?_ | with_reducible refine q_then ?_ )
  refine w_cond rfl (fun h => ?_) (fun h => ?_)
  · repeat (first   | refine x_none rfl ?_ | with_reducible refine awp_seq ?_ | ((with_reducible refine w_region ?_ ?_); kernel_rfl))
    refine x_call0 (awake_A hG hP) (by repeat' (first | exact trivial | exact Ren.v _ | exact Ren.sl _ _ | exact Ren.ep _ | exact Ren.ptr _ _ _ _ rfl | exact Ren.bs _ _ _ _ _ rfl | exact Ren.nil _ | exact Ren.own _ _ _ _ ⟨_, rfl⟩ | refine ren_ag ?_ | refine ren_tu ?_ | refine ren_fn ?_ | refine ⟨?_, ?_⟩)) (by repeat' (first | exact trivial | exact RenB.v _ | exact RenB.sl _ _ | exact RenB.ep _ | exact RenB.ptr _ _ _ _ rfl | refine renb_ag ?_ | refine renb_tu ?_ | refine ⟨?_, ?_⟩)) ?_
    repeat (first | ((with_reducible refine k_assign ?_); refine m_assign rfl ?_)  | refine e_nrm ?_ | refine x_none rfl ?_ | with_reducible refine q_then ?_ | with_reducible refine q_then_ret ?_ | with_reducible refine awp_ret ?_ )
    refine ret_v (by first | exact .inr rfl | exact .inl rfl) rfl rfl ?_
    rfl
  have hl : l.length ≤ 400 := by simp at h; omega
  have dk := DkOk.new hl
  have hv := net5_ok dk 8 (nodes := 5) (by decide) (by decide)
  have hvp := net5_pos (dk0 l) 5 (m := 8) (by decide)
  have ok : NwOk (net1 (dk0 l) 5).1 (net5 (dk0 l) 5 8).1 := nw_ok hl (nodes := 5) (m := 8) (by decide) (by decide) (by decide)
  have h0 : netE (net1 (dk0 l) 5).1 (net5 (dk0 l) 5 8).1 = 0 := nw_valid hl (nodes := 5) (m := 8) (by decide) (by decide) (by decide)
  have hnet := network_A (G := X.G) (dk0 l) 5 8 dk (by decide) (by decide) (by decide)
  have hvl := hv.len
  have hdk := hv.dk
  obtain ⟨N, hN⟩ : ∃ N, N = (net1 (dk0 l) 5).1 := ⟨_, rfl⟩
  obtain ⟨V, hV⟩ : ∃ V, V = (net5 (dk0 l) 5 8).1 := ⟨_, rfl⟩
  obtain ⟨E, hE⟩ : ∃ E, E = (net5 (dk0 l) 5 8).2 := ⟨_, rfl⟩
  rw [← hN, ← hV, ← hE] at hnet
  rw [← hN, ← hV] at ok h0
  rw [← hV] at hvp hvl
  rw [← hE] at hdk
  have hmo := msgD_ok V E hvp (by omega)
  have hmd := msgD_dk (V := V) hdk
  have hmsg := message_A (G := X.G) N V E hdk hvp (by omega)
  obtain ⟨M, hM⟩ : ∃ M, M = (msgD V E).1 := ⟨_, rfl⟩
  obtain ⟨D, hD⟩ : ∃ D, D = (msgD V E).2 := ⟨_, rfl⟩
  rw [← hM, ← hD] at hmsg
  rw [← hM] at hmo
  rw [← hD] at hmd
  obtain ⟨s1, s2⟩ := ms_small hmo
  have hp := fprint_A (G := X.G) N V M hG hP ok s1 s2
  rw [print_ok h0 hmo] at hp
  have hlen := msg_len h0 hmo
  have hW := words_msg h0 hmo
  obtain ⟨L, hL⟩ : ∃ L, L = joinW (msgW V M) := ⟨_, rfl⟩
  rw [← hL] at hp hlen hW
  have hLs : (strL L).size = L.length := strL_size L
  have hf1 := fsame_A (G := X.G) M M s2
  have hf2 := frsame_A (G := X.G) M M s2 s2
  rw [sameB_refl] at hf1 hf2
  have hck := fcheck_A (G := X.G) N V M hG ok s1 s2
  rw [msgE_iff.2 ⟨h0, hmo⟩] at hck
  have hu : strEq (strL L) (strL L) = true := strEq_iff.2 rfl
  repeat (first | ((with_reducible refine k_move ?_); refine m_move rfl ?_)  | refine x_none rfl ?_ | with_reducible refine q_then ?_ | with_reducible refine awp_seq ?_ | with_reducible refine awp_skip ?_ | ((with_reducible refine w_region ?_ ?_); kernel_rfl))
  refine x_call_new (new_A l) (by repeat' (first | exact trivial | exact Ren.v _ | exact Ren.sl _ _ | exact Ren.ep _ | exact Ren.ptr _ _ _ _ rfl | exact Ren.bs _ _ _ _ _ rfl | exact Ren.nil _ | exact Ren.own _ _ _ _ ⟨_, rfl⟩ | refine ren_ag ?_ | refine ren_tu ?_ | refine ren_fn ?_ | refine ⟨?_, ?_⟩)) ⟨.sl _ _, .v _, .v _, trivial⟩ rfl ?_
  repeat (first | ((with_reducible refine k_move ?_); refine m_move rfl ?_) | ((with_reducible refine k_assign ?_); refine m_assign rfl ?_)  | refine e_nrm ?_ | refine x_none rfl ?_ | with_reducible refine q_then ?_ | with_reducible refine awp_seq ?_ | ((with_reducible refine w_region ?_ ?_); kernel_rfl))
  refine x_call (y := .ag [.sl 3 (N.map Nd.av), .sl 5 (V.map Dv.av)]) (ss := [(19, 1)]) (hnet) (by repeat' (first | exact trivial | exact Ren.v _ | exact Ren.sl _ _ | exact Ren.ep _ | exact Ren.ptr _ _ _ _ rfl | exact Ren.bs _ _ _ _ _ rfl | exact Ren.nil _ | exact Ren.own _ _ _ _ ⟨_, rfl⟩ | refine ren_ag ?_ | refine ren_tu ?_ | refine ren_fn ?_ | refine ⟨?_, ?_⟩)) (by simp) (in1 rfl rfl) rfl (back1 rfl) (by repeat' (first | exact trivial | exact RenB.v _ | exact RenB.sl _ _ | exact RenB.ep _ | exact RenB.ptr _ _ _ _ rfl | refine renb_ag ?_ | refine renb_tu ?_ | refine ⟨?_, ?_⟩)) ?_
  repeat (first | ((with_reducible refine k_move ?_); refine m_move rfl ?_) | ((with_reducible refine k_load ?_); refine x_load_agg tbOk rfl rfl rfl rfl (Nat.le_of_ble_eq_true rfl) ?_) | ((with_reducible refine k_store ?_); refine m_store tbOk rfl rfl rfl rfl rfl rfl rfl (Nat.le_of_ble_eq_true rfl) rfl ?_) | ((with_reducible refine k_alloc ?_); refine x_alloc tbOk rfl rfl ?_)  | refine e_nrm ?_ | refine x_none rfl ?_ | with_reducible refine q_then ?_ | with_reducible refine awp_seq ?_ | ((with_reducible refine w_region ?_ ?_); kernel_rfl))
  refine x_call (y := .ag [.v (.string M.cr), .v (.int .i64 M.t), .sl 5 (M.rs.map Rp.av)]) (ss := [(19, 1)]) (hmsg) (by repeat' (first | exact trivial | exact Ren.v _ | exact Ren.sl _ _ | exact Ren.ep _ | exact Ren.ptr _ _ _ _ rfl | exact Ren.bs _ _ _ _ _ rfl | exact Ren.nil _ | exact Ren.own _ _ _ _ ⟨_, rfl⟩ | refine ren_ag ?_ | refine ren_tu ?_ | refine ren_fn ?_ | refine ⟨?_, ?_⟩)) (by simp) (in1 rfl rfl) rfl (back1 rfl) (by repeat' (first | exact trivial | exact RenB.v _ | exact RenB.sl _ _ | exact RenB.ep _ | exact RenB.ptr _ _ _ _ rfl | refine renb_ag ?_ | refine renb_tu ?_ | refine ⟨?_, ?_⟩)) ?_
  repeat (first | ((with_reducible refine k_load ?_); refine x_load_agg tbOk rfl rfl rfl rfl (Nat.le_of_ble_eq_true rfl) ?_) | ((with_reducible refine k_store ?_); refine m_store tbOk rfl rfl rfl rfl rfl rfl rfl (Nat.le_of_ble_eq_true rfl) rfl ?_) | ((with_reducible refine k_alloc ?_); refine x_alloc tbOk rfl rfl ?_)  | refine e_nrm ?_ | refine x_none rfl ?_ | with_reducible refine q_then ?_ | with_reducible refine awp_seq ?_ | ((with_reducible refine w_region ?_ ?_); kernel_rfl))
  refine x_call0 (hp) (by repeat' (first | exact trivial | exact Ren.v _ | exact Ren.sl _ _ | exact Ren.ep _ | exact Ren.ptr _ _ _ _ rfl | exact Ren.bs _ _ _ _ _ rfl | exact Ren.nil _ | exact Ren.own _ _ _ _ ⟨_, rfl⟩ | refine ren_ag ?_ | refine ren_tu ?_ | refine ren_fn ?_ | refine ⟨?_, ?_⟩)) (by repeat' (first | exact trivial | exact RenB.v _ | exact RenB.sl _ _ | exact RenB.ep _ | exact RenB.ptr _ _ _ _ rfl | refine renb_ag ?_ | refine renb_tu ?_ | refine ⟨?_, ?_⟩)) ?_
  repeat (first | ((with_reducible refine k_move ?_); refine m_move rfl ?_) | ((with_reducible refine k_assign ?_); refine m_assign rfl ?_) | ((with_reducible refine k_extract ?_); refine x_extract rfl rfl ?_)  | refine e_nrm ?_ | refine x_none rfl ?_ | with_reducible refine q_then ?_ | with_reducible refine awp_seq ?_ | with_reducible refine awp_block ?_ | ((with_reducible refine w_region ?_ ?_); kernel_rfl))
  refine awp_loop (ι := Nat) (fun k => k ≤ L.length) (fun k => L.length - k) (fun v k => [(3, .ptr 19 (v 19) 0), (4, .ptr 4 (v 4) 0), (5, .ptr 5 (v 5) 0), (6, .v (.string (strL L))), (7, .v (.int .i64 0)), (8, .v (.string (strL (wdN L D k).1))), (9, .v (.int .i64 (k : Nat)))]) (fun v k => [(19, .box (wdN L D k).2.cells), (4, .box [.sl 3 (N.map Nd.av), .sl 5 (V.map Dv.av)]), (5, .box [.v (.string M.cr), .v (.int .i64 M.t), .sl 5 (M.rs.map Rp.av)])]) ?_ ?_
  · exact ⟨0, Nat.zero_le _, trivial, ⟨rfl, rfl, rfl, rfl, rfl, rfl, rfl, trivial⟩, ⟨rfl, rfl, rfl, trivial⟩⟩
  rintro v k hk
  have hwl := wdN_len L D k
  have hok := wdN_ok hmd (L := L) k
  have hws : (strL (wdN L D k).1).size = (wdN L D k).1.length := strL_size _
  repeat (first | ((with_reducible refine k_move ?_); refine m_move rfl ?_) | ((with_reducible refine k_call ?_); refine x_len_str (by exact Tryd.underlying9) rfl ?_) | ((with_reducible refine k_bin ?_); refine m_binI rfl rfl rfl ?_)  | refine e_nrm ?_ | refine x_none rfl ?_ | with_reducible refine q_then ?_ | with_reducible refine awp_seq ?_ | ((with_reducible refine w_region ?_ ?_); kernel_rfl))
  refine w_cond rfl (fun h => ?_) (fun h => ?_)
  · have hlt : k < L.length := by rw [hLs] at h; simpa using h
    obtain ⟨c, hc⟩ := some_at hlt
    have ix := idxS (strL L) k c (by rw [strL_data]; exact hc)
    have hone : (strL L).extract (k : Int).toNat ((k : Int) + 1).toNat = strL [c] := by
      rw [Int.toNat_natCast, show ((k : Int) + 1).toNat = k + 1 by omega]; exact one_byte L hc
    have eS : wdN L D (k + 1) = wdS (wdN L D k).2 (wdN L D k).1 c := by rw [wdN, hc]; rfl
    obtain ⟨p, hpp⟩ : ∃ p, p = wdN L D k := ⟨_, rfl⟩
    rw [← hpp] at eS hwl hok hws ⊢
    repeat (first | ((with_reducible refine k_move ?_); refine m_move rfl ?_) | ((with_reducible refine k_slice ?_); refine x_sliceS (by exact Tryd.underlying9) rfl rfl rfl (by refine ⟨?_, ?_, ?_⟩ <;> omega) ?_) | ((with_reducible refine k_bin ?_); refine x_add_in rfl rfl (by omega) ?_)  | refine x_none rfl ?_ | with_reducible refine q_then ?_ | with_reducible refine awp_seq ?_ | with_reducible refine awp_block ?_ | with_reducible refine awp_skip ?_ | ((with_reducible refine w_region ?_ ?_); kernel_rfl))
    rw [hone]
    with_reducible refine k_bin ?_
    refine x_add_s rfl rfl (by rw [hws, strL_size]; simp only [List.length_cons, List.length_nil]; omega) ?_
    rw [str_app]
    repeat (first | ((with_reducible refine k_move ?_); refine m_move rfl ?_) | ((with_reducible refine k_assign ?_); refine m_assign rfl ?_) | ((with_reducible refine k_index ?_); refine x_index rfl rfl (by assumption) ?_) | ((with_reducible refine k_bin ?_); refine m_binI rfl rfl rfl ?_)  | refine e_nrm ?_ | refine x_none rfl ?_ | with_reducible refine q_then ?_ | with_reducible refine awp_seq ?_ | ((with_reducible refine w_region ?_ ?_); kernel_rfl))
    refine x_split rfl rfl (fun b1 => ?_) (fun b1 => ?_)
    · have hc32 : c = 32 := by
        have h1 : (c.toNat : Int) = 32 := by simpa using b1
        exact UInt8.toNat_inj.1 (by show c.toNat = 32; omega)
      have eS' : wdS p.2 p.1 c = (if p.2.val 2 = 0 then (p.1 ++ [c] ++ [32, 32], p.2.next) else (p.1 ++ [c], p.2.next)) := by unfold wdS; rw [if_pos hc32]
      repeat (first | ((with_reducible refine k_move ?_); refine m_move rfl ?_)  | refine x_run_t rfl rfl (by first | rfl | assumption) ?_  )
      refine x_call (ss := [(19, v 19)]) (one_A p.2 2 hok (by omega) (by omega)) (by repeat' (first | exact trivial | exact Ren.v _ | exact Ren.sl _ _ | exact Ren.ep _ | exact Ren.ptr _ _ _ _ rfl | exact Ren.bs _ _ _ _ _ rfl | exact Ren.nil _ | exact Ren.own _ _ _ _ ⟨_, rfl⟩ | refine ren_ag ?_ | refine ren_tu ?_ | refine ren_fn ?_ | refine ⟨?_, ?_⟩)) (by simp) (in1 rfl rfl) rfl (back1 rfl) (by repeat' (first | exact trivial | exact RenB.v _ | exact RenB.sl _ _ | exact RenB.ep _ | exact RenB.ptr _ _ _ _ rfl | refine renb_ag ?_ | refine renb_tu ?_ | refine ⟨?_, ?_⟩)) ?_
      repeat (first | ((with_reducible refine k_pick ?_); refine m_pickt rfl (by first | rfl | assumption) rfl ?_)  | refine e_nrm ?_ | refine x_none rfl ?_ | with_reducible refine q_then ?_ )
      refine w_cond rfl (fun h => ?_) (fun h => ?_)
      · have h2 : p.2.val 2 = 0 := by simpa using h
        rw [if_pos h2] at eS'
        repeat (first | ((with_reducible refine k_move ?_); refine m_move rfl ?_)  | refine x_none rfl ?_  | ((with_reducible refine w_region ?_ ?_); kernel_rfl))
        with_reducible refine k_bin ?_
        refine x_add_s rfl rfl (by rw [strL_size]; show (p.1 ++ [c]).length + 2 ≤ _; rw [List.length_append]; simp only [List.length_cons, List.length_nil]; omega) ?_
        rw [show strL (p.1 ++ [c]) ++ (⟨#[32, 32]⟩ : ByteArray) = strL (p.1 ++ [c] ++ [32, 32]) from str_app _ _]
        repeat (first | ((with_reducible refine k_move ?_); refine m_move rfl ?_) | ((with_reducible refine k_assign ?_); refine m_assign rfl ?_) | ((with_reducible refine k_bin ?_); refine x_add_in rfl rfl (by omega) ?_)  | refine e_nrm ?_ | refine x_none rfl ?_ | with_reducible refine q_then ?_ | with_reducible refine q_block ?_ | ((with_reducible refine w_region ?_ ?_); kernel_rfl))
        exact ⟨k + 1, by omega, by omega, ⟨rfl, rfl, rfl, rfl, rfl, congrArg (fun z => AV.v (.string (strL z))) (by rw [eS, eS']), rfl, trivial⟩, ⟨hc_box (by rw [eS, eS']), rfl, rfl, trivial⟩⟩
      · have h2 : ¬ p.2.val 2 = 0 := by simpa using h
        rw [if_neg h2] at eS'
        repeat (first | ((with_reducible refine k_move ?_); refine m_move rfl ?_) | ((with_reducible refine k_assign ?_); refine m_assign rfl ?_) | ((with_reducible refine k_bin ?_); refine x_add_in rfl rfl (by omega) ?_)  | refine e_nrm ?_ | refine x_none rfl ?_ | with_reducible refine q_then ?_ | with_reducible refine q_block ?_ | with_reducible refine awp_skip ?_ | ((with_reducible refine w_region ?_ ?_); kernel_rfl))
        exact ⟨k + 1, by omega, by omega, ⟨rfl, rfl, rfl, rfl, rfl, congrArg (fun z => AV.v (.string (strL z))) (by rw [eS, eS']), rfl, trivial⟩, ⟨hc_box (by rw [eS, eS']), rfl, rfl, trivial⟩⟩
    · have hc32 : ¬ c = 32 := by
        rintro rfl
        simp at b1
      have eS' : wdS p.2 p.1 c = (p.1 ++ [c], p.2) := by unfold wdS; rw [if_neg hc32]
      repeat (first | ((with_reducible refine k_move ?_); refine m_move rfl ?_) | ((with_reducible refine k_assign ?_); refine m_assign rfl ?_) | ((with_reducible refine k_pick ?_); refine m_pickf rfl (by first | rfl | assumption) rfl ?_) | ((with_reducible refine k_bin ?_); refine x_add_in rfl rfl (by omega) ?_)  | refine e_nrm ?_ | refine x_none rfl ?_ | refine x_skip_t rfl rfl (by first | rfl | assumption) ?_ | with_reducible refine q_then ?_ | with_reducible refine q_block ?_ | with_reducible refine awp_skip ?_ | ((with_reducible refine w_region ?_ ?_); kernel_rfl) | refine w_cond_f rfl (by first | rfl | assumption) ?_)
      exact ⟨k + 1, by omega, by omega, ⟨rfl, rfl, rfl, rfl, rfl, congrArg (fun z => AV.v (.string (strL z))) (by rw [eS, eS']), rfl, trivial⟩, ⟨hc_box (by rw [eS, eS']), rfl, rfl, trivial⟩⟩
  have hge : k = L.length := by rw [hLs] at h; simp at h; omega
  have hwide := wide_words L D
  rw [← hge] at hwide
  obtain ⟨W, hWd⟩ : ∃ W, W = (wdN L D k).1 := ⟨_, rfl⟩
  rw [← hWd] at hwide hwl hws ⊢
  have hsz : (((⟨#[32, 32]⟩ : ByteArray) ++ strL W) ++ (⟨#[32]⟩ : ByteArray)).size ≤ 90000 := by
    rw [ByteArray.size_append, ByteArray.size_append, hws]; show 2 + W.length + 1 ≤ 90000; omega
  have hpa := fparse_A (G := X.G) N V (((⟨#[32, 32]⟩ : ByteArray) ++ strL W) ++ (⟨#[32]⟩ : ByteArray)) hG ok hsz
  have hdat : (((⟨#[32, 32]⟩ : ByteArray) ++ strL W) ++ (⟨#[32]⟩ : ByteArray)).data.toList = 32 :: 32 :: (W ++ [32]) := by simp [strL]
  rw [hdat, parse_msg (msgE_iff.2 ⟨h0, hmo⟩) (hwide.trans hW)] at hpa
  repeat (first | ((with_reducible refine k_move ?_); refine m_move rfl ?_) | ((with_reducible refine k_load ?_); refine x_load_agg tbOk rfl rfl rfl rfl (Nat.le_of_ble_eq_true rfl) ?_)  | refine x_none rfl ?_ | with_reducible refine q_then ?_ | with_reducible refine q_then_exit ?_ | with_reducible refine awp_seq ?_ | with_reducible refine awp_exit ?_ | ((with_reducible refine q_block_exit ?_ ?_); rfl) | ((with_reducible refine w_region ?_ ?_); kernel_rfl))
  with_reducible refine k_bin ?_
  refine x_add_s rfl rfl (by rw [hws]; show 2 + W.length ≤ _; omega) ?_
  repeat (first   | refine x_none rfl ?_  )
  with_reducible refine k_bin ?_
  refine x_add_s rfl rfl (by rw [ByteArray.size_append, hws]; show 2 + W.length + 1 ≤ _; omega) ?_
  repeat (first   | refine x_none rfl ?_  )
  refine x_call0 (hpa) (by repeat' (first | exact trivial | exact Ren.v _ | exact Ren.sl _ _ | exact Ren.ep _ | exact Ren.ptr _ _ _ _ rfl | exact Ren.bs _ _ _ _ _ rfl | exact Ren.nil _ | exact Ren.own _ _ _ _ ⟨_, rfl⟩ | refine ren_ag ?_ | refine ren_tu ?_ | refine ren_fn ?_ | refine ⟨?_, ?_⟩)) (by repeat' (first | exact trivial | exact RenB.v _ | exact RenB.sl _ _ | exact RenB.ep _ | exact RenB.ptr _ _ _ _ rfl | refine renb_ag ?_ | refine renb_tu ?_ | refine ⟨?_, ?_⟩)) ?_
  repeat (first | ((with_reducible refine k_move ?_); refine m_move rfl ?_) | ((with_reducible refine k_assign ?_); refine m_assign rfl ?_) | ((with_reducible refine k_load ?_); refine x_load_agg tbOk rfl rfl rfl rfl (Nat.le_of_ble_eq_true rfl) ?_) | ((with_reducible refine k_store ?_); refine m_store tbOk rfl rfl rfl rfl rfl rfl rfl (Nat.le_of_ble_eq_true rfl) rfl ?_) | ((with_reducible refine k_alloc ?_); refine x_alloc tbOk rfl rfl ?_) | ((with_reducible refine k_extract ?_); refine x_extract rfl rfl ?_)  | refine e_nrm ?_ | refine x_none rfl ?_ | with_reducible refine q_then ?_ | with_reducible refine awp_seq ?_ | ((with_reducible refine w_region ?_ ?_); kernel_rfl))
  refine x_call0 (hp) (by repeat' (first | exact trivial | exact Ren.v _ | exact Ren.sl _ _ | exact Ren.ep _ | exact Ren.ptr _ _ _ _ rfl | exact Ren.bs _ _ _ _ _ rfl | exact Ren.nil _ | exact Ren.own _ _ _ _ ⟨_, rfl⟩ | refine ren_ag ?_ | refine ren_tu ?_ | refine ren_fn ?_ | refine ⟨?_, ?_⟩)) (by repeat' (first | exact trivial | exact RenB.v _ | exact RenB.sl _ _ | exact RenB.ep _ | exact RenB.ptr _ _ _ _ rfl | refine renb_ag ?_ | refine renb_tu ?_ | refine ⟨?_, ?_⟩)) ?_
  repeat (first | ((with_reducible refine k_move ?_); refine m_move rfl ?_) | ((with_reducible refine k_assign ?_); refine m_assign rfl ?_) | ((with_reducible refine k_load ?_); refine x_load_agg tbOk rfl rfl rfl rfl (Nat.le_of_ble_eq_true rfl) ?_) | ((with_reducible refine k_extract ?_); refine x_extract rfl rfl ?_) | ((with_reducible refine k_pick ?_); refine m_pickt rfl (by first | rfl | assumption) rfl ?_) | ((with_reducible refine k_bin ?_); refine m_binI rfl rfl rfl ?_)  | refine e_nrm ?_ | refine x_none rfl ?_ | refine x_run_t rfl rfl (by first | rfl | assumption) ?_ | with_reducible refine q_then ?_ | with_reducible refine awp_seq ?_ | ((with_reducible refine w_region ?_ ?_); kernel_rfl))
  refine x_call0 (hf1) (by repeat' (first | exact trivial | exact Ren.v _ | exact Ren.sl _ _ | exact Ren.ep _ | exact Ren.ptr _ _ _ _ rfl | exact Ren.bs _ _ _ _ _ rfl | exact Ren.nil _ | exact Ren.own _ _ _ _ ⟨_, rfl⟩ | refine ren_ag ?_ | refine ren_tu ?_ | refine ren_fn ?_ | refine ⟨?_, ?_⟩)) (by repeat' (first | exact trivial | exact RenB.v _ | exact RenB.sl _ _ | exact RenB.ep _ | exact RenB.ptr _ _ _ _ rfl | refine renb_ag ?_ | refine renb_tu ?_ | refine ⟨?_, ?_⟩)) ?_
  repeat (first | ((with_reducible refine k_move ?_); refine m_move rfl ?_) | ((with_reducible refine k_load ?_); refine x_load_agg tbOk rfl rfl rfl rfl (Nat.le_of_ble_eq_true rfl) ?_) | ((with_reducible refine k_pick ?_); refine m_pickt rfl (by first | rfl | assumption) rfl ?_)  | refine x_none rfl ?_ | refine x_run_t rfl rfl (by first | rfl | assumption) ?_  )
  refine x_call0 (hf2) (by repeat' (first | exact trivial | exact Ren.v _ | exact Ren.sl _ _ | exact Ren.ep _ | exact Ren.ptr _ _ _ _ rfl | exact Ren.bs _ _ _ _ _ rfl | exact Ren.nil _ | exact Ren.own _ _ _ _ ⟨_, rfl⟩ | refine ren_ag ?_ | refine ren_tu ?_ | refine ren_fn ?_ | refine ⟨?_, ?_⟩)) (by repeat' (first | exact trivial | exact RenB.v _ | exact RenB.sl _ _ | exact RenB.ep _ | exact RenB.ptr _ _ _ _ rfl | refine renb_ag ?_ | refine renb_tu ?_ | refine ⟨?_, ?_⟩)) ?_
  repeat (first | ((with_reducible refine k_move ?_); refine m_move rfl ?_) | ((with_reducible refine k_load ?_); refine x_load_agg tbOk rfl rfl rfl rfl (Nat.le_of_ble_eq_true rfl) ?_) | ((with_reducible refine k_pick ?_); refine m_pickt rfl (by first | rfl | assumption) rfl ?_) | ((with_reducible refine k_bin ?_); refine m_binS rfl rfl rfl ?_)  | refine x_none rfl ?_ | refine x_run_t rfl rfl (by first | rfl | assumption) ?_  )
  refine x_call0 (hck) (by repeat' (first | exact trivial | exact Ren.v _ | exact Ren.sl _ _ | exact Ren.ep _ | exact Ren.ptr _ _ _ _ rfl | exact Ren.bs _ _ _ _ _ rfl | exact Ren.nil _ | exact Ren.own _ _ _ _ ⟨_, rfl⟩ | refine ren_ag ?_ | refine ren_tu ?_ | refine ren_fn ?_ | refine ⟨?_, ?_⟩)) (by repeat' (first | exact trivial | exact RenB.v _ | exact RenB.sl _ _ | exact RenB.ep _ | exact RenB.ptr _ _ _ _ rfl | refine renb_ag ?_ | refine renb_tu ?_ | refine ⟨?_, ?_⟩)) ?_
  repeat (first | ((with_reducible refine k_move ?_); refine m_move rfl ?_) | ((with_reducible refine k_pick ?_); refine m_pickt rfl (by first | rfl | assumption) rfl ?_) | ((with_reducible refine k_bin ?_); refine m_binI rfl rfl rfl ?_)  | refine x_none rfl ?_ | refine x_run_t rfl rfl (by first | rfl | assumption) ?_  )
  refine x_call0 (awake_A hG hP) (by repeat' (first | exact trivial | exact Ren.v _ | exact Ren.sl _ _ | exact Ren.ep _ | exact Ren.ptr _ _ _ _ rfl | exact Ren.bs _ _ _ _ _ rfl | exact Ren.nil _ | exact Ren.own _ _ _ _ ⟨_, rfl⟩ | refine ren_ag ?_ | refine ren_tu ?_ | refine ren_fn ?_ | refine ⟨?_, ?_⟩)) (by repeat' (first | exact trivial | exact RenB.v _ | exact RenB.sl _ _ | exact RenB.ep _ | exact RenB.ptr _ _ _ _ rfl | refine renb_ag ?_ | refine renb_tu ?_ | refine ⟨?_, ?_⟩)) ?_
  repeat (first | ((with_reducible refine k_assign ?_); refine m_assign rfl ?_) | ((with_reducible refine k_pick ?_); refine m_pickt rfl (by first | rfl | assumption) rfl ?_)  | refine e_nrm ?_ | refine x_none rfl ?_ | with_reducible refine q_then ?_ | with_reducible refine awp_ret ?_ )
  refine ret_v (by first | exact .inr rfl | exact .inl rfl) rfl rfl ?_
  rfl
end Go.Proofs.YtgpglcccjkpmdaaDoor
