/- permitofficelaw01.LexemeLines, by the abstract machine: for every list of numbers it answers true; conditions: the tables and a cell of the library stand. -/
import Derived.Test.YtblopmoapfcfhaaDoorLxL
import Derived.Test.YtblopmoapfcfhaaDoorDkA
set_option linter.unusedVariables false
set_option linter.unusedSimpArgs false
namespace Go.Proofs.YtblopmoapfcfhaaDoor
open Go Go.RowKit
set_option maxRecDepth 10000
variable {G : Nat → Option (List Value)}
/-- A text of lines. -/
def txtOf (L : List (List UInt8)) : List UInt8 := L.flatMap fun l => l ++ [10]
def okC (c : UInt8) : Prop := 32 ≤ c.toNat ∧ c.toNat ≤ 126
theorem ll_line : ∀ (l cur r : List UInt8), (∀ c ∈ l, c ≠ 10) → ll cur (l ++ 10 :: r) = (cur ++ l) :: ll [] r
  | [], cur, r, _ => by simp [ll]
  | c :: l, cur, r, h => by
    rw [List.cons_append, ll, if_neg (h c (by simp)), ll_line l _ r (fun x hx => h x (by simp [hx]))]
    simp
theorem ll_txt : ∀ {L : List (List UInt8)}, (∀ l ∈ L, ∀ c ∈ l, c ≠ 10) → ll [] (txtOf L) = L
  | [], _ => rfl
  | l :: L, h => by
    unfold txtOf
    rw [List.flatMap_cons, List.append_assoc, List.singleton_append, ll_line l [] _ (h l (by simp))]
    have := ll_txt (L := L) (fun x hx => h x (by simp [hx]))
    unfold txtOf at this
    rw [this]; rfl
theorem txt_last : ∀ {L : List (List UInt8)}, L ≠ [] → (txtOf L).getLast? = some 10 := by
  intro L h
  obtain ⟨A, x, rfl⟩ : ∃ A x, L = A ++ [x] := ⟨L.dropLast, L.getLast h, (List.dropLast_concat_getLast h).symm⟩
  unfold txtOf
  rw [List.flatMap_append, List.flatMap_cons, List.flatMap_nil, List.append_nil, ← List.append_assoc]
  simp
theorem txt_ok {L : List (List UInt8)} (h : ∀ l ∈ L, ∀ c ∈ l, okC c) : (txtOf L).all okB = true := by
  rw [List.all_eq_true]
  intro c hc
  unfold txtOf at hc
  obtain ⟨l, hl, hc⟩ := List.mem_flatMap.1 hc
  rcases List.mem_append.1 hc with hc | hc
  · exact okB_iff.2 (.inr (h l hl c hc))
  · simp at hc; subst hc; exact okB_iff.2 (.inl rfl)
theorem txt_lines {L : List (List UInt8)} (h : ∀ l ∈ L, ∀ c ∈ l, okC c) (hl : (txtOf L).length ≤ 65536) : linesL (txtOf L) = some L := by
  by_cases h0 : L = []
  · subst h0; rfl
  · have hne : txtOf L ≠ [] := fun e => by have := txt_last h0; rw [e] at this; cases this
    rw [lines_some hne hl (txt_last h0) (txt_ok h), ll_txt (fun l hl c hc e => by have := (h l hl c hc).1; rw [e] at this; exact absurd this (by decide))]
theorem txt_snoc (L : List (List UInt8)) (l : List UInt8) : txtOf (L ++ [l]) = txtOf L ++ l ++ [10] := by
  unfold txtOf
  simp
theorem lines_x (l : List UInt8) : linesL (l ++ [120]) = none := by
  refine lines_none (by simp) (.inl (.inr ?_))
  simp
theorem lines_odd (l : List UInt8) : linesL (31 :: 10 :: l) = none := by
  refine lines_none (by simp) (.inr (all_bad (k := 0) (c := 31) rfl (by decide)))
theorem words_flat {L : List (List UInt8)} : ∀ w ∈ L.flatMap wordsL, w ≠ [] ∧ ∀ c ∈ w, c ≠ 32 := fun w hw => by
  obtain ⟨l, hl, hw⟩ := List.mem_flatMap.1 hw
  exact words_ok w hw
structure LnOk (D : Dk) (k : Int) (L : List (List UInt8)) : Prop where
  deck : DkOk D
  k0 : 0 ≤ k
  cnt : (L.length : Int) + k ≤ 7
  ok : ∀ l ∈ L, ∀ c ∈ l, okC c
  len : (txtOf L).length ≤ 7 * L.length
  wlen : (L.flatMap wordsL).length ≤ 7 * L.length
  jlen : ((L.flatMap wordsL).map fun x => x.length + 1).sum ≤ 70 * L.length
theorem wl_sum : ∀ (l cur : List UInt8), ((wl cur l).map fun x => x.length + 1).sum ≤ cur.length + 2 * l.length + 1
  | [], cur => by unfold wl; split <;> simp
  | c :: l, cur => by
    unfold wl
    split
    · split
      · have := wl_sum l []; simp at this ⊢; omega
      · have := wl_sum l []; simp at this ⊢; omega
    · have := wl_sum l (cur ++ [c]); simp at this ⊢; omega
theorem LnOk.next {D D' : Dk} {k : Int} {L : List (List UInt8)} {l : List UInt8} (h : LnOk D k L) (hk : 0 < k) (hD : DkOk D') (hl : l.length ≤ 6) (hc : ∀ c ∈ l, okC c) : LnOk D' (k - 1) (L ++ [l]) := by
  refine ⟨hD, by omega, by have := h.cnt; simp; omega, fun x hx => ?_, ?_, ?_, ?_⟩
  · rcases List.mem_append.1 hx with hx | hx
    · exact h.ok x hx
    · simp at hx; subst hx; exact hc
  · have := h.len
    rw [txt_snoc]; simp; omega
  · have h1 := h.wlen
    have h2 := wl_count (l := l) (cur := [])
    rw [List.flatMap_append, List.length_append]
    simp only [List.flatMap_cons, List.flatMap_nil, List.append_nil, List.length_append, List.length_cons, List.length_nil]
    have : (wordsL l).length ≤ l.length + 1 := h2
    omega
  · have h1 := h.jlen
    have h2 := wl_sum l []
    rw [List.flatMap_append, List.map_append, List.sum_append]
    simp only [List.flatMap_cons, List.flatMap_nil, List.append_nil, List.length_append, List.length_cons, List.length_nil]
    have : ((wordsL l).map fun x => x.length + 1).sum ≤ 0 + 2 * l.length + 1 := h2
    omega
theorem strL_app (a b : List UInt8) : strL a ++ strL b = strL (a ++ b) := by
  refine ba_ext' ?_
  simp [strL]
set_option maxHeartbeats 4000000 in
theorem lines_law (l : List Int) (hC : GCls G) (hG : GPow G) (hM : GMax G) : ACalls Tryd.prog G 7 [.sl 1 (l.map iv)] [] (.v (.bool true)) [] := by
  refine acalls_of tbOk (enter_of Tryd.func7 (by kernel_rfl) rfl) Tryd.func7 rfl _ Tryd.ntmps7 (Nat.le_of_ble_eq_true rfl) fun X hX => ?_
  subst hX
  repeat (first | ((with_reducible refine k_move ?_); refine m_move rfl ?_) | ((with_reducible refine k_assign ?_); refine m_assign rfl ?_)  | refine e_nrm ?_ | refine x_none rfl ?_ | with_reducible refine q_then ?_ | with_reducible refine awp_seq ?_ | ((with_reducible refine w_region ?_ ?_); kernel_rfl))
  refine x_call0 (few_A (l.map iv)) (by repeat' (first | exact trivial | exact Ren.v _ | exact Ren.sl _ _ | exact Ren.ep _ | exact Ren.ptr _ _ _ _ rfl | exact Ren.bs _ _ _ _ _ rfl | exact Ren.nil _ | exact Ren.own _ _ _ _ ⟨_, rfl⟩ | refine ren_ag ?_ | refine ren_tu ?_ | refine ren_fn ?_ | refine ⟨?_, ?_⟩)) (by repeat' (first | exact trivial | exact RenB.v _ | exact RenB.sl _ _ | exact RenB.ep _ | exact RenB.ptr _ _ _ _ rfl | refine renb_ag ?_ | refine renb_tu ?_ | refine ⟨?_, ?_⟩)) ?_
  repeat (first | ((with_reducible refine k_un ?_); refine x_not rfl ?_)  | refine e_nrm ?_ | refine x_none rfl ?_ | with_reducible refine q_then ?_ )
  refine w_cond rfl (fun h => ?_) (fun h => ?_)
  · repeat (first   | refine x_none rfl ?_ | with_reducible refine awp_seq ?_ | ((with_reducible refine w_region ?_ ?_); kernel_rfl))
    refine x_call0 (awake_A hC hG) (by repeat' (first | exact trivial | exact Ren.v _ | exact Ren.sl _ _ | exact Ren.ep _ | exact Ren.ptr _ _ _ _ rfl | exact Ren.bs _ _ _ _ _ rfl | exact Ren.nil _ | exact Ren.own _ _ _ _ ⟨_, rfl⟩ | refine ren_ag ?_ | refine ren_tu ?_ | refine ren_fn ?_ | refine ⟨?_, ?_⟩)) (by repeat' (first | exact trivial | exact RenB.v _ | exact RenB.sl _ _ | exact RenB.ep _ | exact RenB.ptr _ _ _ _ rfl | refine renb_ag ?_ | refine renb_tu ?_ | refine ⟨?_, ?_⟩)) ?_
    repeat (first | ((with_reducible refine k_assign ?_); refine m_assign rfl ?_)  | refine e_nrm ?_ | refine x_none rfl ?_ | with_reducible refine q_then ?_ | with_reducible refine q_then_ret ?_ | with_reducible refine awp_ret ?_ )
    refine ret_v (by first | exact .inr rfl | exact .inl rfl) rfl rfl ?_
    rfl
  have hl : l.length ≤ 400 := by simp at h; omega
  have hD := DkOk.new hl
  repeat (first | ((with_reducible refine k_move ?_); refine m_move rfl ?_)  | refine x_none rfl ?_ | with_reducible refine q_then ?_ | with_reducible refine awp_seq ?_ | with_reducible refine awp_skip ?_ | ((with_reducible refine w_region ?_ ?_); kernel_rfl))
  refine x_call_new (new_A l) (by repeat' (first | exact trivial | exact Ren.v _ | exact Ren.sl _ _ | exact Ren.ep _ | exact Ren.ptr _ _ _ _ rfl | exact Ren.bs _ _ _ _ _ rfl | exact Ren.nil _ | exact Ren.own _ _ _ _ ⟨_, rfl⟩ | refine ren_ag ?_ | refine ren_tu ?_ | refine ren_fn ?_ | refine ⟨?_, ?_⟩)) (by repeat' (first | exact trivial | exact RenB.v _ | exact RenB.sl _ _ | exact RenB.ep _ | exact RenB.ptr _ _ _ _ rfl | refine renb_ag ?_ | refine renb_tu ?_ | refine ⟨?_, ?_⟩)) rfl ?_
  generalize dk0 l = D0 at hD
  repeat (first | ((with_reducible refine k_move ?_); refine m_move rfl ?_) | ((with_reducible refine k_assign ?_); refine m_assign rfl ?_)  | refine e_nrm ?_ | refine x_none rfl ?_ | with_reducible refine q_then ?_ | with_reducible refine awp_seq ?_ | ((with_reducible refine w_region ?_ ?_); kernel_rfl))
  refine x_call (ss := [(22, 1)]) (next_A D0 8 hD (by omega) (by omega)) (by repeat' (first | exact trivial | exact Ren.v _ | exact Ren.sl _ _ | exact Ren.ep _ | exact Ren.ptr _ _ _ _ rfl | exact Ren.bs _ _ _ _ _ rfl | exact Ren.nil _ | exact Ren.own _ _ _ _ ⟨_, rfl⟩ | refine ren_ag ?_ | refine ren_tu ?_ | refine ren_fn ?_ | refine ⟨?_, ?_⟩)) (by simp) (in1 rfl rfl) rfl (back1 rfl) (by repeat' (first | exact trivial | exact RenB.v _ | exact RenB.sl _ _ | exact RenB.ep _ | exact RenB.ptr _ _ _ _ rfl | refine renb_ag ?_ | refine renb_tu ?_ | refine ⟨?_, ?_⟩)) ?_
  have hv := D0.val_range (n := 8) (by omega)
  have hD1 := hD.next
  generalize D0.next = D1 at hD1
  generalize D0.val 8 = k0 at hv
  repeat (first | ((with_reducible refine k_assign ?_); refine m_assign rfl ?_)  | refine e_nrm ?_ | refine x_none rfl ?_ | with_reducible refine q_then ?_ | with_reducible refine awp_block ?_ )
  refine awp_own (t := 4) (s := 46) 9 1 rfl rfl ?_
  refine awp_own (t := 5) (s := 58) 9 1 rfl rfl ?_
  refine awp_loop (ι := Dk × Int × List (List UInt8)) (fun q => LnOk q.1 q.2.1 q.2.2) (fun q => q.2.1.toNat) (fun v q => [(3, .ptr 22 (v 22) 0), (4, .own 46 (v 46)), (5, .own 58 (v 58)), (6, svL (txtOf q.2.2)), (7, .v (.int .i64 q.2.1))]) (fun v q => [(22, .box q.1.cells), (46, .buf 9 1 (q.2.2.map svL)), (58, .buf 9 1 ((q.2.2.flatMap wordsL).map svL))]) ?_ ?_
  · exact ⟨(D1, k0, []), ⟨hD1, by show 0 ≤ k0; omega, by show (0 : Int) + k0 ≤ 7; omega, by simp, by simp [txtOf], by simp, by simp⟩, trivial, ⟨rfl, rfl, rfl, rfl, rfl, trivial⟩, ⟨rfl, rfl, rfl, trivial⟩⟩
  rintro v ⟨D, k, L⟩ hI
  dsimp only at hI ⊢
  have hcnt := hI.cnt
  have hlen := hI.len
  have hwlen := hI.wlen
  have hk0 := hI.k0
  repeat (first | ((with_reducible refine k_move ?_); refine m_move rfl ?_) | ((with_reducible refine k_bin ?_); refine m_binI rfl rfl rfl ?_)  | refine e_nrm ?_ | refine x_none rfl ?_ | with_reducible refine q_then ?_ | with_reducible refine awp_seq ?_ | ((with_reducible refine w_region ?_ ?_); kernel_rfl))
  refine w_cond rfl (fun h => ?_) (fun h => ?_)
  · have hkp : 0 < k := by simpa using h
    repeat (first | ((with_reducible refine k_move ?_); refine m_move rfl ?_) | ((with_reducible refine k_assign ?_); refine m_assign rfl ?_)  | refine e_nrm ?_ | refine x_none rfl ?_ | with_reducible refine q_then ?_ | with_reducible refine awp_seq ?_ | with_reducible refine awp_block ?_ | with_reducible refine awp_skip ?_ | ((with_reducible refine w_region ?_ ?_); kernel_rfl))
    refine x_call (ss := [(22, v 22)]) (next_A D 6 hI.deck (by omega) (by omega)) (by repeat' (first | exact trivial | exact Ren.v _ | exact Ren.sl _ _ | exact Ren.ep _ | exact Ren.ptr _ _ _ _ rfl | exact Ren.bs _ _ _ _ _ rfl | exact Ren.nil _ | exact Ren.own _ _ _ _ ⟨_, rfl⟩ | refine ren_ag ?_ | refine ren_tu ?_ | refine ren_fn ?_ | refine ⟨?_, ?_⟩)) (by simp) (in1 rfl rfl) rfl (back1 rfl) (by repeat' (first | exact trivial | exact RenB.v _ | exact RenB.sl _ _ | exact RenB.ep _ | exact RenB.ptr _ _ _ _ rfl | refine renb_ag ?_ | refine renb_tu ?_ | refine ⟨?_, ?_⟩)) ?_
    have hv := D.val_range (n := 6) (by omega)
    have hD2 := hI.deck.next
    generalize D.next = D2 at hD2
    generalize D.val 6 = i0 at hv
    repeat (first | ((with_reducible refine k_assign ?_); refine m_assign rfl ?_)  | refine e_nrm ?_ | refine x_none rfl ?_ | with_reducible refine q_then ?_ | with_reducible refine awp_block ?_ )
    refine awp_loop (ι := Dk × Int × List UInt8) (fun q => DkOk q.1 ∧ 0 ≤ q.2.1 ∧ (q.2.2.length : Int) + q.2.1 ≤ 5 ∧ ∀ c ∈ q.2.2, okC c) (fun q => q.2.1.toNat) (fun v q => [(3, .ptr 22 (v 22) 0), (4, .own 46 (v 46)), (5, .own 58 (v 58)), (6, svL (txtOf L)), (7, .v (.int .i64 k)), (8, svL q.2.2), (9, .v (.int .i64 q.2.1))]) (fun v q => [(22, .box q.1.cells), (46, .buf 9 1 (L.map svL)), (58, .buf 9 1 ((L.flatMap wordsL).map svL))]) ?_ ?_
    · exact ⟨(D2, i0, []), ⟨hD2, by show 0 ≤ i0; omega, by show (0 : Int) + i0 ≤ 5; omega, by simp⟩, trivial, ⟨rfl, rfl, rfl, rfl, rfl, rfl, rfl, trivial⟩, ⟨rfl, rfl, rfl, trivial⟩⟩
    rintro v ⟨E, i, s⟩ ⟨hE, hi0, hi1, hs⟩
    dsimp only at hE hi0 hi1 hs ⊢
    repeat (first | ((with_reducible refine k_move ?_); refine m_move rfl ?_) | ((with_reducible refine k_bin ?_); refine m_binI rfl rfl rfl ?_)  | refine e_nrm ?_ | refine x_none rfl ?_ | with_reducible refine q_then ?_ | with_reducible refine awp_seq ?_ | ((with_reducible refine w_region ?_ ?_); kernel_rfl))
    refine w_cond rfl (fun h => ?_) (fun h => ?_)
    · have hip : 0 < i := by simpa using h
      repeat (first | ((with_reducible refine k_move ?_); refine m_move rfl ?_)  | refine x_none rfl ?_ | with_reducible refine q_then ?_ | with_reducible refine awp_seq ?_ | with_reducible refine awp_block ?_ | with_reducible refine awp_skip ?_ | ((with_reducible refine w_region ?_ ?_); kernel_rfl))
      refine x_call (ss := [(22, v 22)]) (next_A E 95 hE (by omega) (by omega)) (by repeat' (first | exact trivial | exact Ren.v _ | exact Ren.sl _ _ | exact Ren.ep _ | exact Ren.ptr _ _ _ _ rfl | exact Ren.bs _ _ _ _ _ rfl | exact Ren.nil _ | exact Ren.own _ _ _ _ ⟨_, rfl⟩ | refine ren_ag ?_ | refine ren_tu ?_ | refine ren_fn ?_ | refine ⟨?_, ?_⟩)) (by simp) (in1 rfl rfl) rfl (back1 rfl) (by repeat' (first | exact trivial | exact RenB.v _ | exact RenB.sl _ _ | exact RenB.ep _ | exact RenB.ptr _ _ _ _ rfl | refine renb_ag ?_ | refine renb_tu ?_ | refine ⟨?_, ?_⟩)) ?_
      have hv := E.val_range (n := 95) (by omega)
      have hE2 := hE.next
      generalize E.next = E2 at hE2
      generalize E.val 95 = c at hv
      have hz := strL_size s
      repeat (first | ((with_reducible refine k_convert ?_); refine x_conv_in tbOk rfl rfl rfl (by first | assumption | exact wrap_u64_in (by omega) | exact wrap_i64_in (by omega) | exact wrap_u8_in (by omega)) ?_) | ((with_reducible refine k_bin ?_); refine x_add_in rfl rfl (by omega) ?_) | ((with_reducible refine k_buildSlice ?_); refine m_buildSlice tbOk rfl rfl rfl rfl rfl (by omega) rfl rfl rfl ?_) | refine x_none rfl ?_  )
      with_reducible refine k_convert ?_
      refine x_conv_bytes Tryd.underlying28 Tryd.underlying5 Tryd.underlying9 rfl rfl (by simp) ?_
      repeat (first   | refine x_none rfl ?_  )
      refine x_add_s rfl rfl (by rw [strOfNums_size]; show (strL s).size + 1 ≤ _; omega) ?_
      repeat (first | ((with_reducible refine k_move ?_); refine m_move rfl ?_) | ((with_reducible refine k_assign ?_); refine m_assign rfl ?_) | ((with_reducible refine k_bin ?_); refine x_sub_in rfl rfl (by omega) ?_)  | refine e_nrm ?_ | refine x_none rfl ?_ | with_reducible refine q_then ?_ | with_reducible refine q_block ?_ | ((with_reducible refine w_region ?_ ?_); kernel_rfl))
      refine ⟨(E2, i - 1, s ++ [UInt8.ofNat (32 + c).toNat]), ⟨hE2, by show 0 ≤ i - 1; omega, by simp; omega, fun x hx => ?_⟩, by show (i - 1).toNat < i.toNat; omega, ⟨rfl, rfl, rfl, rfl, rfl, ?_, rfl, trivial⟩, ⟨rfl, rfl, rfl, trivial⟩⟩
      · rcases List.mem_append.1 hx with hx | hx
        · exact hs x hx
        · simp at hx
          subst hx
          unfold okC
          rw [UInt8.toNat_ofNat']
          omega
      · show AV.v _ = AV.v _
        refine congrArg (fun s => AV.v (.string s)) (ba_ext' ?_)
        simp [strL, strOfNums]
    · have hsl : s.length ≤ 6 := by omega
      have hz := strL_size s
      have hzt := strL_size (txtOf L)
      have hW := words_A (G := X.G) (strL s) (by omega)
      rw [strL_data] at hW
      have hwc : (wordsL s).length ≤ s.length + 1 := wl_count
      repeat (first | ((with_reducible refine k_move ?_); refine m_move rfl ?_) | ((with_reducible refine k_buildSlice ?_); refine m_buildSlice tbOk rfl rfl rfl rfl rfl (by omega) rfl rfl rfl ?_) | refine x_none rfl ?_ | with_reducible refine q_then ?_ | with_reducible refine q_then_exit ?_ | with_reducible refine awp_seq ?_ | with_reducible refine awp_exit ?_ | ((with_reducible refine q_block_exit ?_ ?_); rfl) | ((with_reducible refine w_region ?_ ?_); kernel_rfl))
      refine x_append_own tbOk rfl rfl rfl rfl rfl (by decide) rfl rfl rfl rfl rfl (fun x hx => by simp at hx; subst hx; rfl) (by simp only [List.length_map, List.length_cons, List.length_nil]; omega) (by simp only [List.length_map, List.length_cons, List.length_nil]; omega) ?_
      repeat (first | ((with_reducible refine k_move ?_); refine m_move rfl ?_) | ((with_reducible refine k_assign ?_); refine m_assign rfl ?_)  | refine e_nrm ?_ | refine x_none rfl ?_ | with_reducible refine q_then ?_ | with_reducible refine awp_seq ?_ | ((with_reducible refine w_region ?_ ?_); kernel_rfl))
      refine x_add_s rfl rfl (by show (strL s).size + 1 ≤ _; omega) ?_
      repeat (first   | refine x_none rfl ?_  )
      refine x_add_s rfl rfl (by rw [ByteArray.size_append]; show (strL (txtOf L)).size + ((strL s).size + 1) ≤ _; omega) ?_
      repeat (first | ((with_reducible refine k_move ?_); refine m_move rfl ?_) | ((with_reducible refine k_assign ?_); refine m_assign rfl ?_)  | refine e_nrm ?_ | refine x_none rfl ?_ | with_reducible refine q_then ?_ | with_reducible refine awp_seq ?_ | ((with_reducible refine w_region ?_ ?_); kernel_rfl))
      refine x_call0 (hW) (by repeat' (first | exact trivial | exact Ren.v _ | exact Ren.sl _ _ | exact Ren.ep _ | exact Ren.ptr _ _ _ _ rfl | exact Ren.bs _ _ _ _ _ rfl | exact Ren.nil _ | exact Ren.own _ _ _ _ ⟨_, rfl⟩ | refine ren_ag ?_ | refine ren_tu ?_ | refine ren_fn ?_ | refine ⟨?_, ?_⟩)) (by repeat' (first | exact trivial | exact RenB.v _ | exact RenB.sl _ _ | exact RenB.ep _ | exact RenB.ptr _ _ _ _ rfl | refine renb_ag ?_ | refine renb_tu ?_ | refine ⟨?_, ?_⟩)) ?_
      repeat (first | ((with_reducible refine k_move ?_); refine m_move rfl ?_) | ((with_reducible refine k_assign ?_); refine m_assign rfl ?_) | ((with_reducible refine k_call ?_); refine x_len tbOk rfl rfl ?_) | ((with_reducible refine k_bin ?_); refine m_binI rfl rfl rfl ?_)  | refine e_nrm ?_ | refine x_none rfl ?_ | with_reducible refine q_then ?_ | with_reducible refine awp_seq ?_ | ((with_reducible refine w_region ?_ ?_); kernel_rfl))
      have htx : strL (txtOf L) ++ (strL s ++ ⟨#[10]⟩) = strL (txtOf (L ++ [s])) := by
        refine ba_ext' ?_
        rw [txt_snoc]
        simp [strL]
      have hNx := hI.next (D' := E) (l := s) hkp hE hsl hs
      refine w_cond rfl (fun h => ?_) (fun h => ?_)
      · repeat (first | ((with_reducible refine k_move ?_); refine m_move rfl ?_)  | refine x_none rfl ?_  | ((with_reducible refine w_region ?_ ?_); kernel_rfl))
        refine x_append_own tbOk rfl rfl rfl rfl rfl (by decide) rfl rfl rfl rfl rfl (fun x hx => by
          obtain ⟨y, -, rfl⟩ := List.mem_map.1 hx
          rfl) (by simp only [List.length_map]; omega) (by simp only [List.length_map]; omega) ?_
        repeat (first | ((with_reducible refine k_move ?_); refine m_move rfl ?_) | ((with_reducible refine k_assign ?_); refine m_assign rfl ?_) | ((with_reducible refine k_bin ?_); refine x_sub_in rfl rfl (by omega) ?_)  | refine e_nrm ?_ | refine x_none rfl ?_ | with_reducible refine q_then ?_ | with_reducible refine q_block ?_ | ((with_reducible refine w_region ?_ ?_); kernel_rfl))
        refine ⟨(E, k - 1, L ++ [s]), hNx, by show (k - 1).toNat < k.toNat; omega, ⟨rfl, rfl, rfl, ?_, rfl, trivial⟩, ⟨rfl, ?_, ?_, trivial⟩⟩
        · show AV.v _ = AV.v _
          exact congrArg (fun s => AV.v (.string s)) htx
        · exact hc_buf (by rw [List.map_append]; rfl)
        · exact hc_buf (by rw [List.flatMap_append, List.map_append]; simp)
      · have hw0 : wordsL s = [] := by
          first
            | simpa using h
            | (apply List.eq_nil_of_length_eq_zero
               simp only [List.length_map, decide_eq_false_iff_not] at h
               omega)
        repeat (first | ((with_reducible refine k_move ?_); refine m_move rfl ?_) | ((with_reducible refine k_assign ?_); refine m_assign rfl ?_) | ((with_reducible refine k_bin ?_); refine x_sub_in rfl rfl (by omega) ?_)  | refine e_nrm ?_ | refine x_none rfl ?_ | with_reducible refine q_then ?_ | with_reducible refine q_block ?_ | with_reducible refine awp_skip ?_ | ((with_reducible refine w_region ?_ ?_); kernel_rfl))
        refine ⟨(E, k - 1, L ++ [s]), hNx, by show (k - 1).toNat < k.toNat; omega, ⟨rfl, rfl, rfl, ?_, rfl, trivial⟩, ⟨rfl, ?_, ?_, trivial⟩⟩
        · show AV.v _ = AV.v _
          exact congrArg (fun s => AV.v (.string s)) htx
        · exact hc_buf (by rw [List.map_append]; rfl)
        · exact hc_buf (by rw [List.flatMap_append]; simp [hw0])
  · have hzt := strL_size (txtOf L)
    have hjl := hI.jlen
    have hjw := joinW_len (L.flatMap wordsL)
    have hl1 := lines_A (G := X.G) (strL (txtOf L)) hM (by omega)
    rw [strL_data, txt_lines hI.ok (by omega)] at hl1
    have hx2 : strL (txtOf L) ++ ⟨#[120]⟩ = strL (txtOf L ++ [120]) := by
      refine ba_ext' ?_
      simp [strL]
    have hl2 := lines_A (G := X.G) (strL (txtOf L ++ [120])) hM (by rw [strL_size]; simp; omega)
    rw [strL_data, lines_x] at hl2
    have hx3 : ⟨#[31, 10]⟩ ++ strL (txtOf L) = strL (31 :: 10 :: txtOf L) := by
      refine ba_ext' ?_
      simp [strL]
    have hl3 := lines_A (G := X.G) (strL (31 :: 10 :: txtOf L)) hM (by rw [strL_size]; simp; omega)
    rw [strL_data, lines_odd] at hl3
    have hS1 := same_A (G := X.G) L L (by omega)
    rw [decide_eq_true rfl] at hS1
    have hJ := jn_A (G := X.G) (L.flatMap wordsL) (by omega) (by omega)
    have hW := words_A (G := X.G) (strL (joinW (L.flatMap wordsL))) (by rw [strL_size]; omega)
    rw [strL_data, words_join words_flat] at hW
    have hS2 := same_A (G := X.G) (L.flatMap wordsL) (L.flatMap wordsL) (by omega)
    rw [decide_eq_true rfl] at hS2
    refine awp_freeze (t := 4) (s := 46) rfl rfl ?_
    refine awp_freeze (t := 5) (s := 58) rfl rfl ?_
    repeat (first | ((with_reducible refine k_move ?_); refine m_move rfl ?_)  | refine x_none rfl ?_ | with_reducible refine q_then ?_ | with_reducible refine q_then_exit ?_ | with_reducible refine awp_seq ?_ | with_reducible refine awp_exit ?_ | ((with_reducible refine q_block_exit ?_ ?_); rfl) | ((with_reducible refine w_region ?_ ?_); kernel_rfl))
    refine x_call0 (hl1) (by repeat' (first | exact trivial | exact Ren.v _ | exact Ren.sl _ _ | exact Ren.ep _ | exact Ren.ptr _ _ _ _ rfl | exact Ren.bs _ _ _ _ _ rfl | exact Ren.nil _ | exact Ren.own _ _ _ _ ⟨_, rfl⟩ | refine ren_ag ?_ | refine ren_tu ?_ | refine ren_fn ?_ | refine ⟨?_, ?_⟩)) (by repeat' (first | exact trivial | exact RenB.v _ | exact RenB.sl _ _ | exact RenB.ep _ | exact RenB.ptr _ _ _ _ rfl | refine renb_ag ?_ | refine renb_tu ?_ | refine ⟨?_, ?_⟩)) ?_
    repeat (first | ((with_reducible refine k_move ?_); refine m_move rfl ?_) | ((with_reducible refine k_assign ?_); refine m_assign rfl ?_) | ((with_reducible refine k_extract ?_); refine x_extract rfl rfl ?_)  | refine e_nrm ?_ | refine x_none rfl ?_ | with_reducible refine q_then ?_ | with_reducible refine awp_seq ?_ | ((with_reducible refine w_region ?_ ?_); kernel_rfl))
    refine x_add_s rfl rfl (by show (strL (txtOf L)).size + 1 ≤ _; omega) ?_
    rw [hx2]
    repeat (first   | refine x_none rfl ?_  )
    refine x_call0 (hl2) (by repeat' (first | exact trivial | exact Ren.v _ | exact Ren.sl _ _ | exact Ren.ep _ | exact Ren.ptr _ _ _ _ rfl | exact Ren.bs _ _ _ _ _ rfl | exact Ren.nil _ | exact Ren.own _ _ _ _ ⟨_, rfl⟩ | refine ren_ag ?_ | refine ren_tu ?_ | refine ren_fn ?_ | refine ⟨?_, ?_⟩)) (by repeat' (first | exact trivial | exact RenB.v _ | exact RenB.sl _ _ | exact RenB.ep _ | exact RenB.ptr _ _ _ _ rfl | refine renb_ag ?_ | refine renb_tu ?_ | refine ⟨?_, ?_⟩)) ?_
    repeat (first | ((with_reducible refine k_move ?_); refine m_move rfl ?_) | ((with_reducible refine k_assign ?_); refine m_assign rfl ?_) | ((with_reducible refine k_extract ?_); refine x_extract rfl rfl ?_)  | refine e_nrm ?_ | refine x_none rfl ?_ | with_reducible refine q_then ?_ | with_reducible refine awp_seq ?_ | ((with_reducible refine w_region ?_ ?_); kernel_rfl))
    refine x_add_s rfl rfl (by show 2 + (strL (txtOf L)).size ≤ _; omega) ?_
    rw [hx3]
    repeat (first   | refine x_none rfl ?_  )
    refine x_call0 (hl3) (by repeat' (first | exact trivial | exact Ren.v _ | exact Ren.sl _ _ | exact Ren.ep _ | exact Ren.ptr _ _ _ _ rfl | exact Ren.bs _ _ _ _ _ rfl | exact Ren.nil _ | exact Ren.own _ _ _ _ ⟨_, rfl⟩ | refine ren_ag ?_ | refine ren_tu ?_ | refine ren_fn ?_ | refine ⟨?_, ?_⟩)) (by repeat' (first | exact trivial | exact RenB.v _ | exact RenB.sl _ _ | exact RenB.ep _ | exact RenB.ptr _ _ _ _ rfl | refine renb_ag ?_ | refine renb_tu ?_ | refine ⟨?_, ?_⟩)) ?_
    repeat (first | ((with_reducible refine k_move ?_); refine m_move rfl ?_) | ((with_reducible refine k_assign ?_); refine m_assign rfl ?_) | ((with_reducible refine k_extract ?_); refine x_extract rfl rfl ?_)  | refine e_nrm ?_ | refine x_none rfl ?_ | refine x_run_t rfl rfl (by first | rfl | assumption) ?_ | with_reducible refine q_then ?_ | with_reducible refine awp_seq ?_ | ((with_reducible refine w_region ?_ ?_); kernel_rfl))
    refine x_call0 (hS1) (by repeat' (first | exact trivial | exact Ren.v _ | exact Ren.sl _ _ | exact Ren.ep _ | exact Ren.ptr _ _ _ _ rfl | exact Ren.bs _ _ _ _ _ rfl | exact Ren.nil _ | exact Ren.own _ _ _ _ ⟨_, rfl⟩ | refine ren_ag ?_ | refine ren_tu ?_ | refine ren_fn ?_ | refine ⟨?_, ?_⟩)) (by repeat' (first | exact trivial | exact RenB.v _ | exact RenB.sl _ _ | exact RenB.ep _ | exact RenB.ptr _ _ _ _ rfl | refine renb_ag ?_ | refine renb_tu ?_ | refine ⟨?_, ?_⟩)) ?_
    repeat (first | ((with_reducible refine k_move ?_); refine m_move rfl ?_) | ((with_reducible refine k_un ?_); refine x_not rfl ?_) | ((with_reducible refine k_pick ?_); refine m_pickt rfl (by first | rfl | assumption) rfl ?_)  | refine x_none rfl ?_ | refine x_run_t rfl rfl (by first | rfl | assumption) ?_  )
    refine x_call0 (hJ) (by repeat' (first | exact trivial | exact Ren.v _ | exact Ren.sl _ _ | exact Ren.ep _ | exact Ren.ptr _ _ _ _ rfl | exact Ren.bs _ _ _ _ _ rfl | exact Ren.nil _ | exact Ren.own _ _ _ _ ⟨_, rfl⟩ | refine ren_ag ?_ | refine ren_tu ?_ | refine ren_fn ?_ | refine ⟨?_, ?_⟩)) (by repeat' (first | exact trivial | exact RenB.v _ | exact RenB.sl _ _ | exact RenB.ep _ | exact RenB.ptr _ _ _ _ rfl | refine renb_ag ?_ | refine renb_tu ?_ | refine ⟨?_, ?_⟩)) ?_
    repeat (first   | refine x_run_t rfl rfl (by first | rfl | assumption) ?_  )
    refine x_call0 (hW) (by repeat' (first | exact trivial | exact Ren.v _ | exact Ren.sl _ _ | exact Ren.ep _ | exact Ren.ptr _ _ _ _ rfl | exact Ren.bs _ _ _ _ _ rfl | exact Ren.nil _ | exact Ren.own _ _ _ _ ⟨_, rfl⟩ | refine ren_ag ?_ | refine ren_tu ?_ | refine ren_fn ?_ | refine ⟨?_, ?_⟩)) (by repeat' (first | exact trivial | exact RenB.v _ | exact RenB.sl _ _ | exact RenB.ep _ | exact RenB.ptr _ _ _ _ rfl | refine renb_ag ?_ | refine renb_tu ?_ | refine ⟨?_, ?_⟩)) ?_
    repeat (first | ((with_reducible refine k_move ?_); refine m_move rfl ?_)  | refine x_run_t rfl rfl (by first | rfl | assumption) ?_  )
    refine x_call0 (hS2) (by repeat' (first | exact trivial | exact Ren.v _ | exact Ren.sl _ _ | exact Ren.ep _ | exact Ren.ptr _ _ _ _ rfl | exact Ren.bs _ _ _ _ _ rfl | exact Ren.nil _ | exact Ren.own _ _ _ _ ⟨_, rfl⟩ | refine ren_ag ?_ | refine ren_tu ?_ | refine ren_fn ?_ | refine ⟨?_, ?_⟩)) (by repeat' (first | exact trivial | exact RenB.v _ | exact RenB.sl _ _ | exact RenB.ep _ | exact RenB.ptr _ _ _ _ rfl | refine renb_ag ?_ | refine renb_tu ?_ | refine ⟨?_, ?_⟩)) ?_
    repeat (first | ((with_reducible refine k_move ?_); refine m_move rfl ?_) | ((with_reducible refine k_pick ?_); refine m_pickt rfl (by first | rfl | assumption) rfl ?_)  | refine x_none rfl ?_ | refine x_run_t rfl rfl (by first | rfl | assumption) ?_  )
    refine x_call0 (awake_A hC hG) (by repeat' (first | exact trivial | exact Ren.v _ | exact Ren.sl _ _ | exact Ren.ep _ | exact Ren.ptr _ _ _ _ rfl | exact Ren.bs _ _ _ _ _ rfl | exact Ren.nil _ | exact Ren.own _ _ _ _ ⟨_, rfl⟩ | refine ren_ag ?_ | refine ren_tu ?_ | refine ren_fn ?_ | refine ⟨?_, ?_⟩)) (by repeat' (first | exact trivial | exact RenB.v _ | exact RenB.sl _ _ | exact RenB.ep _ | exact RenB.ptr _ _ _ _ rfl | refine renb_ag ?_ | refine renb_tu ?_ | refine ⟨?_, ?_⟩)) ?_
    repeat (first | ((with_reducible refine k_assign ?_); refine m_assign rfl ?_) | ((with_reducible refine k_pick ?_); refine m_pickt rfl (by first | rfl | assumption) rfl ?_)  | refine e_nrm ?_ | refine x_none rfl ?_ | with_reducible refine q_then ?_ | with_reducible refine awp_ret ?_ )
    refine ret_v (by first | exact .inr rfl | exact .inl rfl) rfl rfl ?_
    rfl
end Go.Proofs.YtblopmoapfcfhaaDoor
