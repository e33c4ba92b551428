/- strings.FieldsFunc at spaces, lexeme.Words and its reference, by the abstract machine; conditions: none. -/
import Derived.Test.YtgpglcccjkpmdaaDoorJnA
import Derived.Test.YtgpglcccjkpmdaaDoorNmA
set_option linter.unusedVariables false
set_option linter.unusedSimpArgs false
namespace Go.Proofs.YtgpglcccjkpmdaaDoor
open Go Go.RowKit Go.Sort
set_option maxRecDepth 10000
variable {G : Nat → Option (List Value)}
/-- What a call of the library gives back: a new row of strings. -/
theorem acalls_rows {P : Program} {f : FuncId} {args : List AV} {L : List (List UInt8)} (he : Enter P f) (hl : L.length ≤ maxLen)
    (h : ∀ M w (vs : List Value), LiveM M w → (∀ g us, G g = some us → M g = some ⟨us⟩) → vs.length = args.length → (∀ (j : Nat) (x : AV) (u : Value), args[j]? = some x → vs[j]? = some u → Rep M (refρ []) x u) →
      Calls P f ⟨vs⟩ w (fun e w' => Below w.heap.size w w' ∧ ∃ A cur t fr, e = .returned (.slice (some ⟨A, 0, none⟩) L.length L.length) ∧ w.heap.size ≤ A ∧ w'.heap[A]? = some (.cells ⟨cur⟩ t fr) ∧ ∀ (j : Nat) (x : List UInt8), L[j]? = some x → cur[j]? = some (.string (strL x)))) :
    ACalls P G f args [] (.sl 1 (L.map svL)) [] := by
  refine ⟨he, fun M w gs us hlv hG hnd hr hv hrep => ?_⟩
  have hgs : gs = [] := List.eq_nil_of_length_eq_zero hr.len
  subst hgs
  refine (h M w us hlv hG hv hrep).mono ?_
  rintro en w' ⟨hb, A, cur, t, fr, rfl, hA, hh, hc⟩
  have hMA : M A = none := by
    cases hq : M A with
    | none => rfl
    | some arr =>
      obtain ⟨t', fr', h1⟩ := hlv A arr hq
      have := (Array.getElem?_eq_some_iff.1 h1).1
      omega
  have hmono : ∀ g a, M g = some a → updM M A ⟨cur⟩ g = some a := updM_mono hMA
  have hself : updM M A ⟨cur⟩ A = some ⟨cur⟩ := by simp [updM]
  refine ⟨_, updM M A ⟨cur⟩, [], rfl, hmono, fun g arr e => ?_, hb.os, hb.tape, hb.output, hb.size, fun g hg _ => hb.block g hg, fun g hg e => ?_, by simp, by simp, ⟨rfl, by simp⟩, ?_⟩
  · by_cases hg : g = A
    · subst hg
      rw [hself] at e
      injection e with e
      subst e
      exact ⟨t, fr, hh⟩
    · unfold updM at e
      rw [if_neg hg] at e
      obtain ⟨t', fr', h1⟩ := hlv g arr e
      exact ⟨t', fr', (hb.block g (Array.getElem?_eq_some_iff.1 h1).1).trans h1⟩
  · unfold updM
    rw [if_neg (by omega)]
    exact e
  · have key : Rep (updM M A ⟨cur⟩) (refρ []) (.sl 1 (L.map svL)) (.slice (some ⟨A, 0, none⟩) (L.map svL).length L.length) := by
      refine .sl _ 1 _ _ _ (fun k _ => ((L[k]?).map fun x => Value.string (strL x)).getD undef) (by simp) hl (fun k x j y hk hy => ?_) (fun k x hk => ?_)
      · rw [List.getElem?_map] at hk
        cases hx : L[k]? with
        | none => rw [hx] at hk; cases hk
        | some z =>
          rw [hx] at hk
          injection hk with hk
          subst hk
          match j, hy with
          | 0, hy => injection hy with hy; subst hy; exact .v _ _
      · rw [List.getElem?_map] at hk
        cases hx : L[k]? with
        | none => rw [hx] at hk; cases hk
        | some z =>
          rw [hx] at hk
          injection hk with hk
          subst hk
          refine ⟨rfl, A, 0, ⟨cur⟩, rfl, hself, fun j hj => ?_⟩
          obtain rfl : j = 0 := by omega
          have := hc k z hx
          simpa using this
    rw [List.length_map] at key
    exact key
/-- strings.FieldsFunc at spaces. -/
theorem space_A (r : Int) : ACalls Tryd.prog G 59 [.v (.int .i32 r)] [] (.v (.bool (r == 32))) [] := by
  refine acalls_of tbOk (enter_of Tryd.func59 (by kernel_rfl) rfl) Tryd.func59 rfl _ Tryd.ntmps59 (Nat.le_of_ble_eq_true rfl) fun X hX => ?_
  subst hX
  repeat (first | ((with_reducible refine k_move ?_); refine m_move rfl ?_) | ((with_reducible refine k_assign ?_); refine m_assign rfl ?_) | ((with_reducible refine k_bin ?_); refine m_binI rfl rfl rfl ?_)  | refine e_nrm ?_ | refine x_none rfl ?_ | with_reducible refine q_then ?_ | with_reducible refine awp_seq ?_ | with_reducible refine awp_ret ?_ | ((with_reducible refine w_region ?_ ?_); kernel_rfl))
  refine ret_v (by first | exact .inr rfl | exact .inl rfl) rfl rfl ?_
  rfl
theorem fields_A (s : ByteArray) (hs : s.size ≤ 4294967296) : ACalls Tryd.prog G 58 [.v (.string s), .fn 59 []] [] (.sl 1 ((wordsL s.data.toList).map svL)) [] := by
  have hfw := fields_words s
  have hlen : (Lib.goFieldsP spP s).length = (wordsL s.data.toList).length := by rw [hfw, List.length_map]
  have hcnt := wl_count (l := s.data.toList) (cur := [])
  have hz : s.size = s.data.toList.length := by simp
  refine acalls_rows (enter_of Tryd.func58 (by kernel_rfl) rfl) (by unfold maxLen; show (wl [] s.data.toList).length ≤ _; omega) fun M w vs hl hGM hv hrep => ?_
  match vs, hv with
  | [u, v], _ =>
    have h1 := (hrep 0 _ u rfl rfl).v_inv
    subst h1
    have h2 := hrep 1 _ v rfl rfl
    cases h2 with
    | fn _ _ _ vs0 hl0 _ =>
      obtain rfl : vs0 = [] := List.eq_nil_of_length_eq_zero (by simpa using hl0)
      refine (Tryd.strings_FieldsFunc_grows 59 ⟨[]⟩ (enter_of Tryd.func59 (by kernel_rfl) rfl) spP s w hs (fun W x hx hb => ?_)).mono ?_
      · have hc := space_A (G := fun _ => none) (x : Int)
        refine (hc.2 (fun _ => none) W [] [.int .i32 x] (fun g a e => by cases e) (fun g us e => by cases e) (by simp) ⟨rfl, by simp⟩ rfl (fun j y u a b => ?_)).mono ?_
        · match j, a, b with
          | 0, a, b => cases a; cases b; exact .v _ _
        · rintro e w' ⟨u, M', gs', rfl, -, -, q1, q2, q3, q4, q5, -, -, -, -, q6⟩
          have := q6.v_inv
          subst this
          refine ⟨?_, q1, q2, q3, q4, fun g hg => q5 g hg (by simp)⟩
          have : ((x : Int) == 32) = spP x := by
            unfold spP
            rw [Bool.eq_iff_iff]
            simp
            omega
          rw [this]
      · rintro e w' ⟨A, rfl, hA, hown, hb⟩
        obtain ⟨-, h3⟩ := hown
        rcases h3 with ⟨h3, -⟩ | ⟨g, cap, cur, h3, h4, h5, h6, h7, h8, h9⟩
        · cases h3
        · injection h3 with h3
          injection h3 with h3
          injection h3 with h3
          subst h3
          obtain ⟨cl⟩ := cur
          refine ⟨hb, A, cl, _, (0, 0), by rw [hlen], hA, h5, fun j x hx => ?_⟩
          have h9' : cl.take ((Lib.goFieldsP spP s).length * 1) = (Lib.goFieldsP spP s).map Value.string := h9
          have hj : ((Lib.goFieldsP spP s).map Value.string)[j]? = some (.string (strL x)) := by
            rw [hfw, List.map_map, List.getElem?_map, hx]; rfl
          rw [← h9', List.getElem?_take] at hj
          split at hj
          · exact hj
          · cases hj
theorem words_A (s : ByteArray) (hs : s.size ≤ 4294967296) : ACalls Tryd.prog G 33 [.v (.string s)] [] (.sl 1 ((wordsL s.data.toList).map svL)) [] := by
  refine acalls_of tbOk (enter_of Tryd.func33 (by kernel_rfl) rfl) Tryd.func33 rfl _ Tryd.ntmps33 (Nat.le_of_ble_eq_true rfl) fun X hX => ?_
  subst hX
  repeat (first | ((with_reducible refine k_move ?_); refine m_move rfl ?_) | ((with_reducible refine k_assign ?_); refine m_assign rfl ?_)  | refine e_nrm ?_ | refine x_none rfl ?_ | with_reducible refine q_then ?_ | with_reducible refine awp_seq ?_ | ((with_reducible refine w_region ?_ ?_); kernel_rfl))
  refine x_call0 (fields_A s hs) (by repeat' (first | exact trivial | exact Ren.v _ | exact Ren.sl _ _ | exact Ren.ep _ | exact Ren.ptr _ _ _ _ rfl | exact Ren.bs _ _ _ _ _ rfl | exact Ren.nil _ | exact Ren.own _ _ _ _ ⟨_, rfl⟩ | refine ren_ag ?_ | refine ren_tu ?_ | refine ren_fn ?_ | refine ⟨?_, ?_⟩)) (by repeat' (first | exact trivial | exact RenB.v _ | exact RenB.sl _ _ | exact RenB.ep _ | exact RenB.ptr _ _ _ _ rfl | refine renb_ag ?_ | refine renb_tu ?_ | refine ⟨?_, ?_⟩)) ?_
  repeat (first | ((with_reducible refine k_assign ?_); refine m_assign rfl ?_)  | refine e_nrm ?_ | refine x_none rfl ?_ | with_reducible refine q_then ?_ | with_reducible refine awp_ret ?_ )
  refine ret0_1 (by first | exact .inr rfl | exact .inl rfl) rfl rfl ?_
  repeat' (first | exact trivial | exact Ren.v _ | exact Ren.sl _ _ | exact Ren.ep _ | exact Ren.ptr _ _ _ _ rfl | exact Ren.bs _ _ _ _ _ rfl | exact Ren.nil _ | exact Ren.own _ _ _ _ ⟨_, rfl⟩ | refine ren_ag ?_ | refine ren_tu ?_ | refine ren_fn ?_ | refine ⟨?_, ?_⟩)
theorem ba_ext' {s : ByteArray} {l : List UInt8} (h : s.data.toList = l) : s = strL l := by
  subst h; rfl
theorem ext_strL (s : ByteArray) (a b : Nat) : s.extract a b = strL (extL s (a, b)) := by
  refine ba_ext' ?_
  rw [ByteArray.data_extract, Array.toList_extract, List.extract_eq_take_drop, extL, List.drop_take]
theorem extL_self (s : ByteArray) (a : Nat) : extL s (a, a) = [] := by
  unfold extL
  simp only
  exact List.drop_of_length_le (by rw [List.length_take]; omega)
theorem extL_next {s : ByteArray} {a k : Nat} {c : UInt8} (hx : s.data.toList[k]? = some c) (h : a ≤ k) : extL s (a, k + 1) = extL s (a, k) ++ [c] := by
  rw [extL_app s h (show k ≤ k + 1 by omega)]
  congr 1
  unfold extL
  simp only
  have hlt := lt_at hx
  rw [take_at hx, List.drop_append_of_le_length (by rw [List.length_take]; omega), List.drop_of_length_le (by rw [List.length_take]; omega)]
  rfl
set_option maxHeartbeats 2000000 in
theorem rwords_A (s : ByteArray) (hs : s.size ≤ 4294967296) : ACalls Tryd.prog G 40 [.v (.string s)] [] (.sl 1 ((wordsL s.data.toList).map svL)) [] := by
  have hz := nsizeS s
  refine acalls_of tbOk (enter_of Tryd.func40 (by kernel_rfl) rfl) Tryd.func40 rfl _ Tryd.ntmps40 (Nat.le_of_ble_eq_true rfl) fun X hX => ?_
  subst hX
  repeat (first | ((with_reducible refine k_assign ?_); refine m_assign rfl ?_)  | refine e_nrm ?_ | refine x_none rfl ?_ | with_reducible refine q_then ?_ | with_reducible refine awp_seq ?_ | with_reducible refine awp_block ?_ | ((with_reducible refine w_region ?_ ?_); kernel_rfl))
  refine awp_own (t := 3) (s := 31) 9 1 rfl rfl ?_
  refine awp_loop (ι := Nat × Nat × List (List UInt8)) (fun q => q.2.1 ≤ s.size + 1 ∧ q.2.2.length ≤ q.2.1 ∧ (q.2.1 ≤ s.size → q.1 ≤ q.2.1 ∧ q.2.2 ++ wl (extL s (q.1, q.2.1)) (s.data.toList.drop q.2.1) = wordsL s.data.toList) ∧ (s.size < q.2.1 → q.2.2 = wordsL s.data.toList)) (fun q => s.size + 1 - q.2.1) (fun v q => [(0, .v (.string s)), (3, .own 31 (v 31)), (4, .v (.int .i64 (q.1 : Nat))), (5, .v (.int .i64 (q.2.1 : Nat)))]) (fun v q => [(31, .buf 9 1 (q.2.2.map svL))]) ?_ ?_
  · refine ⟨(0, 0, []), ⟨Nat.zero_le _, Nat.zero_le _, fun _ => ⟨Nat.le_refl _, ?_⟩, fun h => absurd h (Nat.not_lt_zero _)⟩, trivial, ⟨rfl, rfl, rfl, rfl, trivial⟩, ⟨rfl, trivial⟩⟩
    show [] ++ wl (extL s (0, 0)) _ = _
    rw [extL_self]; rfl
  rintro v ⟨a, k, D⟩ ⟨hk, hD, h1, h2⟩
  simp only at hk hD h1 h2
  dsimp only
  repeat (first | ((with_reducible refine k_move ?_); refine m_move rfl ?_) | ((with_reducible refine k_call ?_); refine x_len_str (by exact Tryd.underlying9) rfl ?_) | ((with_reducible refine k_bin ?_); refine m_binI rfl rfl rfl ?_)  | refine e_nrm ?_ | refine x_none rfl ?_ | with_reducible refine q_then ?_ | with_reducible refine awp_seq ?_ | ((with_reducible refine w_region ?_ ?_); kernel_rfl))
  refine w_cond rfl (fun h => ?_) (fun h => ?_)
  · have hkn : k ≤ s.size := by simp at h; omega
    obtain ⟨ha, hw⟩ := h1 hkn
    repeat (first | ((with_reducible refine k_move ?_); refine m_move rfl ?_) | ((with_reducible refine k_call ?_); refine x_len_str (by exact Tryd.underlying9) rfl ?_) | ((with_reducible refine k_bin ?_); refine m_binI rfl rfl rfl ?_)  | refine x_none rfl ?_ | with_reducible refine q_then ?_ | with_reducible refine awp_seq ?_ | with_reducible refine awp_block ?_ | with_reducible refine awp_skip ?_ | ((with_reducible refine w_region ?_ ?_); kernel_rfl))
    by_cases he : k = s.size
    · subst he
      have p1 : ((s.size : Int) == (s.size : Int)) = true := by simp
      rw [List.drop_of_length_le (by omega)] at hw
      repeat (first | ((with_reducible refine k_move ?_); refine m_move rfl ?_) | ((with_reducible refine k_pick ?_); refine m_pickt rfl (by first | rfl | assumption) rfl ?_) | ((with_reducible refine k_bin ?_); refine m_binI rfl rfl rfl ?_)  | refine e_nrm ?_ | refine x_none rfl ?_ | refine x_skip_f rfl rfl (by first | rfl | assumption) ?_ | with_reducible refine q_then ?_ | with_reducible refine awp_seq ?_ | ((with_reducible refine w_region ?_ ?_); kernel_rfl) | refine w_cond_t rfl (by first | rfl | assumption) ?_)
      refine w_cond rfl (fun hc => ?_) (fun hc => ?_)
      · have hlt : a < s.size := by simpa using hc
        rw [wl, if_neg (extL_ne s hlt (Nat.le_refl _))] at hw
        repeat (first | ((with_reducible refine k_move ?_); refine m_move rfl ?_) | ((with_reducible refine k_slice ?_); refine x_sliceS (by exact Tryd.underlying9) rfl rfl rfl (by refine ⟨?_, ?_, ?_⟩ <;> omega) ?_) | ((with_reducible refine k_buildSlice ?_); refine m_buildSlice tbOk rfl rfl rfl rfl rfl (by omega) rfl rfl rfl ?_) | refine x_none rfl ?_  | ((with_reducible refine w_region ?_ ?_); kernel_rfl))
        rw [ext_strL]
        refine x_append_own tbOk rfl rfl rfl rfl rfl (by decide) rfl rfl rfl rfl rfl (fun x hx => by simp at hx; subst hx; rfl) (by simp only [List.length_map, List.length_cons, List.length_nil]; omega) (by simp only [List.length_map, List.length_cons, List.length_nil]; omega) ?_
        repeat (first | ((with_reducible refine k_move ?_); refine m_move rfl ?_) | ((with_reducible refine k_assign ?_); refine m_assign rfl ?_) | ((with_reducible refine k_bin ?_); refine x_add_in rfl rfl (by omega) ?_)  | refine e_nrm ?_ | refine x_none rfl ?_ | with_reducible refine q_then ?_ | with_reducible refine q_block ?_ | ((with_reducible refine w_region ?_ ?_); kernel_rfl))
        refine ⟨(s.size + 1, s.size + 1, D ++ [extL s (a, s.size)]), ⟨Nat.le_refl _, by simp; omega, fun h => absurd h (by show ¬ s.size + 1 ≤ s.size; omega), fun _ => hw⟩, by show s.size + 1 - (s.size + 1) < s.size + 1 - s.size; omega, ⟨rfl, rfl, rfl, rfl, trivial⟩, ⟨?_, trivial⟩⟩
        exact hc_buf (by rw [List.map_append]; rfl)
      · have hge : a = s.size := by simp at hc; omega
        subst hge
        rw [extL_self, wl, if_pos rfl, List.append_nil] at hw
        repeat (first | ((with_reducible refine k_move ?_); refine m_move rfl ?_) | ((with_reducible refine k_assign ?_); refine m_assign rfl ?_) | ((with_reducible refine k_bin ?_); refine x_add_in rfl rfl (by omega) ?_)  | refine e_nrm ?_ | refine x_none rfl ?_ | with_reducible refine q_then ?_ | with_reducible refine q_block ?_ | with_reducible refine awp_skip ?_ | ((with_reducible refine w_region ?_ ?_); kernel_rfl))
        exact ⟨(s.size + 1, s.size + 1, D), ⟨Nat.le_refl _, by show D.length ≤ s.size + 1; omega, fun h => absurd h (by show ¬ s.size + 1 ≤ s.size; omega), fun _ => hw⟩, by show s.size + 1 - (s.size + 1) < s.size + 1 - s.size; omega, ⟨rfl, rfl, rfl, rfl, trivial⟩, ⟨rfl, trivial⟩⟩
    · have hlt : k < s.size := by omega
      have p1 : ((k : Int) == (s.size : Int)) = false := by rw [beq_eq_false_iff_ne]; omega
      obtain ⟨c, hx⟩ := some_at (L := s.data.toList) (k := k) (by omega)
      have ix := nidxS s k c hx
      rw [drop_at hx, wl] at hw
      repeat (first | ((with_reducible refine k_move ?_); refine m_move rfl ?_) | ((with_reducible refine k_pick ?_); refine m_pickf rfl (by first | rfl | assumption) rfl ?_) | ((with_reducible refine k_index ?_); refine x_index rfl rfl (by assumption) ?_) | ((with_reducible refine k_bin ?_); refine m_binI rfl rfl rfl ?_)  | refine e_nrm ?_ | refine x_none rfl ?_ | refine x_run_f rfl rfl (by first | rfl | assumption) ?_ | with_reducible refine q_then ?_ )
      by_cases hc32 : c = 32
      · subst hc32
        have p2 : (((32 : UInt8).toNat : Int) == 32) = true := rfl
        rw [if_pos rfl] at hw
        repeat (first | ((with_reducible refine k_move ?_); refine m_move rfl ?_) | ((with_reducible refine k_bin ?_); refine m_binI rfl rfl rfl ?_)  | refine e_nrm ?_ | refine x_none rfl ?_ | with_reducible refine q_then ?_ | with_reducible refine awp_seq ?_ | ((with_reducible refine w_region ?_ ?_); kernel_rfl) | refine w_cond_t rfl (by first | rfl | assumption) ?_)
        refine w_cond rfl (fun hc => ?_) (fun hc => ?_)
        · have hlt2 : a < k := by simpa using hc
          rw [if_neg (extL_ne s hlt2 (by omega))] at hw
          repeat (first | ((with_reducible refine k_move ?_); refine m_move rfl ?_) | ((with_reducible refine k_slice ?_); refine x_sliceS (by exact Tryd.underlying9) rfl rfl rfl (by refine ⟨?_, ?_, ?_⟩ <;> omega) ?_) | ((with_reducible refine k_buildSlice ?_); refine m_buildSlice tbOk rfl rfl rfl rfl rfl (by omega) rfl rfl rfl ?_) | refine x_none rfl ?_  | ((with_reducible refine w_region ?_ ?_); kernel_rfl))
          rw [ext_strL]
          refine x_append_own tbOk rfl rfl rfl rfl rfl (by decide) rfl rfl rfl rfl rfl (fun x hx => by simp at hx; subst hx; rfl) (by simp only [List.length_map, List.length_cons, List.length_nil]; omega) (by simp only [List.length_map, List.length_cons, List.length_nil]; omega) ?_
          repeat (first | ((with_reducible refine k_move ?_); refine m_move rfl ?_) | ((with_reducible refine k_assign ?_); refine m_assign rfl ?_) | ((with_reducible refine k_bin ?_); refine x_add_in rfl rfl (by omega) ?_)  | refine e_nrm ?_ | refine x_none rfl ?_ | with_reducible refine q_then ?_ | with_reducible refine q_block ?_ | ((with_reducible refine w_region ?_ ?_); kernel_rfl))
          refine ⟨(k + 1, k + 1, D ++ [extL s (a, k)]), ⟨by show k + 1 ≤ s.size + 1; omega, by simp; omega, fun _ => ⟨Nat.le_refl _, ?_⟩, fun h => absurd h (by show ¬ s.size < k + 1; omega)⟩, by show s.size + 1 - (k + 1) < s.size + 1 - k; omega, ⟨rfl, rfl, rfl, rfl, trivial⟩, ⟨?_, trivial⟩⟩
          · show D ++ [extL s (a, k)] ++ wl (extL s (k + 1, k + 1)) _ = _
            rw [extL_self, ← hw]; simp
          · exact hc_buf (by rw [List.map_append]; rfl)
        · have hge : a = k := by simp at hc; omega
          subst hge
          rw [extL_self, if_pos rfl] at hw
          repeat (first | ((with_reducible refine k_move ?_); refine m_move rfl ?_) | ((with_reducible refine k_assign ?_); refine m_assign rfl ?_) | ((with_reducible refine k_bin ?_); refine x_add_in rfl rfl (by omega) ?_)  | refine e_nrm ?_ | refine x_none rfl ?_ | with_reducible refine q_then ?_ | with_reducible refine q_block ?_ | with_reducible refine awp_skip ?_ | ((with_reducible refine w_region ?_ ?_); kernel_rfl))
          refine ⟨(a + 1, a + 1, D), ⟨by show a + 1 ≤ s.size + 1; omega, by show D.length ≤ a + 1; omega, fun _ => ⟨Nat.le_refl _, ?_⟩, fun h => absurd h (by show ¬ s.size < a + 1; omega)⟩, by show s.size + 1 - (a + 1) < s.size + 1 - a; omega, ⟨rfl, rfl, rfl, rfl, trivial⟩, ⟨rfl, trivial⟩⟩
          show D ++ wl (extL s (a + 1, a + 1)) _ = _
          rw [extL_self, ← hw]
      · have p2 : ((c.toNat : Int) == 32) = false := by
          rw [beq_eq_false_iff_ne]
          intro e
          exact hc32 (UInt8.toNat_inj.1 (by show c.toNat = 32; omega))
        rw [if_neg hc32] at hw
        repeat (first | ((with_reducible refine k_move ?_); refine m_move rfl ?_) | ((with_reducible refine k_assign ?_); refine m_assign rfl ?_) | ((with_reducible refine k_bin ?_); refine x_add_in rfl rfl (by omega) ?_)  | refine e_nrm ?_ | refine x_none rfl ?_ | with_reducible refine q_then ?_ | with_reducible refine q_block ?_ | with_reducible refine awp_skip ?_ | ((with_reducible refine w_region ?_ ?_); kernel_rfl) | refine w_cond_f rfl (by first | rfl | assumption) ?_)
        refine ⟨(a, k + 1, D), ⟨by show k + 1 ≤ s.size + 1; omega, by show D.length ≤ k + 1; omega, fun _ => ⟨by show a ≤ k + 1; omega, ?_⟩, fun h => absurd h (by show ¬ s.size < k + 1; omega)⟩, by show s.size + 1 - (k + 1) < s.size + 1 - k; omega, ⟨rfl, rfl, rfl, rfl, trivial⟩, ⟨rfl, trivial⟩⟩
        show D ++ wl (extL s (a, k + 1)) _ = _
        rw [extL_next hx ha, ← hw]
  · have hD2 := h2 (by simp at h; omega)
    subst hD2
    repeat (first | ((with_reducible refine k_move ?_); refine m_move rfl ?_) | ((with_reducible refine k_assign ?_); refine m_assign rfl ?_)  | refine e_nrm ?_ | refine x_none rfl ?_ | with_reducible refine q_then ?_ | with_reducible refine q_then_exit ?_ | with_reducible refine awp_seq ?_ | with_reducible refine awp_exit ?_ | with_reducible refine awp_ret ?_ | ((with_reducible refine q_block_exit ?_ ?_); rfl) | ((with_reducible refine w_region ?_ ?_); kernel_rfl))
    refine ret0_1 (by first | exact .inr rfl | exact .inl rfl) rfl rfl ?_
    repeat' (first | exact trivial | exact Ren.v _ | exact Ren.sl _ _ | exact Ren.ep _ | exact Ren.ptr _ _ _ _ rfl | exact Ren.bs _ _ _ _ _ rfl | exact Ren.nil _ | exact Ren.own _ _ _ _ ⟨_, rfl⟩ | refine ren_ag ?_ | refine ren_tu ?_ | refine ren_fn ?_ | refine ⟨?_, ?_⟩)
end Go.Proofs.YtgpglcccjkpmdaaDoor
