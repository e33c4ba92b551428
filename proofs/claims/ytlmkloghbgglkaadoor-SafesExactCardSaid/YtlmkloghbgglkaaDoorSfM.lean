/- permitofficefield.Safes, by the abstract machine: the safes that it makes, as a function of the deck; conditions: none. -/
import Derived.Test.YtlmkloghbgglkaaDoorSfQ
import Derived.Test.YtlmkloghbgglkaaDoorDkB
import Derived.Test.YtlmkloghbgglkaaDoorAbsZ
set_option linter.unusedVariables false
set_option linter.unusedSimpArgs false
namespace Go.Proofs.YtlmkloghbgglkaaDoor
open Go Go.RowKit
set_option maxRecDepth 10000
variable {G : Nat → Option (List Value)}
def nB1 : ByteArray := ⟨#[66, 49]⟩
def nC1 : ByteArray := ⟨#[67, 49]⟩
def nD1 : ByteArray := ⟨#[68, 49]⟩
def nms : List ByteArray := [nB1, nC1, nD1]
def keysM : Nat → Int → Dk → List Int → Dk × Int × List Int
  | 0, key, D, K => (D, key, K)
  | k + 1, key, D, K => keysM k (key + (1 + D.val 5)) D.next (K ++ [key + (1 + D.val 5)])
def nmAV (s : ByteArray) : AV := .v (.string s)
theorem nms_at {k : Nat} (h : k < 3) : ∃ s, nms[k]? = some s ∧ ([.v (.string nB1), .v (.string nC1), .v (.string nD1)] : List AV)[k]? = some (.v (.string s)) := by
  match k, h with
  | 0, _ => exact ⟨nB1, rfl, rfl⟩
  | 1, _ => exact ⟨nC1, rfl, rfl⟩
  | 2, _ => exact ⟨nD1, rfl, rfl⟩
def namesM : List ByteArray → Dk → List ByteArray → Dk × List ByteArray
  | [], D, K => (D, K)
  | s :: l, D, K => namesM l D.next (if D.val 4 = 0 then K ++ [s] else K)
def oneN (i : Nat) (D : Dk) : Int := (i : Int) + IntKind.i64.wrap (D.val 2 * 4)
def oneK (key : Int) (D : Dk) : Dk × Int × List Int := keysM (D.next.val 4).toNat key D.next.next []
def oneL (key : Int) (D : Dk) : Dk × List ByteArray := namesM nms (oneK key D).1 []
def safesM : Nat → Nat → Int → Dk → List Sf → Dk × List Sf
  | 0, _, _, D, L => (D, L)
  | f + 1, i, key, D, L => if (i : Int) ≤ 1 + D.val 4 then safesM f (i + 1) (oneK key D.next).2.1 (oneL key D.next).1 (L ++ [⟨oneN i D.next, (oneK key D.next).2.2, (oneL key D.next).2⟩]) else (D.next, L)
def safesF (D : Dk) : Dk × List Sf := safesM 5 1 0 D []
theorem keysM_ok : ∀ (k : Nat) (key : Int) (D : Dk) (K : List Int), DkOk D → DkOk (keysM k key D K).1 ∧ key ≤ (keysM k key D K).2.1 ∧ (keysM k key D K).2.1 ≤ key + 5 * k ∧ (keysM k key D K).2.2.length = K.length + k
  | 0, key, D, K, h => ⟨h, by show key ≤ key; omega, by show key ≤ _; omega, rfl⟩
  | k + 1, key, D, K, h => by
    have r := D.val_range (n := 5) (by omega)
    have a := r.2.1 (by omega)
    obtain ⟨x1, x2, x3, x4⟩ := keysM_ok k (key + (1 + D.val 5)) D.next (K ++ [key + (1 + D.val 5)]) h.next
    refine ⟨x1, ?_, ?_, ?_⟩
    · show key ≤ (keysM k (key + (1 + D.val 5)) D.next (K ++ [key + (1 + D.val 5)])).2.1; omega
    · show (keysM k (key + (1 + D.val 5)) D.next (K ++ [key + (1 + D.val 5)])).2.1 ≤ _; omega
    · show (keysM k (key + (1 + D.val 5)) D.next (K ++ [key + (1 + D.val 5)])).2.2.length = _
      rw [x4]; simp; omega
theorem namesM_ok : ∀ (l : List ByteArray) (D : Dk) (K : List ByteArray), DkOk D → DkOk (namesM l D K).1 ∧ (namesM l D K).2.length ≤ K.length + l.length ∧ ∀ n ∈ (namesM l D K).2, n ∈ K ∨ n ∈ l
  | [], D, K, h => ⟨h, Nat.le_refl _, fun n hn => .inl hn⟩
  | s :: l, D, K, h => by
    obtain ⟨x1, x2, x3⟩ := namesM_ok l D.next (if D.val 4 = 0 then K ++ [s] else K) h.next
    refine ⟨x1, ?_, fun n hn => ?_⟩
    · refine Nat.le_trans x2 ?_
      split <;> simp <;> omega
    · rcases x3 n hn with h | h
      · split at h
        · rcases List.mem_append.1 h with h | h
          · exact .inl h
          · exact .inr (by simp at h; simp [h])
        · exact .inl h
      · exact .inr (by simp [h])
/-- The bounds of the safes that are made. -/
def SmallS (s : Sf) : Prop := s.keys.length ≤ 3 ∧ s.locked.length ≤ 3 ∧ ∀ n ∈ s.locked, n ∈ nms
theorem SmallS.max {s : Sf} (h : SmallS s) : SfMax s := by
  obtain ⟨a, b, c⟩ := h
  refine ⟨by omega, by omega, fun n hn => ?_⟩
  have := c n hn
  simp [nms] at this
  rcases this with rfl | rfl | rfl <;> decide
theorem oneK_ok {key : Int} {D : Dk} (h : DkOk D) : DkOk (oneK key D).1 ∧ key ≤ (oneK key D).2.1 ∧ (oneK key D).2.1 ≤ key + 15 ∧ (oneK key D).2.2.length ≤ 3 := by
  have r := D.next.val_range (n := 4) (by omega)
  have a := r.2.1 (by omega)
  obtain ⟨x1, x2, x3, x4⟩ := keysM_ok (D.next.val 4).toNat key D.next.next [] h.next.next
  refine ⟨x1, x2, by unfold oneK; omega, by unfold oneK; rw [x4]; simp; omega⟩
theorem oneL_ok {key : Int} {D : Dk} (h : DkOk D) : DkOk (oneL key D).1 ∧ (oneL key D).2.length ≤ 3 ∧ ∀ n ∈ (oneL key D).2, n ∈ nms := by
  obtain ⟨x1, x2, x3⟩ := namesM_ok nms (oneK key D).1 [] (oneK_ok h).1
  exact ⟨x1, x2, fun n hn => (x3 n hn).elim (fun h => absurd h List.not_mem_nil) id⟩
theorem safesM_ok : ∀ (f i : Nat) (key : Int) (D : Dk) (L : List Sf), DkOk D → (∀ s ∈ L, SmallS s) → DkOk (safesM f i key D L).1 ∧ (∀ s ∈ (safesM f i key D L).2, SmallS s) ∧ (safesM f i key D L).2.length ≤ L.length + f ∧ L.length ≤ (safesM f i key D L).2.length
  | 0, i, key, D, L, h, g => ⟨h, g, Nat.le_refl _, Nat.le_refl _⟩
  | f + 1, i, key, D, L, h, g => by
    unfold safesM
    split
    · obtain ⟨x1, x2, x3, x4⟩ := safesM_ok f (i + 1) (oneK key D.next).2.1 (oneL key D.next).1 (L ++ [⟨oneN i D.next, (oneK key D.next).2.2, (oneL key D.next).2⟩]) (oneL_ok h.next).1 (fun s hs => by
        rcases List.mem_append.1 hs with hs | hs
        · exact g s hs
        · obtain rfl := List.mem_singleton.1 hs
          exact ⟨(oneK_ok h.next).2.2.2, (oneL_ok h.next).2⟩)
      refine ⟨x1, x2, ?_, ?_⟩
      · refine Nat.le_trans x3 ?_; simp; omega
      · refine Nat.le_trans ?_ x4; simp
    · exact ⟨h.next, g, by show L.length ≤ _; omega, Nat.le_refl _⟩
theorem safesF_ok {D : Dk} (h : DkOk D) : DkOk (safesF D).1 ∧ (∀ s ∈ (safesF D).2, SmallS s) ∧ (safesF D).2.length ≤ 5 ∧ 0 < (safesF D).2.length := by
  obtain ⟨x1, x2, x3, x4⟩ := safesM_ok 5 1 0 D [] h (fun s hs => absurd hs List.not_mem_nil)
  refine ⟨x1, x2, x3, ?_⟩
  have r := D.val_range (n := 4) (by omega)
  unfold safesF safesM
  rw [if_pos (by have := r.1; show (1 : Int) ≤ _; omega)]
  refine Nat.lt_of_lt_of_le (m := 1) (by decide) (safesM_ok 4 2 (oneK 0 D.next).2.1 (oneL 0 D.next).1 [⟨oneN 1 D.next, (oneK 0 D.next).2.2, (oneL 0 D.next).2⟩] (oneL_ok h.next).1 (fun s hs => ?_)).2.2.2
  simp at hs
  subst hs
  exact ⟨(oneK_ok h.next).2.2.2, (oneL_ok h.next).2⟩
set_option maxHeartbeats 4000000 in
theorem msafes_A (D : Dk) (hD : DkOk D) : ACalls Tryd.prog G 15 [.ptr (refB + 0) 0 0] [D.cells] (.sl 3 ((safesF D).2.map Sf.av)) [(safesF D).1.cells] := by
  refine acalls_of tbOk (enter_of Tryd.func15 (by kernel_rfl) rfl) Tryd.func15 rfl _ Tryd.ntmps15 (Nat.le_of_ble_eq_true rfl) fun X hX => ?_
  subst hX
  repeat (first | ((with_reducible refine k_assign ?_); refine m_assign rfl ?_)  | refine e_nrm ?_ | refine x_none rfl ?_ | with_reducible refine q_then ?_ | with_reducible refine awp_seq ?_ | with_reducible refine awp_block ?_ | ((with_reducible refine w_region ?_ ?_); kernel_rfl))
  refine awp_own (t := 3) (s := 57) 28 3 rfl rfl ?_
  refine awp_loopv (ι := Nat × Int × Dk × List Sf) (fun v q => v (refB + 0) = 0 ∧ DkOk q.2.2.1 ∧ (1 ≤ q.1 ∧ q.1 ≤ 5) ∧ (0 ≤ q.2.1 ∧ q.2.1 ≤ 15 * q.1) ∧ q.2.2.2.length ≤ q.1 ∧ safesM (6 - q.1) q.1 q.2.1 q.2.2.1 q.2.2.2 = safesF D) (fun q => 6 - q.1) (fun v q => [(0, .ptr (refB + 0) (v (refB + 0)) 0), (3, .own 57 (v 57)), (4, .v (.int .i64 q.2.1)), (5, .v (.int .i64 (q.1 : Nat)))]) (fun v q => [(refB + 0, .box q.2.2.1.cells), (57, .buf 28 3 (q.2.2.2.map Sf.av))]) ?_ ?_
  · exact ⟨(1, 0, D, []), ⟨rfl, hD, ⟨Nat.le_refl _, by show (1 : Nat) ≤ 5; omega⟩, ⟨by show (0 : Int) ≤ 0; omega, by show (0 : Int) ≤ 15; omega⟩, by simp, rfl⟩, trivial, ⟨rfl, rfl, rfl, rfl, trivial⟩, ⟨rfl, rfl, trivial⟩⟩
  rintro v ⟨i, key, E, L⟩ ⟨hv0, hE, ⟨hi1, hi5⟩, ⟨hk0, hk1⟩, hl, hf⟩
  simp only at hv0 hE hi1 hi5 hk0 hk1 hl hf
  dsimp only
  have r4 := E.val_range (n := 4) (by omega)
  have a4 := r4.2.1 (by omega)
  repeat (first | ((with_reducible refine k_move ?_); refine m_move rfl ?_)  | refine x_none rfl ?_ | with_reducible refine awp_seq ?_ | ((with_reducible refine w_region ?_ ?_); kernel_rfl))
  refine x_call (ss := [(refB + 0, v (refB + 0))]) (next_A E 4 hE (by omega) (by omega)) (by repeat' (first | exact trivial | exact Ren.v _ | exact Ren.sl _ _ | exact Ren.ep _ | exact Ren.ptr _ _ _ _ rfl | exact Ren.nil _ | exact Ren.own _ _ _ _ ⟨_, rfl⟩ | refine ren_ag ?_ | refine ren_tu ?_ | refine ren_fn ?_ | refine ⟨?_, ?_⟩)) (by simp) (in1 rfl rfl) rfl (back1 rfl) (by repeat' (first | exact trivial | exact RenB.v _ | exact RenB.sl _ _ | exact RenB.ep _ | exact RenB.ptr _ _ _ _ rfl | refine renb_ag ?_ | refine renb_tu ?_ | refine ⟨?_, ?_⟩)) ?_
  repeat (first | ((with_reducible refine k_bin ?_); refine x_add_in rfl rfl (by omega) ?_) | ((with_reducible refine k_bin ?_); refine m_binI rfl rfl rfl ?_)  | refine e_nrm ?_ | refine x_none rfl ?_ | with_reducible refine q_then ?_ )
  obtain ⟨f, hf6⟩ : ∃ f, 6 - i = f + 1 := ⟨5 - i, by omega⟩
  rw [hf6, safesM] at hf
  refine w_cond rfl (fun h => ?_) (fun h => ?_)
  rotate_left
  · have h' : ¬ (i : Int) ≤ 1 + E.val 4 := by simpa using h
    rw [if_neg h'] at hf
    rw [← hf]
    repeat (first | ((with_reducible refine k_move ?_); refine m_move rfl ?_) | ((with_reducible refine k_assign ?_); refine m_assign rfl ?_)  | refine e_nrm ?_ | refine x_none rfl ?_ | with_reducible refine q_then ?_ | with_reducible refine q_then_exit ?_ | with_reducible refine awp_seq ?_ | with_reducible refine awp_exit ?_ | with_reducible refine awp_ret ?_ | ((with_reducible refine q_block_exit ?_ ?_); rfl) | ((with_reducible refine w_region ?_ ?_); kernel_rfl))
    refine retq1_1 (by first | exact .inr rfl | exact .inl rfl) rfl rfl ?_ rfl hv0 (by repeat' (first | exact trivial | exact Ren.v _ | exact Ren.sl _ _ | exact Ren.ep _ | exact Ren.ptr _ _ _ _ rfl | exact Ren.nil _ | exact Ren.own _ _ _ _ ⟨_, rfl⟩ | refine ren_ag ?_ | refine ren_tu ?_ | refine ren_fn ?_ | refine ⟨?_, ?_⟩))
    repeat' (first | exact trivial | exact Ren.v _ | exact Ren.sl _ _ | exact Ren.ep _ | exact Ren.ptr _ _ _ _ rfl | exact Ren.nil _ | exact Ren.own _ _ _ _ ⟨_, rfl⟩ | refine ren_ag ?_ | refine ren_tu ?_ | refine ren_fn ?_ | refine ⟨?_, ?_⟩)
  have h' : (i : Int) ≤ 1 + E.val 4 := by simpa using h
  rw [if_pos h'] at hf
  have hi4 : i ≤ 4 := by omega
  have r2 := E.next.val_range (n := 2) (by omega)
  have a2 := r2.2.1 (by omega)
  have hw : IntKind.i64.wrap (E.next.val 2 * 4) = E.next.val 2 * 4 := wrap_i64_in (by omega)
  have hw2 : 0 ≤ IntKind.i64.wrap (E.next.val 2 * 4) ∧ IntKind.i64.wrap (E.next.val 2 * 4) ≤ 4 := by rw [hw]; omega
  clear hw
  obtain ⟨-, ok1, ok2, -⟩ := oneK_ok (key := key) hE.next
  have rk := E.next.next.val_range (n := 4) (by omega)
  have ak := rk.2.1 (by omega)
  obtain ⟨m, hm⟩ := Int.eq_ofNat_of_zero_le rk.1
  have hn := next_A (G := X.G) E.next.next 4 hE.next.next (by omega) (by omega)
  rw [hm] at hn
  have eK : oneK key E.next = keysM m key E.next.next.next [] := by unfold oneK; rw [hm]; rfl
  repeat (first | ((with_reducible refine k_move ?_); refine m_move rfl ?_)  | refine x_none rfl ?_ | with_reducible refine q_then ?_ | with_reducible refine awp_seq ?_ | with_reducible refine awp_block ?_ | with_reducible refine awp_skip ?_ | ((with_reducible refine w_region ?_ ?_); kernel_rfl))
  refine x_call (ss := [(refB + 0, v (refB + 0))]) (next_A E.next 2 hE.next (by omega) (by omega)) (by repeat' (first | exact trivial | exact Ren.v _ | exact Ren.sl _ _ | exact Ren.ep _ | exact Ren.ptr _ _ _ _ rfl | exact Ren.nil _ | exact Ren.own _ _ _ _ ⟨_, rfl⟩ | refine ren_ag ?_ | refine ren_tu ?_ | refine ren_fn ?_ | refine ⟨?_, ?_⟩)) (by simp) (in1 rfl rfl) rfl (back1 rfl) (by repeat' (first | exact trivial | exact RenB.v _ | exact RenB.sl _ _ | exact RenB.ep _ | exact RenB.ptr _ _ _ _ rfl | refine renb_ag ?_ | refine renb_tu ?_ | refine ⟨?_, ?_⟩)) ?_
  repeat (first | ((with_reducible refine k_move ?_); refine m_move rfl ?_) | ((with_reducible refine k_store ?_); refine m_store tbOk rfl rfl rfl rfl rfl rfl rfl (Nat.le_of_ble_eq_true rfl) rfl ?_) | ((with_reducible refine k_alloc ?_); refine x_alloc tbOk rfl rfl ?_) | ((with_reducible refine k_build ?_); refine m_build tbOk rfl rfl rfl rfl rfl ?_) | ((with_reducible refine k_bin ?_); refine x_add_in rfl rfl (by omega) ?_) | ((with_reducible refine k_bin ?_); refine m_binI rfl rfl rfl ?_)  | refine e_nrm ?_ | refine x_none rfl ?_ | with_reducible refine q_then ?_ | with_reducible refine awp_seq ?_ | ((with_reducible refine w_region ?_ ?_); kernel_rfl))
  refine x_call (ss := [(refB + 0, v (refB + 0))]) (hn) (by repeat' (first | exact trivial | exact Ren.v _ | exact Ren.sl _ _ | exact Ren.ep _ | exact Ren.ptr _ _ _ _ rfl | exact Ren.nil _ | exact Ren.own _ _ _ _ ⟨_, rfl⟩ | refine ren_ag ?_ | refine ren_tu ?_ | refine ren_fn ?_ | refine ⟨?_, ?_⟩)) (by simp) (in1 rfl rfl) rfl (back1 rfl) (by repeat' (first | exact trivial | exact RenB.v _ | exact RenB.sl _ _ | exact RenB.ep _ | exact RenB.ptr _ _ _ _ rfl | refine renb_ag ?_ | refine renb_tu ?_ | refine ⟨?_, ?_⟩)) ?_
  repeat (first | ((with_reducible refine k_assign ?_); refine m_assign rfl ?_)  | refine e_nrm ?_ | refine x_none rfl ?_ | with_reducible refine q_then ?_ | with_reducible refine awp_block ?_ )
  refine awp_own_at (s := 37) 3 1 [] [(6, [.v (.int .i64 (oneN i E.next)), .own 37 (v 37 + 1), .v (.slice none 0 0)])] rfl trivial ⟨⟨_, _, rfl, .same (.hit (.same .nil))⟩, trivial⟩ ?_
  refine awp_loopv (ι := Nat × Int × Dk × List Int) (fun v q => v (refB + 0) = 0 ∧ DkOk q.2.2.1 ∧ (0 ≤ q.2.1 ∧ q.2.1 + 5 * q.1 ≤ 15 * i + 15) ∧ q.2.2.2.length + q.1 ≤ 3 ∧ keysM q.1 q.2.1 q.2.2.1 q.2.2.2 = oneK key E.next) (fun q => q.1) (fun v q => [(0, .ptr (refB + 0) (v (refB + 0)) 0), (3, .own 57 (v 57)), (4, .v (.int .i64 q.2.1)), (5, .v (.int .i64 (i : Nat))), (6, .ptr 6 (v 6) 0), (7, .v (.int .i64 (q.1 : Nat)))]) (fun v q => [(refB + 0, .box q.2.2.1.cells), (57, .buf 28 3 (L.map Sf.av)), (6, .box [.v (.int .i64 (oneN i E.next)), .own 37 (v 37), .v (.slice none 0 0)]), (37, .buf 3 1 (q.2.2.2.map iv))]) ?_ ?_
  · exact ⟨(m, key, E.next.next.next, []), ⟨hv0, hE.next.next.next, ⟨hk0, by show key + 5 * (m : Int) ≤ _; omega⟩, by show 0 + m ≤ 3; omega, eK.symm⟩, trivial, ⟨rfl, rfl, rfl, rfl, rfl, rfl, trivial⟩, ⟨rfl, rfl, rfl, rfl, trivial⟩⟩
  clear hv0
  rintro v ⟨k, key2, E2, K⟩ ⟨hv0, hE2, ⟨hk20, hk21⟩, hK, hf2⟩
  simp only at hv0 hE2 hk20 hk21 hK hf2
  dsimp only
  have r5 := E2.val_range (n := 5) (by omega)
  have a5 := r5.2.1 (by omega)
  repeat (first | ((with_reducible refine k_move ?_); refine m_move rfl ?_) | ((with_reducible refine k_bin ?_); refine m_binI rfl rfl rfl ?_)  | refine e_nrm ?_ | refine x_none rfl ?_ | with_reducible refine q_then ?_ | with_reducible refine awp_seq ?_ | ((with_reducible refine w_region ?_ ?_); kernel_rfl))
  refine w_cond rfl (fun h => ?_) (fun h => ?_)
  · obtain ⟨k, rfl⟩ : ∃ i, k = i + 1 := ⟨k - 1, by simp at h; omega⟩
    have ek : ((k + 1 : Nat) : Int) - 1 = (k : Nat) := by omega
    repeat (first | ((with_reducible refine k_move ?_); refine m_move rfl ?_)  | refine x_none rfl ?_ | with_reducible refine q_then ?_ | with_reducible refine awp_seq ?_ | with_reducible refine awp_block ?_ | with_reducible refine awp_skip ?_ | ((with_reducible refine w_region ?_ ?_); kernel_rfl))
    refine x_call (ss := [(refB + 0, v (refB + 0))]) (next_A E2 5 hE2 (by omega) (by omega)) (by repeat' (first | exact trivial | exact Ren.v _ | exact Ren.sl _ _ | exact Ren.ep _ | exact Ren.ptr _ _ _ _ rfl | exact Ren.nil _ | exact Ren.own _ _ _ _ ⟨_, rfl⟩ | refine ren_ag ?_ | refine ren_tu ?_ | refine ren_fn ?_ | refine ⟨?_, ?_⟩)) (by simp) (in1 rfl rfl) rfl (back1 rfl) (by repeat' (first | exact trivial | exact RenB.v _ | exact RenB.sl _ _ | exact RenB.ep _ | exact RenB.ptr _ _ _ _ rfl | refine renb_ag ?_ | refine renb_tu ?_ | refine ⟨?_, ?_⟩)) ?_
    repeat (first | ((with_reducible refine k_move ?_); refine m_move rfl ?_) | ((with_reducible refine k_assign ?_); refine m_assign rfl ?_) | ((with_reducible refine k_fieldAddr ?_); refine x_fieldAddr_ptr tbOk rfl rfl rfl rfl ?_) | ((with_reducible refine k_load ?_); refine x_load_one tbOk rfl rfl rfl rfl rfl ?_) | ((with_reducible refine k_bin ?_); refine x_add_in rfl rfl (by omega) ?_) | ((with_reducible refine k_buildSlice ?_); refine m_buildSlice tbOk rfl rfl rfl rfl rfl (by omega) rfl rfl rfl ?_) | refine e_nrm ?_ | refine x_none rfl ?_ | with_reducible refine q_then ?_ | ((with_reducible refine w_region ?_ ?_); kernel_rfl))
    refine x_append_own tbOk rfl rfl rfl rfl rfl (by decide) rfl rfl rfl rfl rfl (fun x hx => by simp at hx; subst hx; rfl) (by simp only [List.length_map, List.length_cons, List.length_nil]; omega) (by simp only [List.length_map, List.length_cons, List.length_nil]; omega) ?_
    repeat (first | ((with_reducible refine k_move ?_); refine m_move rfl ?_) | ((with_reducible refine k_assign ?_); refine m_assign rfl ?_) | ((with_reducible refine k_fieldAddr ?_); refine x_fieldAddr_ptr tbOk rfl rfl rfl rfl ?_) | ((with_reducible refine k_store ?_); refine m_store tbOk rfl rfl rfl rfl rfl rfl rfl (Nat.le_of_ble_eq_true rfl) rfl ?_) | ((with_reducible refine k_bin ?_); refine x_sub_in rfl rfl (by omega) ?_)  | refine e_nrm ?_ | refine x_none rfl ?_ | with_reducible refine q_then ?_ | with_reducible refine q_block ?_ | ((with_reducible refine w_region ?_ ?_); kernel_rfl))
    refine ⟨(k, key2 + (1 + E2.val 5), E2.next, K ++ [key2 + (1 + E2.val 5)]), ⟨hv0, hE2.next, ⟨by show 0 ≤ key2 + (1 + E2.val 5); omega, by show key2 + (1 + E2.val 5) + 5 * (k : Int) ≤ _; omega⟩, by simp; omega, hf2⟩, by show k < k + 1; omega, ⟨rfl, rfl, rfl, rfl, rfl, congrArg (fun z => AV.v (.int .i64 z)) ek, trivial⟩, ⟨rfl, rfl, rfl, ?_, trivial⟩⟩
    rw [List.map_append]; rfl
  obtain rfl : k = 0 := by simp at h; omega
  have eK2 : oneK key E.next = (E2, key2, K) := hf2.symm
  have eL : oneL key E.next = namesM nms E2 [] := by unfold oneL; rw [eK2]
  clear hf2
  repeat (first | ((with_reducible refine k_assign ?_); refine m_assign rfl ?_)  | refine e_nrm ?_ | refine x_none rfl ?_ | with_reducible refine q_then ?_ | with_reducible refine q_then_exit ?_ | with_reducible refine awp_seq ?_ | with_reducible refine awp_block ?_ | with_reducible refine awp_exit ?_ | ((with_reducible refine q_block_exit ?_ ?_); rfl) | ((with_reducible refine w_region ?_ ?_); kernel_rfl))
  refine awp_own_at (s := 52) 9 1 [] [(6, [.v (.int .i64 (oneN i E.next)), .own 37 (v 37), .own 52 (v 52 + 1)])] rfl trivial ⟨⟨_, _, rfl, .same (.same (.hit .nil))⟩, trivial⟩ ?_
  refine awp_loopv (ι := Nat × Dk × List ByteArray) (fun v q => v (refB + 0) = 0 ∧ DkOk q.2.1 ∧ q.1 ≤ 3 ∧ q.2.2.length ≤ q.1 ∧ namesM (nms.drop q.1) q.2.1 q.2.2 = oneL key E.next) (fun q => 3 - q.1) (fun v q => [(0, .ptr (refB + 0) (v (refB + 0)) 0), (3, .own 57 (v 57)), (4, .v (.int .i64 key2)), (5, .v (.int .i64 (i : Nat))), (6, .ptr 6 (v 6) 0), (8, .v (.int .i64 (q.1 : Nat)))]) (fun v q => [(refB + 0, .box q.2.1.cells), (57, .buf 28 3 (L.map Sf.av)), (6, .box [.v (.int .i64 (oneN i E.next)), .own 37 (v 37), .own 52 (v 52)]), (37, .buf 3 1 (K.map iv)), (52, .buf 9 1 (q.2.2.map sv))]) ?_ ?_
  · exact ⟨(0, E2, []), ⟨hv0, hE2, by show 0 ≤ 3; omega, by show 0 ≤ 0; omega, eL.symm⟩, trivial, ⟨rfl, rfl, rfl, rfl, rfl, rfl, trivial⟩, ⟨rfl, rfl, rfl, rfl, rfl, trivial⟩⟩
  clear hv0
  rintro v ⟨k, E3, N⟩ ⟨hv0, hE3, hk3, hN, hf3⟩
  simp only at hv0 hE3 hk3 hN hf3
  dsimp only
  repeat (first | ((with_reducible refine k_move ?_); refine m_move rfl ?_) | ((with_reducible refine k_bin ?_); refine m_binI rfl rfl rfl ?_)  | refine e_nrm ?_ | refine x_none rfl ?_ | with_reducible refine q_then ?_ | with_reducible refine awp_seq ?_ | ((with_reducible refine w_region ?_ ?_); kernel_rfl))
  refine w_cond rfl (fun h => ?_) (fun h => ?_)
  · have hlt : k < 3 := by simp at h; omega
    obtain ⟨s, hs, hsy⟩ := nms_at hlt
    rw [drop_at hs, namesM] at hf3
    repeat (first | ((with_reducible refine k_move ?_); refine m_move rfl ?_)  | refine x_none rfl ?_ | with_reducible refine q_then ?_ | with_reducible refine awp_seq ?_ | with_reducible refine awp_block ?_ | with_reducible refine awp_skip ?_ | ((with_reducible refine w_region ?_ ?_); kernel_rfl))
    refine x_call (ss := [(refB + 0, v (refB + 0))]) (one_A E3 4 hE3 (by omega) (by omega)) (by repeat' (first | exact trivial | exact Ren.v _ | exact Ren.sl _ _ | exact Ren.ep _ | exact Ren.ptr _ _ _ _ rfl | exact Ren.nil _ | exact Ren.own _ _ _ _ ⟨_, rfl⟩ | refine ren_ag ?_ | refine ren_tu ?_ | refine ren_fn ?_ | refine ⟨?_, ?_⟩)) (by simp) (in1 rfl rfl) rfl (back1 rfl) (by repeat' (first | exact trivial | exact RenB.v _ | exact RenB.sl _ _ | exact RenB.ep _ | exact RenB.ptr _ _ _ _ rfl | refine renb_ag ?_ | refine renb_tu ?_ | refine ⟨?_, ?_⟩)) ?_
    repeat (first   | refine e_nrm ?_ | with_reducible refine q_then ?_ )
    refine w_cond rfl (fun h => ?_) (fun h => ?_)
    · rw [if_pos (by simpa using h)] at hf3
      repeat (first | ((with_reducible refine k_move ?_); refine m_move rfl ?_) | ((with_reducible refine k_fieldAddr ?_); refine x_fieldAddr_ptr tbOk rfl rfl rfl rfl ?_) | ((with_reducible refine k_load ?_); refine x_load_one tbOk rfl rfl rfl rfl rfl ?_) | ((with_reducible refine k_load ?_); refine x_load_ep_one tbOk rfl rfl rfl ?_) | ((with_reducible refine k_indexAddr ?_); refine x_indexAddr_n tbOk rfl rfl rfl rfl (by assumption) ?_) | ((with_reducible refine k_buildSlice ?_); refine m_buildSlice tbOk rfl rfl rfl rfl rfl (by omega) rfl rfl rfl ?_) | refine x_none rfl ?_  | ((with_reducible refine w_draw mixd ?_ ?_); kernel_rfl))
      refine x_append_own tbOk rfl rfl rfl rfl rfl (by decide) rfl rfl rfl rfl rfl (fun x hx => by simp at hx; subst hx; rfl) (by simp only [List.length_map, List.length_cons, List.length_nil]; omega) (by simp only [List.length_map, List.length_cons, List.length_nil]; omega) ?_
      repeat (first | ((with_reducible refine k_move ?_); refine m_move rfl ?_) | ((with_reducible refine k_assign ?_); refine m_assign rfl ?_) | ((with_reducible refine k_fieldAddr ?_); refine x_fieldAddr_ptr tbOk rfl rfl rfl rfl ?_) | ((with_reducible refine k_store ?_); refine m_store tbOk rfl rfl rfl rfl rfl rfl rfl (Nat.le_of_ble_eq_true rfl) rfl ?_) | ((with_reducible refine k_bin ?_); refine x_add_in rfl rfl (by omega) ?_)  | refine e_nrm ?_ | refine e_drw (by kernel_rfl) ?_ | refine x_none rfl ?_ | with_reducible refine q_then ?_ | with_reducible refine q_block ?_ | ((with_reducible refine w_region ?_ ?_); kernel_rfl))
      refine ⟨(k + 1, E3.next, N ++ [s]), ⟨hv0, hE3.next, by show k + 1 ≤ 3; omega, by simp; omega, hf3⟩, by show 3 - (k + 1) < 3 - k; omega, ⟨rfl, rfl, rfl, rfl, rfl, rfl, trivial⟩, ⟨rfl, rfl, rfl, rfl, ?_, trivial⟩⟩
      rw [List.map_append]; rfl
    · rw [if_neg (by simpa using h)] at hf3
      repeat (first | ((with_reducible refine k_move ?_); refine m_move rfl ?_) | ((with_reducible refine k_assign ?_); refine m_assign rfl ?_) | ((with_reducible refine k_bin ?_); refine x_add_in rfl rfl (by omega) ?_)  | refine e_nrm ?_ | refine x_none rfl ?_ | with_reducible refine q_then ?_ | with_reducible refine q_block ?_ | with_reducible refine awp_skip ?_ | ((with_reducible refine w_region ?_ ?_); kernel_rfl))
      exact ⟨(k + 1, E3.next, N), ⟨hv0, hE3.next, by show k + 1 ≤ 3; omega, by show N.length ≤ k + 1; omega, hf3⟩, by show 3 - (k + 1) < 3 - k; omega, ⟨rfl, rfl, rfl, rfl, rfl, rfl, trivial⟩, ⟨rfl, rfl, rfl, rfl, rfl, trivial⟩⟩
  obtain rfl : k = 3 := by simp at h; omega
  have eL2 : oneL key E.next = (E3, N) := hf3.symm
  rw [eK2, eL2] at hf
  refine awp_freeze_at (s := 37) [] [(6, [.v (.int .i64 (oneN i E.next)), .sl 1 (K.map iv), .own 52 (v 52)])] rfl trivial ⟨⟨_, _, rfl, .same (.hit (.same .nil))⟩, trivial⟩ ?_
  refine awp_freeze_at (s := 52) [] [(6, [.v (.int .i64 (oneN i E.next)), .sl 1 (K.map iv), .sl 1 (N.map sv)])] rfl trivial ⟨⟨_, _, rfl, .same (.same (.hit .nil))⟩, trivial⟩ ?_
  repeat (first | ((with_reducible refine k_move ?_); refine m_move rfl ?_) | ((with_reducible refine k_load ?_); refine x_load_agg tbOk rfl rfl rfl rfl (Nat.le_of_ble_eq_true rfl) ?_) | ((with_reducible refine k_buildSlice ?_); refine m_buildSlice tbOk rfl rfl rfl rfl rfl (by omega) rfl rfl rfl ?_) | refine x_none rfl ?_ | with_reducible refine q_then ?_ | with_reducible refine q_then_exit ?_ | with_reducible refine awp_exit ?_ | ((with_reducible refine q_block_exit ?_ ?_); rfl) | ((with_reducible refine w_region ?_ ?_); kernel_rfl))
  refine x_append_own tbOk rfl rfl rfl rfl rfl (by decide) rfl rfl rfl rfl rfl (fun x hx => by simp at hx; subst hx; rfl) (by simp only [List.length_map, List.length_cons, List.length_nil]; omega) (by simp only [List.length_map, List.length_cons, List.length_nil]; omega) ?_
  repeat (first | ((with_reducible refine k_move ?_); refine m_move rfl ?_) | ((with_reducible refine k_assign ?_); refine m_assign rfl ?_) | ((with_reducible refine k_bin ?_); refine x_add_in rfl rfl (by omega) ?_)  | refine e_nrm ?_ | refine x_none rfl ?_ | with_reducible refine q_then ?_ | with_reducible refine q_block ?_ | ((with_reducible refine w_region ?_ ?_); kernel_rfl))
  refine ⟨(i + 1, key2, E3, L ++ [⟨oneN i E.next, K, N⟩]), ⟨hv0, hE3, ⟨by show 1 ≤ i + 1; omega, by show i + 1 ≤ 5; omega⟩, ⟨by show 0 ≤ key2; omega, by show key2 ≤ 15 * ((i + 1 : Nat) : Int); omega⟩, by simp; omega, ?_⟩, by show 6 - (i + 1) < 6 - i; omega, ⟨rfl, rfl, rfl, rfl, trivial⟩, ⟨rfl, ?_, trivial⟩⟩
  · show safesM (6 - (i + 1)) (i + 1) key2 E3 (L ++ [⟨oneN i E.next, K, N⟩]) = _
    rw [show 6 - (i + 1) = f by omega]; exact hf
  · rw [List.map_append]; rfl
end Go.Proofs.YtlmkloghbgglkaaDoor
