/- Programmes compared: slices.Equal at steps, programme.Same and its reference; the operations of a programme, by the abstract machine; conditions: none. -/
import Derived.Test.YtggngllfnboehaaGreatDoorPgB
import Derived.Test.YtggngllfnboehaaGreatDoorAbsZ
set_option linter.unusedVariables false
set_option linter.unusedSimpArgs false
namespace Go.Proofs.YtggngllfnboehaaGreatDoor
open Go Go.RowKit
set_option maxRecDepth 10000
variable {G : Nat → Option (List Value)}
theorem seq_A (L M : List St) (hl : L.length ≤ maxLen) : yF Tryz.prog G 38 [.sl 5 (L.map St.av), .sl 5 (M.map St.av)] [] (.v (.bool (decide (L = M)))) [] := by
  have hml : L.length ≤ 9223372036854775807 := by unfold maxLen at hl; omega
  refine zj tbOk (zn Tryz.func38 (by kernel_rfl) rfl) Tryz.func38 rfl _ Tryz.ntmps38 (Nat.le_of_ble_eq_true rfl) fun X hX => ?_
  subst hX
  repeat (first | ((with_reducible refine zI ?_); refine zH rfl ?_) | ((with_reducible refine zE ?_); refine zD rfl ?_) | ((with_reducible refine zu ?_); refine yR tbOk rfl rfl ?_) | ((with_reducible refine zM ?_); refine zV rfl rfl rfl ?_)  | refine zJ ?_ | refine zB rfl ?_ | with_reducible refine zC ?_ | with_reducible refine zF ?_ | ((with_reducible refine zA ?_ ?_); kernel_rfl))
  refine zm rfl (fun h => ?_) (fun h => ?_)
  · repeat (first | ((with_reducible refine zE ?_); refine zD rfl ?_)  | refine zJ ?_ | refine zB rfl ?_ | with_reducible refine zC ?_ | with_reducible refine zS ?_ | with_reducible refine zF ?_ | with_reducible refine zU ?_ | ((with_reducible refine zA ?_ ?_); kernel_rfl))
    refine yC (by first | exact .inr rfl | exact .inl rfl) rfl rfl ?_
    have : ¬ L.length = M.length := by simp at h; omega
    rw [decide_eq_false (fun e => this (by rw [e]))]
  · have hlm : L.length = M.length := by simp at h; omega
    repeat (first | ((with_reducible refine zI ?_); refine zH rfl ?_) | ((with_reducible refine zu ?_); refine yR tbOk rfl rfl ?_)  | refine zJ ?_ | refine zB rfl ?_ | with_reducible refine zC ?_ | with_reducible refine zF ?_ | with_reducible refine zY ?_ | with_reducible refine zR ?_ | ((with_reducible refine zA ?_ ?_); kernel_rfl))
    refine yU (ι := Nat) (fun k => k ≤ L.length ∧ (L = M ↔ L.drop k = M.drop k)) (fun k => L.length - k) (fun v k => [(0, .sl 5 (L.map St.av)), (1, .sl 5 (M.map St.av)), (12, .v (.int .i64 (L.map St.av).length)), (13, .v (.int .i64 k))]) (fun v k => []) ?_ ?_
    · exact ⟨0, ⟨Nat.zero_le _, Iff.rfl⟩, trivial, ⟨rfl, rfl, rfl, rfl, trivial⟩, trivial⟩
    · rintro v k ⟨hk, hf⟩
      repeat (first | ((with_reducible refine zM ?_); refine zV rfl rfl rfl ?_)  | refine zJ ?_ | refine zB rfl ?_ | with_reducible refine zC ?_ | with_reducible refine zF ?_ | ((with_reducible refine zA ?_ ?_); kernel_rfl))
      refine zm rfl (fun h => ?_) (fun h => ?_)
      · have hlt : k < L.length := by simpa using h
        obtain ⟨r, hx⟩ := zl hlt
        obtain ⟨q, hq⟩ := zl (L := M) (k := k) (by omega)
        have hy := st_at hx
        have hz := st_at hq
        rw [jE hx, jE hq, List.cons.injEq] at hf
        repeat (first | ((with_reducible refine zI ?_); refine zH rfl ?_) | ((with_reducible refine zE ?_); refine zD rfl ?_) | ((with_reducible refine zL ?_); refine yT tbOk rfl rfl (Nat.le_of_ble_eq_true rfl) ?_) | ((with_reducible refine zT ?_); refine zZ tbOk rfl rfl rfl rfl (by assumption) ?_)  | refine zJ ?_ | refine zB rfl ?_ | with_reducible refine zC ?_ | with_reducible refine zF ?_ | with_reducible refine zY ?_ | with_reducible refine zR ?_ | ((with_reducible refine zA ?_ ?_); kernel_rfl) | ((with_reducible refine yx mixd ?_ ?_); kernel_rfl))
        with_reducible refine zM ?_
        refine x_bin_ag rfl rfl (rfl : qY _ = some r.vals) (rfl : qY _ = some q.vals) (fun w => stNeq _ _ _ _ w) ?_
        repeat (first   | refine jM (by kernel_rfl) ?_ | with_reducible refine zC ?_ )
        refine zm rfl (fun he => ?_) (fun he => ?_)
        · have he' : ¬ r = q := by simpa using he
          repeat (first | ((with_reducible refine zE ?_); refine zD rfl ?_)  | refine zJ ?_ | refine zB rfl ?_ | with_reducible refine zC ?_ | with_reducible refine zS ?_ | with_reducible refine zh ?_ | with_reducible refine zF ?_ | with_reducible refine zU ?_ | ((with_reducible refine zA ?_ ?_); kernel_rfl))
          refine yC (by first | exact .inr rfl | exact .inl rfl) rfl rfl ?_
          rw [decide_eq_false (fun e => he' (hf.1 e).1)]
        · have he' : r = q := by simpa using he
          repeat (first | ((with_reducible refine zI ?_); refine zH rfl ?_) | ((with_reducible refine zM ?_); refine ze rfl rfl (by omega) ?_)  | refine zJ ?_ | refine zB rfl ?_ | with_reducible refine zC ?_ | with_reducible refine zk ?_ | with_reducible refine zR ?_ | ((with_reducible refine zA ?_ ?_); kernel_rfl))
          exact ⟨k + 1, ⟨by omega, ⟨fun e => (hf.1 e).2, fun e => hf.2 ⟨he', e⟩⟩⟩, by omega, ⟨rfl, rfl, rfl, rfl, trivial⟩, trivial⟩
      · have hlt : ¬ k < L.length := by simpa using h
        repeat (first | ((with_reducible refine zE ?_); refine zD rfl ?_)  | refine zJ ?_ | refine zB rfl ?_ | with_reducible refine zC ?_ | with_reducible refine zw ?_ | with_reducible refine zF ?_ | with_reducible refine yJ ?_ | with_reducible refine zU ?_ | ((with_reducible refine zr ?_ ?_); rfl) | ((with_reducible refine zA ?_ ?_); kernel_rfl))
        refine yC (by first | exact .inr rfl | exact .inl rfl) rfl rfl ?_
        rw [decide_eq_true (hf.2 (by rw [List.drop_of_length_le (by omega), List.drop_of_length_le (by omega)]))]
def psameB (a b : Pg) : Bool := yh a.n b.n && decide (a.st = b.st)
theorem psameB_refl (a : Pg) : psameB a a = true := by
  unfold psameB
  rw [jh.2 rfl]; simp
theorem psame_A (a b : Pg) (hl : a.st.length ≤ maxLen) : yF Tryz.prog G 15 [a.av, b.av] [] (.v (.bool (psameB a b))) [] := by
  refine zj tbOk (zn Tryz.func15 (by kernel_rfl) rfl) Tryz.func15 rfl _ Tryz.ntmps15 (Nat.le_of_ble_eq_true rfl) fun X hX => ?_
  subst hX
  repeat (first | ((with_reducible refine zI ?_); refine zH rfl ?_) | ((with_reducible refine zE ?_); refine zD rfl ?_) | ((with_reducible refine zK ?_); refine zG tbOk rfl rfl rfl rfl ?_) | ((with_reducible refine zL ?_); refine zN tbOk rfl rfl rfl rfl rfl ?_) | ((with_reducible refine yj ?_); refine yi rfl rfl rfl ?_) | ((with_reducible refine zM ?_); refine yp rfl rfl rfl ?_)  | refine zJ ?_ | refine zB rfl ?_ | with_reducible refine zC ?_ | with_reducible refine zF ?_ | ((with_reducible refine zA ?_ ?_); kernel_rfl))
  refine yI rfl rfl (fun b1 => ?_) (fun b1 => ?_)
  · repeat (first | ((with_reducible refine zK ?_); refine zG tbOk rfl rfl rfl rfl ?_) | ((with_reducible refine zL ?_); refine zN tbOk rfl rfl rfl rfl rfl ?_)  | refine yK rfl rfl (by first | rfl | assumption) ?_  )
    refine zo (seq_A a.st b.st hl) (by repeat' (first | exact trivial | exact Ren.v _ | exact Ren.sl _ _ | exact Ren.ep _ | exact Ren.ptr _ _ _ _ rfl | exact Ren.bs _ _ _ _ _ rfl | exact Ren.nil _ | exact Ren.own _ _ _ _ ⟨_, rfl⟩ | refine zO ?_ | refine zQ ?_ | refine zP ?_ | refine ⟨?_, ?_⟩)) (by repeat' (first | exact trivial | exact RenB.v _ | exact RenB.sl _ _ | exact RenB.ep _ | exact RenB.ptr _ _ _ _ rfl | refine zW ?_ | refine zX ?_ | refine ⟨?_, ?_⟩)) ?_
    repeat (first | ((with_reducible refine zE ?_); refine zD rfl ?_) | ((with_reducible refine zb ?_); refine zt rfl (by first | rfl | assumption) rfl ?_)  | refine zJ ?_ | refine zB rfl ?_ | with_reducible refine zC ?_ | with_reducible refine zU ?_ )
    refine yC (by first | exact .inr rfl | exact .inl rfl) rfl rfl ?_
    have e1 : yh a.n b.n = true := b1
    unfold psameB
    rw [e1]; rfl
  · repeat (first | ((with_reducible refine zE ?_); refine zD rfl ?_) | ((with_reducible refine zb ?_); refine zq rfl (by first | rfl | assumption) rfl ?_)  | refine zJ ?_ | refine zB rfl ?_ | refine yQ rfl rfl (by first | rfl | assumption) ?_ | with_reducible refine zC ?_ | with_reducible refine zU ?_ )
    refine yC (by first | exact .inr rfl | exact .inl rfl) rfl rfl ?_
    have e1 : yh a.n b.n = false := b1
    unfold psameB
    rw [e1]; rfl
set_option maxHeartbeats 1000000 in
theorem prsame_A (a b : Pg) (hl : a.st.length ≤ maxLen) (hl2 : b.st.length ≤ maxLen) : yF Tryz.prog G 16 [a.av, b.av] [] (.v (.bool (psameB a b))) [] := by
  have hml : a.st.length ≤ 9223372036854775807 := by unfold maxLen at hl; omega
  refine zj tbOk (zn Tryz.func16 (by kernel_rfl) rfl) Tryz.func16 rfl _ Tryz.ntmps16 (Nat.le_of_ble_eq_true rfl) fun X hX => ?_
  subst hX
  unfold psameB
  repeat (first | ((with_reducible refine zI ?_); refine zH rfl ?_) | ((with_reducible refine zE ?_); refine zD rfl ?_) | ((with_reducible refine zK ?_); refine zG tbOk rfl rfl rfl rfl ?_) | ((with_reducible refine zL ?_); refine zN tbOk rfl rfl rfl rfl rfl ?_) | ((with_reducible refine yj ?_); refine yi rfl rfl rfl ?_) | ((with_reducible refine zM ?_); refine yp rfl rfl rfl ?_)  | refine zJ ?_ | refine zB rfl ?_ | with_reducible refine zC ?_ | with_reducible refine zF ?_ | ((with_reducible refine zA ?_ ?_); kernel_rfl))
  refine yI rfl rfl (fun b1 => ?_) (fun b1 => ?_)
  · repeat (first | ((with_reducible refine zE ?_); refine zD rfl ?_) | ((with_reducible refine zb ?_); refine zt rfl (by first | rfl | assumption) rfl ?_)  | refine zJ ?_ | refine zB rfl ?_ | refine yL rfl rfl (by first | rfl | assumption) ?_ | with_reducible refine zC ?_ | with_reducible refine zS ?_ | with_reducible refine zF ?_ | with_reducible refine zU ?_ | ((with_reducible refine zA ?_ ?_); kernel_rfl) | refine zg rfl (by first | rfl | assumption) ?_)
    refine yC (by first | exact .inr rfl | exact .inl rfl) rfl rfl ?_
    have e1 : yh a.n b.n = false := by simpa using b1
    rw [e1]; rfl
  · repeat (first | ((with_reducible refine zK ?_); refine zG tbOk rfl rfl rfl rfl ?_) | ((with_reducible refine zL ?_); refine zN tbOk rfl rfl rfl rfl rfl ?_) | ((with_reducible refine zb ?_); refine zq rfl (by first | rfl | assumption) rfl ?_) | ((with_reducible refine zu ?_); refine yR tbOk rfl rfl ?_) | ((with_reducible refine zM ?_); refine zV rfl rfl rfl ?_)  | refine zJ ?_ | refine zB rfl ?_ | refine zv rfl rfl (by first | rfl | assumption) ?_ | with_reducible refine zC ?_ )
    refine zm rfl (fun h => ?_) (fun h => ?_)
    · repeat (first | ((with_reducible refine zE ?_); refine zD rfl ?_)  | refine zJ ?_ | refine zB rfl ?_ | with_reducible refine zC ?_ | with_reducible refine zS ?_ | with_reducible refine zF ?_ | with_reducible refine zU ?_ | ((with_reducible refine zA ?_ ?_); kernel_rfl))
      refine yC (by first | exact .inr rfl | exact .inl rfl) rfl rfl ?_
      have : ¬ a.st.length = b.st.length := by simp at h; omega
      rw [decide_eq_false (fun e => this (by rw [e]))]; simp
    have e1 : yh a.n b.n = true := by simpa using b1
    rw [e1]
    have hlm : a.st.length = b.st.length := by simp at h; omega
    repeat (first | ((with_reducible refine zE ?_); refine zD rfl ?_)  | refine zJ ?_ | refine zB rfl ?_ | with_reducible refine zC ?_ | with_reducible refine zF ?_ | with_reducible refine zY ?_ | with_reducible refine zR ?_ | ((with_reducible refine zA ?_ ?_); kernel_rfl))
    refine yU (ι := Nat) (fun k => k ≤ a.st.length ∧ (a.st = b.st ↔ a.st.drop k = b.st.drop k)) (fun k => a.st.length - k) (fun v k => [(2, .ptr 2 (v 2) 0), (3, .ptr 3 (v 3) 0), (5, .v (.int .i64 (k : Nat)))]) (fun v k => [(2, .box [.v (.string a.n), .sl 5 (a.st.map St.av)]), (3, .box [.v (.string b.n), .sl 5 (b.st.map St.av)])]) ?_ ?_
    · exact ⟨0, ⟨Nat.zero_le _, Iff.rfl⟩, trivial, ⟨rfl, rfl, rfl, trivial⟩, ⟨rfl, rfl, trivial⟩⟩
    rintro v k ⟨hk, hf⟩
    repeat (first | ((with_reducible refine zI ?_); refine zH rfl ?_) | ((with_reducible refine zK ?_); refine zG tbOk rfl rfl rfl rfl ?_) | ((with_reducible refine zL ?_); refine zN tbOk rfl rfl rfl rfl rfl ?_) | ((with_reducible refine zu ?_); refine yR tbOk rfl rfl ?_) | ((with_reducible refine zM ?_); refine zV rfl rfl rfl ?_)  | refine zJ ?_ | refine zB rfl ?_ | with_reducible refine zC ?_ | with_reducible refine zF ?_ | ((with_reducible refine zA ?_ ?_); kernel_rfl))
    refine zm rfl (fun h => ?_) (fun h => ?_)
    · have hlt : k < a.st.length := by simpa using h
      obtain ⟨r, hx⟩ := zl hlt
      obtain ⟨q, hq⟩ := zl (L := b.st) (k := k) (by omega)
      have hy := st_at hx
      have hz := st_at hq
      rw [jE hx, jE hq, List.cons.injEq] at hf
      repeat (first | ((with_reducible refine zI ?_); refine zH rfl ?_) | ((with_reducible refine zK ?_); refine zG tbOk rfl rfl rfl rfl ?_) | ((with_reducible refine zL ?_); refine zN tbOk rfl rfl rfl rfl rfl ?_) | ((with_reducible refine zL ?_); refine yT tbOk rfl rfl (Nat.le_of_ble_eq_true rfl) ?_) | ((with_reducible refine zT ?_); refine zZ tbOk rfl rfl rfl rfl (by assumption) ?_)  | refine zB rfl ?_ | with_reducible refine zC ?_ | with_reducible refine zF ?_ | with_reducible refine zY ?_ | with_reducible refine zR ?_ | ((with_reducible refine yx mixd ?_ ?_); kernel_rfl))
      with_reducible refine zM ?_
      refine x_bin_ag rfl rfl (rfl : qY _ = some r.vals) (rfl : qY _ = some q.vals) (fun w => stNeq _ _ _ _ w) ?_
      repeat (first   | refine jM (by kernel_rfl) ?_ | with_reducible refine zC ?_ )
      refine zm rfl (fun he => ?_) (fun he => ?_)
      · have he' : ¬ r = q := by simpa using he
        repeat (first | ((with_reducible refine zE ?_); refine zD rfl ?_)  | refine zJ ?_ | refine zB rfl ?_ | with_reducible refine zC ?_ | with_reducible refine zS ?_ | with_reducible refine zh ?_ | with_reducible refine zF ?_ | with_reducible refine zU ?_ | ((with_reducible refine zA ?_ ?_); kernel_rfl))
        refine yC (by first | exact .inr rfl | exact .inl rfl) rfl rfl ?_
        rw [decide_eq_false (fun e => he' (hf.1 e).1)]; rfl
      · have he' : r = q := by simpa using he
        repeat (first | ((with_reducible refine zI ?_); refine zH rfl ?_) | ((with_reducible refine zE ?_); refine zD rfl ?_) | ((with_reducible refine zM ?_); refine ze rfl rfl (by omega) ?_)  | refine zJ ?_ | refine zB rfl ?_ | with_reducible refine zC ?_ | with_reducible refine zk ?_ | with_reducible refine zR ?_ | ((with_reducible refine zA ?_ ?_); kernel_rfl))
        exact ⟨k + 1, ⟨by omega, ⟨fun e => (hf.1 e).2, fun e => hf.2 ⟨he', e⟩⟩⟩, by omega, ⟨rfl, rfl, rfl, trivial⟩, ⟨rfl, rfl, trivial⟩⟩
    · have hlt : ¬ k < a.st.length := by simpa using h
      repeat (first | ((with_reducible refine zE ?_); refine zD rfl ?_)  | refine zJ ?_ | refine zB rfl ?_ | with_reducible refine zC ?_ | with_reducible refine zw ?_ | with_reducible refine zF ?_ | with_reducible refine yJ ?_ | with_reducible refine zU ?_ | ((with_reducible refine zr ?_ ?_); rfl) | ((with_reducible refine zA ?_ ?_); kernel_rfl))
      refine yC (by first | exact .inr rfl | exact .inl rfl) rfl rfl ?_
      rw [decide_eq_true (hf.2 (by rw [List.drop_of_length_le (by omega), List.drop_of_length_le (by omega)]))]; rfl
structure On where
  d : Int
  p : Int
  deriving DecidableEq
def On.av (o : On) : AV := .ag [.v (.int .i64 o.d), .v (.int .i64 o.p)]
def onOf (s : St) : List On := if s.k = 1 then [⟨s.d, 1⟩] else if s.k = 2 then [⟨s.d, 2⟩] else []
theorem onOf_len (s : St) : (onOf s).length ≤ 1 := by unfold onOf; split; · simp
                                                      split <;> simp
def opsP (L : List St) : List On := L.flatMap onOf
theorem opsP_len : ∀ L : List St, (opsP L).length ≤ L.length
  | [] => by simp [opsP]
  | s :: l => by
    have := opsP_len l
    have := onOf_len s
    unfold opsP at *
    rw [List.flatMap_cons, List.length_append, List.length_cons]; omega
theorem opsP_take {L : List St} {k : Nat} {s : St} (h : L[k]? = some s) : opsP (L.take (k + 1)) = opsP (L.take k) ++ onOf s := by
  unfold opsP
  rw [qv h, List.flatMap_append]; simp
set_option maxHeartbeats 2000000 in
theorem pops_A (P : Pg) (hl : P.st.length ≤ 1000000) : yF Tryz.prog G 18 [P.av] [] (.sl 2 ((opsP P.st).map On.av)) [] := by
  refine zj tbOk (zn Tryz.func18 (by kernel_rfl) rfl) Tryz.func18 rfl _ Tryz.ntmps18 (Nat.le_of_ble_eq_true rfl) fun X hX => ?_
  subst hX
  repeat (first | ((with_reducible refine zI ?_); refine zH rfl ?_) | ((with_reducible refine zE ?_); refine zD rfl ?_) | ((with_reducible refine zK ?_); refine zG tbOk rfl rfl rfl rfl ?_) | ((with_reducible refine zL ?_); refine zN tbOk rfl rfl rfl rfl rfl ?_) | ((with_reducible refine yj ?_); refine yi rfl rfl rfl ?_) | ((with_reducible refine zu ?_); refine yR tbOk rfl rfl ?_)  | refine zJ ?_ | refine zB rfl ?_ | with_reducible refine zC ?_ | with_reducible refine zF ?_ | with_reducible refine zY ?_ | ((with_reducible refine zA ?_ ?_); kernel_rfl))
  refine awp_own (t := 3) (s := 22) 84 2 rfl rfl ?_
  refine yU (ι := Nat) (fun k => k ≤ P.st.length) (fun k => P.st.length - k) (fun v k => [(1, .ptr 1 (v 1) 0), (3, .own 22 (v 22)), (7, .sl 5 (P.st.map St.av)), (8, .v (.int .i64 (P.st.map St.av).length)), (9, .v (.int .i64 (k : Nat)))]) (fun v k => [(1, .box [.v (.string P.n), .sl 5 (P.st.map St.av)]), (22, .buf 84 2 ((opsP (P.st.take k)).map On.av))]) ?_ ?_
  · exact ⟨0, Nat.zero_le _, trivial, ⟨rfl, rfl, rfl, rfl, rfl, trivial⟩, ⟨rfl, rfl, trivial⟩⟩
  rintro v k hk
  repeat (first | ((with_reducible refine zM ?_); refine zV rfl rfl rfl ?_)  | refine zJ ?_ | refine zB rfl ?_ | with_reducible refine zC ?_ | with_reducible refine zF ?_ | ((with_reducible refine zA ?_ ?_); kernel_rfl))
  refine zm rfl (fun h => ?_) (fun h => ?_)
  · have hlt : k < P.st.length := by simpa using h
    obtain ⟨s, hs⟩ := zl hlt
    have hy := st_at hs
    have hlen := opsP_len (P.st.take k)
    rw [List.length_take, Nat.min_eq_left (by omega)] at hlen
    have hnext := opsP_take hs
    repeat (first | ((with_reducible refine zE ?_); refine zD rfl ?_) | ((with_reducible refine zK ?_); refine zG tbOk rfl rfl rfl rfl ?_) | ((with_reducible refine zL ?_); refine zN tbOk rfl rfl rfl rfl rfl ?_) | ((with_reducible refine zL ?_); refine yT tbOk rfl rfl (Nat.le_of_ble_eq_true rfl) ?_) | ((with_reducible refine zd ?_); refine zf tbOk rfl rfl rfl rfl rfl rfl rfl (Nat.le_of_ble_eq_true rfl) rfl ?_) | ((with_reducible refine yA ?_); refine yB tbOk rfl rfl ?_) | ((with_reducible refine zT ?_); refine zZ tbOk rfl rfl rfl rfl (by assumption) ?_) | ((with_reducible refine zM ?_); refine zV rfl rfl rfl ?_)  | refine zJ ?_ | refine zB rfl ?_ | with_reducible refine zC ?_ | with_reducible refine zF ?_ | with_reducible refine zY ?_ | with_reducible refine zR ?_ | ((with_reducible refine zA ?_ ?_); kernel_rfl))
    refine zm rfl (fun q => ?_) (fun q => ?_)
    · have q' : s.k = 1 := by simpa using q
      have e : onOf s = [⟨s.d, 1⟩] := by unfold onOf; rw [if_pos q']
      rw [e] at hnext
      repeat (first | ((with_reducible refine zI ?_); refine zH rfl ?_) | ((with_reducible refine zK ?_); refine zG tbOk rfl rfl rfl rfl ?_) | ((with_reducible refine zL ?_); refine zN tbOk rfl rfl rfl rfl rfl ?_) | ((with_reducible refine ye ?_); refine yg tbOk rfl rfl rfl rfl rfl ?_) | ((with_reducible refine yG ?_); refine yH tbOk rfl rfl rfl rfl rfl (by omega) rfl rfl rfl ?_) | refine zB rfl ?_  | ((with_reducible refine zA ?_ ?_); kernel_rfl))
      refine yV tbOk rfl rfl rfl rfl rfl (by decide) rfl rfl rfl rfl rfl (fun x hx => by simp at hx; subst hx; rfl) (by simp only [List.length_map, List.length_cons, List.length_nil]; omega) (by simp only [List.length_map, List.length_cons, List.length_nil]; omega) ?_
      repeat (first | ((with_reducible refine zI ?_); refine zH rfl ?_) | ((with_reducible refine zE ?_); refine zD rfl ?_) | ((with_reducible refine zM ?_); refine ze rfl rfl (by omega) ?_)  | refine zJ ?_ | refine zB rfl ?_ | with_reducible refine zC ?_ | with_reducible refine zk ?_ | ((with_reducible refine zA ?_ ?_); kernel_rfl))
      exact ⟨k + 1, by omega, by omega, ⟨rfl, rfl, rfl, rfl, rfl, trivial⟩, ⟨rfl, jJ (by rw [hnext, List.map_append]; rfl), trivial⟩⟩
    have q' : ¬ s.k = 1 := by simpa using q
    repeat (first | ((with_reducible refine zE ?_); refine zD rfl ?_) | ((with_reducible refine zM ?_); refine zV rfl rfl rfl ?_)  | refine zJ ?_ | refine zB rfl ?_ | with_reducible refine zC ?_ | with_reducible refine zF ?_ | ((with_reducible refine zA ?_ ?_); kernel_rfl))
    refine zm rfl (fun q2 => ?_) (fun q2 => ?_)
    · have q2' : s.k = 2 := by simpa using q2
      have e : onOf s = [⟨s.d, 2⟩] := by unfold onOf; rw [if_neg q', if_pos q2']
      rw [e] at hnext
      repeat (first | ((with_reducible refine zI ?_); refine zH rfl ?_) | ((with_reducible refine zK ?_); refine zG tbOk rfl rfl rfl rfl ?_) | ((with_reducible refine zL ?_); refine zN tbOk rfl rfl rfl rfl rfl ?_) | ((with_reducible refine ye ?_); refine yg tbOk rfl rfl rfl rfl rfl ?_) | ((with_reducible refine yG ?_); refine yH tbOk rfl rfl rfl rfl rfl (by omega) rfl rfl rfl ?_) | refine zB rfl ?_  | ((with_reducible refine zA ?_ ?_); kernel_rfl))
      refine yV tbOk rfl rfl rfl rfl rfl (by decide) rfl rfl rfl rfl rfl (fun x hx => by simp at hx; subst hx; rfl) (by simp only [List.length_map, List.length_cons, List.length_nil]; omega) (by simp only [List.length_map, List.length_cons, List.length_nil]; omega) ?_
      repeat (first | ((with_reducible refine zE ?_); refine zD rfl ?_) | refine zJ ?_ | refine zB rfl ?_ | with_reducible refine zC ?_ | with_reducible refine zk ?_)
      refine awp_reown (t := 3) (s := 30) (d := 22) rfl rfl rfl (by decide) ?_
      repeat (first | ((with_reducible refine zI ?_); refine zH rfl ?_) | ((with_reducible refine zM ?_); refine ze rfl rfl (by omega) ?_)  | refine zJ ?_ | refine zB rfl ?_ | with_reducible refine zC ?_ | ((with_reducible refine zA ?_ ?_); kernel_rfl))
      exact ⟨k + 1, by omega, by omega, ⟨rfl, rfl, rfl, rfl, rfl, trivial⟩, ⟨rfl, jJ (by rw [hnext, List.map_append]; rfl), trivial⟩⟩
    · have q2' : ¬ s.k = 2 := by simpa using q2
      have e : onOf s = [] := by unfold onOf; rw [if_neg q', if_neg q2']
      rw [e, List.append_nil] at hnext
      repeat (first | ((with_reducible refine zI ?_); refine zH rfl ?_) | ((with_reducible refine zM ?_); refine ze rfl rfl (by omega) ?_)  | refine zJ ?_ | refine zB rfl ?_ | with_reducible refine zC ?_ | with_reducible refine zk ?_ | with_reducible refine zR ?_ | ((with_reducible refine zA ?_ ?_); kernel_rfl))
      exact ⟨k + 1, by omega, by omega, ⟨rfl, rfl, rfl, rfl, rfl, trivial⟩, ⟨rfl, jJ (by rw [hnext]), trivial⟩⟩
  · have hge : P.st.length ≤ k := by simpa using h
    rw [List.take_of_length_le hge]
    refine awp_freeze (t := 3) (s := 22) rfl rfl ?_
    repeat (first | ((with_reducible refine zI ?_); refine zH rfl ?_) | ((with_reducible refine zE ?_); refine zD rfl ?_)  | refine zJ ?_ | refine zB rfl ?_ | with_reducible refine zC ?_ | with_reducible refine zw ?_ | with_reducible refine zF ?_ | with_reducible refine yJ ?_ | with_reducible refine zU ?_ | ((with_reducible refine zr ?_ ?_); rfl) | ((with_reducible refine zA ?_ ?_); kernel_rfl))
    refine ret0_1 (by first | exact .inr rfl | exact .inl rfl) rfl rfl ?_
    repeat' (first | exact trivial | exact Ren.v _ | exact Ren.sl _ _ | exact Ren.ep _ | exact Ren.ptr _ _ _ _ rfl | exact Ren.bs _ _ _ _ _ rfl | exact Ren.nil _ | exact Ren.own _ _ _ _ ⟨_, rfl⟩ | refine zO ?_ | refine zQ ?_ | refine zP ?_ | refine ⟨?_, ?_⟩)
set_option maxHeartbeats 2000000 in
theorem props_A (P : Pg) (hl : P.st.length ≤ 1000000) : yF Tryz.prog G 19 [P.av] [] (.sl 2 ((opsP P.st).map On.av)) [] := by
  refine zj tbOk (zn Tryz.func19 (by kernel_rfl) rfl) Tryz.func19 rfl _ Tryz.ntmps19 (Nat.le_of_ble_eq_true rfl) fun X hX => ?_
  subst hX
  repeat (first | ((with_reducible refine zE ?_); refine zD rfl ?_) | ((with_reducible refine yj ?_); refine yi rfl rfl rfl ?_)  | refine zJ ?_ | refine zB rfl ?_ | with_reducible refine zC ?_ | with_reducible refine zF ?_ | with_reducible refine zY ?_ | ((with_reducible refine zA ?_ ?_); kernel_rfl))
  refine awp_own (t := 3) (s := 29) 84 2 rfl rfl ?_
  refine yU (ι := Nat) (fun k => k ≤ P.st.length) (fun k => P.st.length - k) (fun v k => [(1, .ptr 1 (v 1) 0), (3, .own 29 (v 29)), (4, .v (.int .i64 (k : Nat)))]) (fun v k => [(1, .box [.v (.string P.n), .sl 5 (P.st.map St.av)]), (29, .buf 84 2 ((opsP (P.st.take k)).map On.av))]) ?_ ?_
  · exact ⟨0, Nat.zero_le _, trivial, ⟨rfl, rfl, rfl, trivial⟩, ⟨rfl, rfl, trivial⟩⟩
  rintro v k hk
  repeat (first | ((with_reducible refine zI ?_); refine zH rfl ?_) | ((with_reducible refine zK ?_); refine zG tbOk rfl rfl rfl rfl ?_) | ((with_reducible refine zL ?_); refine zN tbOk rfl rfl rfl rfl rfl ?_) | ((with_reducible refine zu ?_); refine yR tbOk rfl rfl ?_) | ((with_reducible refine zM ?_); refine zV rfl rfl rfl ?_)  | refine zJ ?_ | refine zB rfl ?_ | with_reducible refine zC ?_ | with_reducible refine zF ?_ | ((with_reducible refine zA ?_ ?_); kernel_rfl))
  refine zm rfl (fun h => ?_) (fun h => ?_)
  · have hlt : k < P.st.length := by simpa using h
    obtain ⟨s, hs⟩ := zl hlt
    have hy := st_at hs
    have hlen := opsP_len (P.st.take k)
    rw [List.length_take, Nat.min_eq_left (by omega)] at hlen
    have hnext := opsP_take hs
    repeat (first | ((with_reducible refine zI ?_); refine zH rfl ?_) | ((with_reducible refine zE ?_); refine zD rfl ?_) | ((with_reducible refine zK ?_); refine zG tbOk rfl rfl rfl rfl ?_) | ((with_reducible refine zK ?_); refine ya tbOk rfl rfl rfl rfl ?_) | ((with_reducible refine zL ?_); refine zN tbOk rfl rfl rfl rfl rfl ?_) | ((with_reducible refine zL ?_); refine za tbOk rfl rfl rfl ?_) | ((with_reducible refine zT ?_); refine zZ tbOk rfl rfl rfl rfl (by assumption) ?_) | ((with_reducible refine zM ?_); refine zV rfl rfl rfl ?_)  | refine zJ ?_ | refine zB rfl ?_ | with_reducible refine zC ?_ | with_reducible refine zF ?_ | with_reducible refine zY ?_ | with_reducible refine zR ?_ | ((with_reducible refine zA ?_ ?_); kernel_rfl))
    refine zm rfl (fun q => ?_) (fun q => ?_)
    · have q' : s.k = 1 := by simpa using q
      have e : onOf s = [⟨s.d, 1⟩] := by unfold onOf; rw [if_pos q']
      rw [e] at hnext
      repeat (first | ((with_reducible refine zI ?_); refine zH rfl ?_) | ((with_reducible refine zK ?_); refine zG tbOk rfl rfl rfl rfl ?_) | ((with_reducible refine zK ?_); refine ya tbOk rfl rfl rfl rfl ?_) | ((with_reducible refine zL ?_); refine zN tbOk rfl rfl rfl rfl rfl ?_) | ((with_reducible refine zL ?_); refine za tbOk rfl rfl rfl ?_) | ((with_reducible refine zT ?_); refine zZ tbOk rfl rfl rfl rfl (by assumption) ?_) | ((with_reducible refine ye ?_); refine yg tbOk rfl rfl rfl rfl rfl ?_) | ((with_reducible refine yG ?_); refine yH tbOk rfl rfl rfl rfl rfl (by omega) rfl rfl rfl ?_) | refine zB rfl ?_  | ((with_reducible refine zA ?_ ?_); kernel_rfl))
      refine yV tbOk rfl rfl rfl rfl rfl (by decide) rfl rfl rfl rfl rfl (fun x hx => by simp at hx; subst hx; rfl) (by simp only [List.length_map, List.length_cons, List.length_nil]; omega) (by simp only [List.length_map, List.length_cons, List.length_nil]; omega) ?_
      repeat (first | ((with_reducible refine zI ?_); refine zH rfl ?_) | ((with_reducible refine zE ?_); refine zD rfl ?_) | ((with_reducible refine zM ?_); refine ze rfl rfl (by omega) ?_)  | refine zJ ?_ | refine zB rfl ?_ | with_reducible refine zC ?_ | with_reducible refine zk ?_ | ((with_reducible refine zA ?_ ?_); kernel_rfl))
      exact ⟨k + 1, by omega, by omega, ⟨rfl, rfl, rfl, trivial⟩, ⟨rfl, jJ (by rw [hnext, List.map_append]; rfl), trivial⟩⟩
    have q' : ¬ s.k = 1 := by simpa using q
    repeat (first | ((with_reducible refine zE ?_); refine zD rfl ?_) | ((with_reducible refine zM ?_); refine zV rfl rfl rfl ?_)  | refine zJ ?_ | refine zB rfl ?_ | with_reducible refine zC ?_ | with_reducible refine zF ?_ | ((with_reducible refine zA ?_ ?_); kernel_rfl))
    refine zm rfl (fun q2 => ?_) (fun q2 => ?_)
    · have q2' : s.k = 2 := by simpa using q2
      have e : onOf s = [⟨s.d, 2⟩] := by unfold onOf; rw [if_neg q', if_pos q2']
      rw [e] at hnext
      repeat (first | ((with_reducible refine zI ?_); refine zH rfl ?_) | ((with_reducible refine zK ?_); refine zG tbOk rfl rfl rfl rfl ?_) | ((with_reducible refine zK ?_); refine ya tbOk rfl rfl rfl rfl ?_) | ((with_reducible refine zL ?_); refine zN tbOk rfl rfl rfl rfl rfl ?_) | ((with_reducible refine zL ?_); refine za tbOk rfl rfl rfl ?_) | ((with_reducible refine zT ?_); refine zZ tbOk rfl rfl rfl rfl (by assumption) ?_) | ((with_reducible refine ye ?_); refine yg tbOk rfl rfl rfl rfl rfl ?_) | ((with_reducible refine yG ?_); refine yH tbOk rfl rfl rfl rfl rfl (by omega) rfl rfl rfl ?_) | refine zB rfl ?_  | ((with_reducible refine zA ?_ ?_); kernel_rfl))
      refine yV tbOk rfl rfl rfl rfl rfl (by decide) rfl rfl rfl rfl rfl (fun x hx => by simp at hx; subst hx; rfl) (by simp only [List.length_map, List.length_cons, List.length_nil]; omega) (by simp only [List.length_map, List.length_cons, List.length_nil]; omega) ?_
      repeat (first | ((with_reducible refine zE ?_); refine zD rfl ?_) | refine zJ ?_ | refine zB rfl ?_ | with_reducible refine zC ?_ | with_reducible refine zk ?_)
      refine awp_reown (t := 3) (s := 41) (d := 29) rfl rfl rfl (by decide) ?_
      repeat (first | ((with_reducible refine zI ?_); refine zH rfl ?_) | ((with_reducible refine zE ?_); refine zD rfl ?_) | ((with_reducible refine zM ?_); refine ze rfl rfl (by omega) ?_)  | refine zJ ?_ | refine zB rfl ?_ | with_reducible refine zC ?_ | ((with_reducible refine zA ?_ ?_); kernel_rfl))
      exact ⟨k + 1, by omega, by omega, ⟨rfl, rfl, rfl, trivial⟩, ⟨rfl, jJ (by rw [hnext, List.map_append]; rfl), trivial⟩⟩
    · have q2' : ¬ s.k = 2 := by simpa using q2
      have e : onOf s = [] := by unfold onOf; rw [if_neg q', if_neg q2']
      rw [e, List.append_nil] at hnext
      repeat (first | ((with_reducible refine zI ?_); refine zH rfl ?_) | ((with_reducible refine zE ?_); refine zD rfl ?_) | ((with_reducible refine zM ?_); refine ze rfl rfl (by omega) ?_)  | refine zJ ?_ | refine zB rfl ?_ | with_reducible refine zC ?_ | with_reducible refine zk ?_ | with_reducible refine zR ?_ | ((with_reducible refine zA ?_ ?_); kernel_rfl))
      exact ⟨k + 1, by omega, by omega, ⟨rfl, rfl, rfl, trivial⟩, ⟨rfl, jJ (by rw [hnext]), trivial⟩⟩
  · have hge : P.st.length ≤ k := by simpa using h
    rw [List.take_of_length_le hge]
    refine awp_freeze (t := 3) (s := 29) rfl rfl ?_
    repeat (first | ((with_reducible refine zI ?_); refine zH rfl ?_) | ((with_reducible refine zE ?_); refine zD rfl ?_)  | refine zJ ?_ | refine zB rfl ?_ | with_reducible refine zC ?_ | with_reducible refine zw ?_ | with_reducible refine zF ?_ | with_reducible refine yJ ?_ | with_reducible refine zU ?_ | ((with_reducible refine zr ?_ ?_); rfl) | ((with_reducible refine zA ?_ ?_); kernel_rfl))
    refine ret0_1 (by first | exact .inr rfl | exact .inl rfl) rfl rfl ?_
    repeat' (first | exact trivial | exact Ren.v _ | exact Ren.sl _ _ | exact Ren.ep _ | exact Ren.ptr _ _ _ _ rfl | exact Ren.bs _ _ _ _ _ rfl | exact Ren.nil _ | exact Ren.own _ _ _ _ ⟨_, rfl⟩ | refine zO ?_ | refine zQ ?_ | refine zP ?_ | refine ⟨?_, ?_⟩)
def On.vals (o : On) : List Value := [.int .i64 o.d, .int .i64 o.p]
theorem held_On : Tryz.prog.stoodInHeld 84 = false := by kernel_rfl
theorem onEq (a b : On) (w : World) (d : Nat) : (Op.equalIn (d + 2) 84 (.agg ⟨a.vals⟩) (.agg ⟨b.vals⟩)).run Tryz.prog w = .ok (decide (a = b)) w := by
  obtain ⟨k, i⟩ := a
  obtain ⟨k', i'⟩ := b
  rw [run_equalIn_struct w (d + 1) 84 _ _ (by kernel_rfl) held_On]
  simp only [On.mk.injEq]
  by_cases h1 : k = k' <;> by_cases h2 : i = i' <;> simp [On.vals, Program.fieldsOf, Tryz.underlying84, Op.eqFields, go_sem, Tryz.underlying3, h1, h2]
theorem onNeq (x y : Operand) (a b : On) (w : World) : (do eqGuard .neq 84 x y (.agg ⟨a.vals⟩) (.agg ⟨b.vals⟩); binOp .neq 84 (.agg ⟨a.vals⟩) (.agg ⟨b.vals⟩) : Sem Value).run Tryz.prog w = .ok (.bool (!decide (a = b))) w := by
  have hg : (eqGuard .neq 84 x y (.agg ⟨a.vals⟩) (.agg ⟨b.vals⟩)).run Tryz.prog w = .ok () w := by
    unfold eqGuard
    simp [show Tryz.prog.eqGuardType Tryz.prog.depth 84 = false by kernel_rfl]
  rw [Sem.run_bind, hg]
  simp only [Result.andThen_ok, binOp]
  simp [Op.equal, Op.maxDepth, onEq a b w 9998]
theorem on_at' {L : List On} {k : Nat} {x : On} (h : L[k]? = some x) : (L.map On.av)[k]? = some x.av := by rw [List.getElem?_map, h]; rfl
theorem lops_A (L : List On) (hm : L.length ≤ 1000000) : yF Tryz.prog G 17 [.sl 2 (L.map On.av), .sl 2 (L.map On.av)] [] (.v (.bool true)) [] := by
  have hne : decide (((L.map On.av).length : Int) = ((L.map On.av).length : Int)) = true := decide_eq_true rfl
  refine zj tbOk (zn Tryz.func17 (by kernel_rfl) rfl) Tryz.func17 rfl _ Tryz.ntmps17 (Nat.le_of_ble_eq_true rfl) fun X hX => ?_
  subst hX
  repeat (first | ((with_reducible refine zI ?_); refine zH rfl ?_) | ((with_reducible refine zE ?_); refine zD rfl ?_) | ((with_reducible refine zu ?_); refine yR tbOk rfl rfl ?_) | ((with_reducible refine zM ?_); refine zV rfl rfl rfl ?_)  | refine zJ ?_ | refine zB rfl ?_ | with_reducible refine zC ?_ | with_reducible refine zF ?_ | ((with_reducible refine zA ?_ ?_); kernel_rfl))
  refine zm rfl (fun h => ?_) (fun h => ?_)
  · exfalso; simp at h
  repeat (first | ((with_reducible refine zI ?_); refine zH rfl ?_) | ((with_reducible refine zu ?_); refine yR tbOk rfl rfl ?_)  | refine zJ ?_ | refine zB rfl ?_ | with_reducible refine zC ?_ | with_reducible refine zF ?_ | with_reducible refine zY ?_ | with_reducible refine zR ?_ | ((with_reducible refine zA ?_ ?_); kernel_rfl))
  refine yU (ι := Nat) (fun k => k ≤ L.length) (fun k => L.length - k) (fun v k => [(0, .sl 2 (L.map On.av)), (1, .sl 2 (L.map On.av)), (12, .v (.int .i64 (L.map On.av).length)), (13, .v (.int .i64 (k : Nat)))]) (fun v k => []) ?_ ?_
  · exact ⟨0, Nat.zero_le _, trivial, ⟨rfl, rfl, rfl, rfl, trivial⟩, trivial⟩
  rintro v k hk
  repeat (first | ((with_reducible refine zM ?_); refine zV rfl rfl rfl ?_)  | refine zJ ?_ | refine zB rfl ?_ | with_reducible refine zC ?_ | with_reducible refine zF ?_ | ((with_reducible refine zA ?_ ?_); kernel_rfl))
  refine zm rfl (fun h => ?_) (fun h => ?_)
  · have hlt : k < L.length := by simpa using h
    obtain ⟨x, hx⟩ := zl hlt
    have hy := on_at' hx
    repeat (first | ((with_reducible refine zI ?_); refine zH rfl ?_) | ((with_reducible refine zE ?_); refine zD rfl ?_) | ((with_reducible refine zL ?_); refine yT tbOk rfl rfl (Nat.le_of_ble_eq_true rfl) ?_) | ((with_reducible refine zT ?_); refine zZ tbOk rfl rfl rfl rfl (by assumption) ?_)  | refine zJ ?_ | refine zB rfl ?_ | with_reducible refine zC ?_ | with_reducible refine zF ?_ | with_reducible refine zY ?_ | with_reducible refine zR ?_ | ((with_reducible refine zA ?_ ?_); kernel_rfl) | ((with_reducible refine yx mixd ?_ ?_); kernel_rfl))
    with_reducible refine zM ?_
    refine x_bin_ag rfl rfl (rfl : qY _ = some x.vals) (rfl : qY _ = some x.vals) (fun w => onNeq _ _ _ _ w) ?_
    repeat (first   | refine jM (by kernel_rfl) ?_ | with_reducible refine zC ?_ )
    refine zm rfl (fun q => ?_) (fun q => ?_)
    · exfalso; simp at q
    repeat (first | ((with_reducible refine zI ?_); refine zH rfl ?_) | ((with_reducible refine zM ?_); refine ze rfl rfl (by omega) ?_)  | refine zJ ?_ | refine zB rfl ?_ | with_reducible refine zC ?_ | with_reducible refine zk ?_ | with_reducible refine zR ?_ | ((with_reducible refine zA ?_ ?_); kernel_rfl))
    exact ⟨k + 1, by omega, by omega, ⟨rfl, rfl, rfl, rfl, trivial⟩, trivial⟩
  · repeat (first | ((with_reducible refine zE ?_); refine zD rfl ?_)  | refine zJ ?_ | refine zB rfl ?_ | with_reducible refine zC ?_ | with_reducible refine zw ?_ | with_reducible refine zF ?_ | with_reducible refine yJ ?_ | with_reducible refine zU ?_ | ((with_reducible refine zr ?_ ?_); rfl) | ((with_reducible refine zA ?_ ?_); kernel_rfl))
    refine yC (by first | exact .inr rfl | exact .inl rfl) rfl rfl ?_
    rfl
end Go.Proofs.YtggngllfnboehaaGreatDoor
