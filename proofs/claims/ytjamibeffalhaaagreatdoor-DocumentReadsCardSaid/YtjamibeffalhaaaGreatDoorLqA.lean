/- Locks compared: == and slices.Equal, by the abstract machine; conditions: none. -/
import Derived.Test.YtjamibeffalhaaaGreatDoorLcA
set_option linter.unusedVariables false
set_option linter.unusedSimpArgs false
namespace Go.Proofs.YtjamibeffalhaaaGreatDoor
open Go Go.RowKit
set_option maxRecDepth 10000
variable {G : Nat → Option (List Value)}
def Lk.vals (k : Lk) : List Value := [.int .i64 k.d, .int .i64 k.p, .int .i64 k.k]
theorem held_Lk : Tryz.prog.stoodInHeld 65 = false := by kernel_rfl
theorem lkEq (a b : Lk) (w : World) (d : Nat) : (Op.equalIn (d + 2) 65 (.agg ⟨a.vals⟩) (.agg ⟨b.vals⟩)).run Tryz.prog w = .ok (decide (a = b)) w := by
  obtain ⟨k, i, n⟩ := a
  obtain ⟨k', i', n'⟩ := b
  rw [run_equalIn_struct w (d + 1) 65 _ _ (by kernel_rfl) held_Lk]
  simp only [Lk.mk.injEq]
  by_cases h1 : k = k' <;> by_cases h2 : i = i' <;> by_cases h3 : n = n' <;> simp [Lk.vals, Program.fieldsOf, Tryz.underlying65, Op.eqFields, go_sem, Tryz.underlying3, h1, h2, h3]
theorem lkNeq (x y : Operand) (a b : Lk) (w : World) : (do eqGuard .neq 65 x y (.agg ⟨a.vals⟩) (.agg ⟨b.vals⟩); binOp .neq 65 (.agg ⟨a.vals⟩) (.agg ⟨b.vals⟩) : Sem Value).run Tryz.prog w = .ok (.bool (!decide (a = b))) w := by
  have hg : (eqGuard .neq 65 x y (.agg ⟨a.vals⟩) (.agg ⟨b.vals⟩)).run Tryz.prog w = .ok () w := by
    unfold eqGuard
    simp [show Tryz.prog.eqGuardType Tryz.prog.depth 65 = false by kernel_rfl]
  rw [Sem.run_bind, hg]
  simp only [Result.andThen_ok, binOp]
  simp [Op.equal, Op.maxDepth, lkEq a b w 9998]
theorem leq_A (L M : List Lk) (hl : L.length ≤ maxLen) : zz Tryz.prog G 60 [.sl 3 (L.map Lk.av), .sl 3 (M.map Lk.av)] [] (.v (.bool (decide (L = M)))) [] := by
  have hml : L.length ≤ 9223372036854775807 := by unfold maxLen at hl; omega
  refine zb tbOk (zc Tryz.func60 (by kernel_rfl) rfl) Tryz.func60 rfl _ Tryz.ntmps60 (Nat.le_of_ble_eq_true rfl) fun X hX => ?_
  subst hX
  repeat (first | ((with_reducible refine zK ?_); refine zJ rfl ?_) | ((with_reducible refine zE ?_); refine zF rfl ?_) | ((with_reducible refine zt ?_); refine yH tbOk rfl rfl ?_) | ((with_reducible refine zQ ?_); refine zT rfl rfl rfl ?_)  | refine zL ?_ | refine zB rfl ?_ | with_reducible (first | refine zG ?_ | refine zH ?_) | ((with_reducible refine zA ?_ ?_); kernel_rfl))
  refine zZ rfl (fun h => ?_) (fun h => ?_)
  · repeat (first | ((with_reducible refine zE ?_); refine zF rfl ?_)  | refine zL ?_ | refine zB rfl ?_ | with_reducible (first | refine zG ?_ | refine zO ?_ | refine zH ?_ | refine zN ?_) | ((with_reducible refine zA ?_ ?_); kernel_rfl))
    refine zm (by first | exact .inr rfl | exact .inl rfl) rfl rfl ?_
    have : ¬ L.length = M.length := by simp at h; omega
    rw [decide_eq_false (fun e => this (by rw [e]))]
  · have hlm : L.length = M.length := by simp at h; omega
    repeat (first | ((with_reducible refine zK ?_); refine zJ rfl ?_) | ((with_reducible refine zt ?_); refine yH tbOk rfl rfl ?_)  | refine zL ?_ | refine zB rfl ?_ | with_reducible (first | refine zG ?_ | refine zH ?_ | refine zY ?_ | refine zS ?_) | ((with_reducible refine zA ?_ ?_); kernel_rfl))
    refine yL (ι := Nat) (fun k => k ≤ L.length ∧ (L = M ↔ L.drop k = M.drop k)) (fun k => L.length - k) (fun v k => [(0, .sl 3 (L.map Lk.av)), (1, .sl 3 (M.map Lk.av)), (12, .v (.int .i64 (L.map Lk.av).length)), (13, .v (.int .i64 k))]) (fun v k => []) ?_ ?_
    · exact ⟨0, ⟨Nat.zero_le _, Iff.rfl⟩, trivial, ⟨rfl, rfl, rfl, rfl, trivial⟩, trivial⟩
    · rintro v k ⟨hk, hf⟩
      repeat (first | ((with_reducible refine zQ ?_); refine zT rfl rfl rfl ?_)  | refine zL ?_ | refine zB rfl ?_ | with_reducible (first | refine zG ?_ | refine zH ?_) | ((with_reducible refine zA ?_ ?_); kernel_rfl))
      refine zZ rfl (fun h => ?_) (fun h => ?_)
      · have hlt : k < L.length := by simpa using h
        obtain ⟨r, hx⟩ := zd hlt
        obtain ⟨q, hq⟩ := zd (L := M) (k := k) (by omega)
        have hy := aS hx
        have hz := aS hq
        rw [yT hx, yT hq, List.cons.injEq] at hf
        repeat (first | ((with_reducible refine zK ?_); refine zJ rfl ?_) | ((with_reducible refine zE ?_); refine zF rfl ?_) | ((with_reducible refine zR ?_); refine yj tbOk rfl rfl (Nat.le_of_ble_eq_true rfl) ?_) | ((with_reducible refine zU ?_); refine zX tbOk rfl rfl rfl rfl (by assumption) ?_)  | refine zL ?_ | refine zB rfl ?_ | with_reducible (first | refine zG ?_ | refine zH ?_ | refine zY ?_ | refine zS ?_) | ((with_reducible refine zA ?_ ?_); kernel_rfl) | ((with_reducible refine yZ mixd ?_ ?_); kernel_rfl))
        with_reducible refine zQ ?_
        refine fM rfl rfl (rfl : aK _ = some r.vals) (rfl : aK _ = some q.vals) (fun w => lkNeq _ _ _ _ w) ?_
        repeat (first   | refine yf (by kernel_rfl) ?_ | with_reducible refine zG ?_ )
        refine zZ rfl (fun he => ?_) (fun he => ?_)
        · have he' : ¬ r = q := by simpa using he
          repeat (first | ((with_reducible refine zE ?_); refine zF rfl ?_)  | refine zL ?_ | refine zB rfl ?_ | with_reducible (first | refine zG ?_ | refine zO ?_ | refine zV ?_ | refine zH ?_ | refine zN ?_) | ((with_reducible refine zA ?_ ?_); kernel_rfl))
          refine zm (by first | exact .inr rfl | exact .inl rfl) rfl rfl ?_
          rw [decide_eq_false (fun e => he' (hf.1 e).1)]
        · have he' : r = q := by simpa using he
          repeat (first | ((with_reducible refine zK ?_); refine zJ rfl ?_) | ((with_reducible refine zQ ?_); refine zg rfl rfl (by omega) ?_)  | refine zL ?_ | refine zB rfl ?_ | with_reducible (first | refine zG ?_ | refine zu ?_ | refine zS ?_) | ((with_reducible refine zA ?_ ?_); kernel_rfl))
          exact ⟨k + 1, ⟨by omega, by rw [hf]; exact ⟨fun e => e.2, fun e => ⟨he', e⟩⟩⟩, by omega, ⟨rfl, rfl, rfl, rfl, trivial⟩, trivial⟩
      · have hlt : ¬ k < L.length := by simpa using h
        repeat (first | ((with_reducible refine zE ?_); refine zF rfl ?_)  | refine zL ?_ | refine zB rfl ?_ | with_reducible (first | refine zG ?_ | refine zo ?_ | refine zH ?_ | refine yB ?_ | refine zN ?_) | ((with_reducible refine ze ?_ ?_); rfl) | ((with_reducible refine zA ?_ ?_); kernel_rfl))
        refine zm (by first | exact .inr rfl | exact .inl rfl) rfl rfl ?_
        rw [List.drop_of_length_le (by omega), List.drop_of_length_le (by omega)] at hf
        rw [decide_eq_true (hf.2 rfl)]
theorem lsame_A (L M : List Lk) (hl : L.length ≤ maxLen) : zz Tryz.prog G 50 [.sl 3 (L.map Lk.av), .sl 3 (M.map Lk.av)] [] (.v (.bool (decide (L = M)))) [] := by
  have hml : L.length ≤ 9223372036854775807 := by unfold maxLen at hl; omega
  refine zb tbOk (zc Tryz.func50 (by kernel_rfl) rfl) Tryz.func50 rfl _ Tryz.ntmps50 (Nat.le_of_ble_eq_true rfl) fun X hX => ?_
  subst hX
  repeat (first | ((with_reducible refine zK ?_); refine zJ rfl ?_) | ((with_reducible refine zE ?_); refine zF rfl ?_) | ((with_reducible refine zt ?_); refine yH tbOk rfl rfl ?_) | ((with_reducible refine zQ ?_); refine zT rfl rfl rfl ?_)  | refine zL ?_ | refine zB rfl ?_ | with_reducible (first | refine zG ?_ | refine zH ?_) | ((with_reducible refine zA ?_ ?_); kernel_rfl))
  refine zZ rfl (fun h => ?_) (fun h => ?_)
  · repeat (first | ((with_reducible refine zE ?_); refine zF rfl ?_)  | refine zL ?_ | refine zB rfl ?_ | with_reducible (first | refine zG ?_ | refine zO ?_ | refine zH ?_ | refine zN ?_) | ((with_reducible refine zA ?_ ?_); kernel_rfl))
    refine zm (by first | exact .inr rfl | exact .inl rfl) rfl rfl ?_
    have : ¬ L.length = M.length := by simp at h; omega
    rw [decide_eq_false (fun e => this (by rw [e]))]
  · have hlm : L.length = M.length := by simp at h; omega
    repeat (first | ((with_reducible refine zE ?_); refine zF rfl ?_)  | refine zL ?_ | refine zB rfl ?_ | with_reducible (first | refine zG ?_ | refine zH ?_ | refine zY ?_ | refine zS ?_) | ((with_reducible refine zA ?_ ?_); kernel_rfl))
    refine yL (ι := Nat) (fun k => k ≤ L.length ∧ (L = M ↔ L.drop k = M.drop k)) (fun k => L.length - k) (fun v k => [(0, .sl 3 (L.map Lk.av)), (1, .sl 3 (M.map Lk.av)), (5, .v (.int .i64 k))]) (fun v k => []) ?_ ?_
    · exact ⟨0, ⟨Nat.zero_le _, Iff.rfl⟩, trivial, ⟨rfl, rfl, rfl, trivial⟩, trivial⟩
    · rintro v k ⟨hk, hf⟩
      repeat (first | ((with_reducible refine zK ?_); refine zJ rfl ?_) | ((with_reducible refine zt ?_); refine yH tbOk rfl rfl ?_) | ((with_reducible refine zQ ?_); refine zT rfl rfl rfl ?_)  | refine zL ?_ | refine zB rfl ?_ | with_reducible (first | refine zG ?_ | refine zH ?_) | ((with_reducible refine zA ?_ ?_); kernel_rfl))
      refine zZ rfl (fun h => ?_) (fun h => ?_)
      · have hlt : k < L.length := by simpa using h
        obtain ⟨r, hx⟩ := zd hlt
        obtain ⟨q, hq⟩ := zd (L := M) (k := k) (by omega)
        have hy := aS hx
        have hz := aS hq
        rw [yT hx, yT hq, List.cons.injEq] at hf
        repeat (first | ((with_reducible refine zK ?_); refine zJ rfl ?_) | ((with_reducible refine zR ?_); refine yj tbOk rfl rfl (Nat.le_of_ble_eq_true rfl) ?_) | ((with_reducible refine zU ?_); refine zX tbOk rfl rfl rfl rfl (by assumption) ?_)  | refine zB rfl ?_ | with_reducible (first | refine zG ?_ | refine zH ?_ | refine zY ?_ | refine zS ?_) | ((with_reducible refine yZ mixd ?_ ?_); kernel_rfl))
        with_reducible refine zQ ?_
        refine fM rfl rfl (rfl : aK _ = some r.vals) (rfl : aK _ = some q.vals) (fun w => lkNeq _ _ _ _ w) ?_
        repeat (first   | refine yf (by kernel_rfl) ?_ | with_reducible refine zG ?_ )
        refine zZ rfl (fun he => ?_) (fun he => ?_)
        · have he' : ¬ r = q := by simpa using he
          repeat (first | ((with_reducible refine zE ?_); refine zF rfl ?_)  | refine zL ?_ | refine zB rfl ?_ | with_reducible (first | refine zG ?_ | refine zO ?_ | refine zV ?_ | refine zH ?_ | refine zN ?_) | ((with_reducible refine zA ?_ ?_); kernel_rfl))
          refine zm (by first | exact .inr rfl | exact .inl rfl) rfl rfl ?_
          rw [decide_eq_false (fun e => he' (hf.1 e).1)]
        · have he' : r = q := by simpa using he
          repeat (first | ((with_reducible refine zK ?_); refine zJ rfl ?_) | ((with_reducible refine zE ?_); refine zF rfl ?_) | ((with_reducible refine zQ ?_); refine zg rfl rfl (by omega) ?_)  | refine zL ?_ | refine zB rfl ?_ | with_reducible (first | refine zG ?_ | refine zu ?_ | refine zS ?_) | ((with_reducible refine zA ?_ ?_); kernel_rfl))
          exact ⟨k + 1, ⟨by omega, by rw [hf]; exact ⟨fun e => e.2, fun e => ⟨he', e⟩⟩⟩, by omega, ⟨rfl, rfl, rfl, trivial⟩, trivial⟩
      · have hlt : ¬ k < L.length := by simpa using h
        repeat (first | ((with_reducible refine zE ?_); refine zF rfl ?_)  | refine zL ?_ | refine zB rfl ?_ | with_reducible (first | refine zG ?_ | refine zo ?_ | refine zH ?_ | refine yB ?_ | refine zN ?_) | ((with_reducible refine ze ?_ ?_); rfl) | ((with_reducible refine zA ?_ ?_); kernel_rfl))
        refine zm (by first | exact .inr rfl | exact .inl rfl) rfl rfl ?_
        rw [List.drop_of_length_le (by omega), List.drop_of_length_le (by omega)] at hf
        rw [decide_eq_true (hf.2 rfl)]
end Go.Proofs.YtjamibeffalhaaaGreatDoor
