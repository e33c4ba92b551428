/- document.All, Find, Active, Same and their references, by the abstract machine; conditions: the table of classes stands. -/
import Derived.Test.YtjamibeffalhaaaGreatDoorDcB
import Derived.Test.YtjamibeffalhaaaGreatDoorLqA
set_option linter.unusedVariables false
set_option linter.unusedSimpArgs false
namespace Go.Proofs.YtjamibeffalhaaaGreatDoor
open Go Go.RowKit
set_option maxRecDepth 10000
variable {G : Nat → Option (List Value)}
def actB (d : Dc) : Bool := decide (d.st = 2) || decide (d.st = 3)
theorem dact_A (d : Dc) : zz Tryz.prog G 28 [d.av] [] (.v (.bool (actB d))) [] := by
  refine zb tbOk (zc Tryz.func28 (by kernel_rfl) rfl) Tryz.func28 rfl _ Tryz.ntmps28 (Nat.le_of_ble_eq_true rfl) fun X hX => ?_
  subst hX
  repeat (first | ((with_reducible refine zK ?_); refine zJ rfl ?_) | ((with_reducible refine zE ?_); refine zF rfl ?_) | ((with_reducible refine zM ?_); refine zI tbOk rfl rfl rfl rfl ?_) | ((with_reducible refine zR ?_); refine zP tbOk rfl rfl rfl rfl rfl ?_) | ((with_reducible refine yr ?_); refine yu rfl rfl rfl ?_) | ((with_reducible refine zQ ?_); refine zT rfl rfl rfl ?_)  | refine zL ?_ | refine zB rfl ?_ | with_reducible (first | refine zG ?_ | refine zH ?_) | ((with_reducible refine zA ?_ ?_); kernel_rfl))
  refine zv rfl rfl (fun b => ?_) (fun b => ?_)
  · repeat (first | ((with_reducible refine zE ?_); refine zF rfl ?_) | ((with_reducible refine za ?_); refine zh rfl (by first | rfl | assumption) rfl ?_)  | refine zL ?_ | refine zB rfl ?_ | refine yA rfl rfl (by first | rfl | assumption) ?_ | with_reducible (first | refine zG ?_ | refine zN ?_) )
    refine zm (by first | exact .inr rfl | exact .inl rfl) rfl rfl ?_
    simp at b
    simp [actB, b]
  · repeat (first | ((with_reducible refine zE ?_); refine zF rfl ?_) | ((with_reducible refine zM ?_); refine zI tbOk rfl rfl rfl rfl ?_) | ((with_reducible refine zR ?_); refine zP tbOk rfl rfl rfl rfl rfl ?_) | ((with_reducible refine za ?_); refine zf rfl (by first | rfl | assumption) rfl ?_) | ((with_reducible refine zQ ?_); refine zT rfl rfl rfl ?_)  | refine zL ?_ | refine zB rfl ?_ | refine zw rfl rfl (by first | rfl | assumption) ?_ | with_reducible (first | refine zG ?_ | refine zN ?_) )
    refine zm (by first | exact .inr rfl | exact .inl rfl) rfl rfl ?_
    simp at b
    simp [actB, b]
    rw [Bool.eq_iff_iff]; simp
theorem ieq_A (L M : List Int) (hl : L.length ≤ maxLen) : zz Tryz.prog G 59 [.sl 1 (L.map iv), .sl 1 (M.map iv)] [] (.v (.bool (decide (L = M)))) [] := by
  have hml : L.length ≤ 9223372036854775807 := by unfold maxLen at hl; omega
  refine zb tbOk (zc Tryz.func59 (by kernel_rfl) rfl) Tryz.func59 rfl _ Tryz.ntmps59 (Nat.le_of_ble_eq_true rfl) fun X hX => ?_
  subst hX
  repeat (first | ((with_reducible refine zK ?_); refine zJ rfl ?_) | ((with_reducible refine zE ?_); refine zF rfl ?_) | ((with_reducible refine zt ?_); refine yH tbOk rfl rfl ?_) | ((with_reducible refine zQ ?_); refine zT rfl rfl rfl ?_)  | refine zL ?_ | refine zB rfl ?_ | with_reducible (first | refine zG ?_ | refine zH ?_) | ((with_reducible refine zA ?_ ?_); kernel_rfl))
  refine zZ rfl (fun h => ?_) (fun h => ?_)
  · repeat (first | ((with_reducible refine zE ?_); refine zF rfl ?_)  | refine zL ?_ | refine zB rfl ?_ | with_reducible (first | refine zG ?_ | refine zO ?_ | refine zH ?_ | refine zN ?_) | ((with_reducible refine zA ?_ ?_); kernel_rfl))
    refine zm (by first | exact .inr rfl | exact .inl rfl) rfl rfl ?_
    have : ¬ L.length = M.length := by simp at h; omega
    rw [decide_eq_false (fun e => this (by rw [e]))]
  · have hlm : L.length = M.length := by simp at h; omega
    repeat (first | ((with_reducible refine zK ?_); refine zJ rfl ?_) | ((with_reducible refine zt ?_); refine yH tbOk rfl rfl ?_)  | refine zL ?_ | refine zB rfl ?_ | with_reducible (first | refine zG ?_ | refine zH ?_ | refine zY ?_ | refine zS ?_) | ((with_reducible refine zA ?_ ?_); kernel_rfl))
    refine yL (ι := Nat) (fun k => k ≤ L.length ∧ (L = M ↔ L.drop k = M.drop k)) (fun k => L.length - k) (fun v k => [(0, .sl 1 (L.map iv)), (1, .sl 1 (M.map iv)), (12, .v (.int .i64 (L.map iv).length)), (13, .v (.int .i64 k))]) (fun v k => []) ?_ ?_
    · exact ⟨0, ⟨Nat.zero_le _, Iff.rfl⟩, trivial, ⟨rfl, rfl, rfl, rfl, trivial⟩, trivial⟩
    · rintro v k ⟨hk, hf⟩
      repeat (first | ((with_reducible refine zQ ?_); refine zT rfl rfl rfl ?_)  | refine zL ?_ | refine zB rfl ?_ | with_reducible (first | refine zG ?_ | refine zH ?_) | ((with_reducible refine zA ?_ ?_); kernel_rfl))
      refine zZ rfl (fun h => ?_) (fun h => ?_)
      · have hlt : k < L.length := by simpa using h
        obtain ⟨r, hx⟩ := zd hlt
        obtain ⟨q, hq⟩ := zd (L := M) (k := k) (by omega)
        have hy := aG hx
        have hz := aG hq
        rw [yT hx, yT hq, List.cons.injEq] at hf
        repeat (first | ((with_reducible refine zK ?_); refine zJ rfl ?_) | ((with_reducible refine zE ?_); refine zF rfl ?_) | ((with_reducible refine zR ?_); refine zW tbOk rfl rfl rfl ?_) | ((with_reducible refine zU ?_); refine zX tbOk rfl rfl rfl rfl (by assumption) ?_) | ((with_reducible refine zQ ?_); refine zT rfl rfl rfl ?_)  | refine zL ?_ | refine yf (by kernel_rfl) ?_ | refine zB rfl ?_ | with_reducible (first | refine zG ?_ | refine zH ?_ | refine zY ?_ | refine zS ?_) | ((with_reducible refine zA ?_ ?_); kernel_rfl) | ((with_reducible refine yZ mixd ?_ ?_); kernel_rfl))
        refine zZ rfl (fun he => ?_) (fun he => ?_)
        · have he' : ¬ r = q := by simpa using he
          repeat (first | ((with_reducible refine zE ?_); refine zF rfl ?_)  | refine zL ?_ | refine zB rfl ?_ | with_reducible (first | refine zG ?_ | refine zO ?_ | refine zV ?_ | refine zH ?_ | refine zN ?_) | ((with_reducible refine zA ?_ ?_); kernel_rfl))
          refine zm (by first | exact .inr rfl | exact .inl rfl) rfl rfl ?_
          rw [decide_eq_false (fun e => he' (hf.1 e).1)]
        · have he' : r = q := by simpa using he
          repeat (first | ((with_reducible refine zK ?_); refine zJ rfl ?_) | ((with_reducible refine zQ ?_); refine zg rfl rfl (by omega) ?_)  | refine zL ?_ | refine zB rfl ?_ | with_reducible (first | refine zG ?_ | refine zu ?_ | refine zS ?_) | ((with_reducible refine zA ?_ ?_); kernel_rfl))
          exact ⟨k + 1, ⟨by omega, by rw [hf]; exact ⟨fun e => e.2, fun e => ⟨he', e⟩⟩⟩, by omega, ⟨rfl, rfl, rfl, rfl, trivial⟩, trivial⟩
      · have hlt : ¬ k < L.length := by simpa using h
        repeat (first | ((with_reducible refine zE ?_); refine zF rfl ?_)  | refine zL ?_ | refine zB rfl ?_ | with_reducible (first | refine zG ?_ | refine zo ?_ | refine zH ?_ | refine yB ?_ | refine zN ?_) | ((with_reducible refine ze ?_ ?_); rfl) | ((with_reducible refine zA ?_ ?_); kernel_rfl))
        refine zm (by first | exact .inr rfl | exact .inl rfl) rfl rfl ?_
        rw [decide_eq_true (hf.2 (by rw [List.drop_of_length_le (by omega), List.drop_of_length_le (by omega)]))]
structure Sp2 where
  f : Int
  u : Int
  deriving DecidableEq
def Sp2.vals (k : Sp2) : List Value := [.int .i64 k.f, .int .i64 k.u]
theorem held_Sp : Tryz.prog.stoodInHeld 38 = false := by kernel_rfl
theorem spEq (a b : Sp2) (w : World) (d : Nat) : (Op.equalIn (d + 2) 38 (.agg ⟨a.vals⟩) (.agg ⟨b.vals⟩)).run Tryz.prog w = .ok (decide (a = b)) w := by
  obtain ⟨k, i⟩ := a
  obtain ⟨k', i'⟩ := b
  rw [run_equalIn_struct w (d + 1) 38 _ _ (by kernel_rfl) held_Sp]
  simp only [Sp2.mk.injEq]
  by_cases h1 : k = k' <;> by_cases h2 : i = i' <;> simp [Sp2.vals, Program.fieldsOf, Tryz.underlying38, Op.eqFields, go_sem, Tryz.underlying3, h1, h2]
theorem spEql (x y : Operand) (a b : Sp2) (w : World) : (do eqGuard .eql 38 x y (.agg ⟨a.vals⟩) (.agg ⟨b.vals⟩); binOp .eql 38 (.agg ⟨a.vals⟩) (.agg ⟨b.vals⟩) : Sem Value).run Tryz.prog w = .ok (.bool (decide (a = b))) w := by
  have hg : (eqGuard .eql 38 x y (.agg ⟨a.vals⟩) (.agg ⟨b.vals⟩)).run Tryz.prog w = .ok () w := by
    unfold eqGuard
    simp [show Tryz.prog.eqGuardType Tryz.prog.depth 38 = false by kernel_rfl]
  rw [Sem.run_bind, hg]
  simp only [Result.andThen_ok, binOp]
  simp [Op.equal, Op.maxDepth, spEq a b w 9998]
instance : DecidableEq Dc := fun a b => by
  by_cases h : a.num = b.num ∧ a.kind = b.kind ∧ a.st = b.st ∧ a.rd = b.rd ∧ a.zone = b.zone ∧ a.safe = b.safe ∧ a.lk = b.lk ∧ a.iss = b.iss ∧ a.hol = b.hol ∧ a.f = b.f ∧ a.u = b.u ∧ a.ce = b.ce
  · exact isTrue (by cases a; cases b; simp_all)
  · exact isFalse (fun e => by subst e; simp at h)
set_option maxHeartbeats 4000000 in
theorem dsame_A (a c : Dc) (ha : DcSz a) : zz Tryz.prog G 20 [a.av, c.av] [] (.v (.bool (decide (a = c)))) [] := by
  refine zb tbOk (zc Tryz.func20 (by kernel_rfl) rfl) Tryz.func20 rfl _ Tryz.ntmps20 (Nat.le_of_ble_eq_true rfl) fun X hX => ?_
  subst hX
  repeat (first | ((with_reducible refine zK ?_); refine zJ rfl ?_) | ((with_reducible refine zE ?_); refine zF rfl ?_) | ((with_reducible refine zM ?_); refine zI tbOk rfl rfl rfl rfl ?_) | ((with_reducible refine zR ?_); refine zP tbOk rfl rfl rfl rfl rfl ?_) | ((with_reducible refine yr ?_); refine yu rfl rfl rfl ?_) | ((with_reducible refine zQ ?_); refine zT rfl rfl rfl ?_)  | refine zL ?_ | refine zB rfl ?_ | with_reducible (first | refine zG ?_ | refine zH ?_) | ((with_reducible refine zA ?_ ?_); kernel_rfl))
  refine zv rfl rfl (fun b => ?_) (fun b => ?_)
  rotate_left
  · rw [decide_eq_false (p := a = c) (fun e => by subst e; simp at b)]
    repeat (first | ((with_reducible refine zK ?_); refine zJ rfl ?_) | ((with_reducible refine zE ?_); refine zF rfl ?_) | ((with_reducible refine za ?_); refine zf rfl (by first | rfl | assumption) rfl ?_)  | refine zL ?_ | refine zB rfl ?_ | refine yE rfl rfl (by first | rfl | assumption) ?_ | with_reducible (first | refine zG ?_ | refine zN ?_) )
    refine zm (by first | exact .inr rfl | exact .inl rfl) rfl rfl ?_
    rfl
  repeat (first | ((with_reducible refine zK ?_); refine zJ rfl ?_) | ((with_reducible refine zM ?_); refine zI tbOk rfl rfl rfl rfl ?_) | ((with_reducible refine zR ?_); refine zP tbOk rfl rfl rfl rfl rfl ?_) | ((with_reducible refine za ?_); refine zh rfl (by first | rfl | assumption) rfl ?_) | ((with_reducible refine zQ ?_); refine zT rfl rfl rfl ?_)  | refine zB rfl ?_ | refine yC rfl rfl (by first | rfl | assumption) ?_  )
  refine zv rfl rfl (fun b => ?_) (fun b => ?_)
  rotate_left
  · rw [decide_eq_false (p := a = c) (fun e => by subst e; simp at b)]
    repeat (first | ((with_reducible refine zK ?_); refine zJ rfl ?_) | ((with_reducible refine zE ?_); refine zF rfl ?_) | ((with_reducible refine za ?_); refine zf rfl (by first | rfl | assumption) rfl ?_)  | refine zL ?_ | refine zB rfl ?_ | refine yE rfl rfl (by first | rfl | assumption) ?_ | with_reducible (first | refine zG ?_ | refine zN ?_) )
    refine zm (by first | exact .inr rfl | exact .inl rfl) rfl rfl ?_
    rfl
  repeat (first | ((with_reducible refine zK ?_); refine zJ rfl ?_) | ((with_reducible refine zM ?_); refine zI tbOk rfl rfl rfl rfl ?_) | ((with_reducible refine zR ?_); refine zP tbOk rfl rfl rfl rfl rfl ?_) | ((with_reducible refine za ?_); refine zh rfl (by first | rfl | assumption) rfl ?_) | ((with_reducible refine zQ ?_); refine zT rfl rfl rfl ?_)  | refine zB rfl ?_ | refine yC rfl rfl (by first | rfl | assumption) ?_  )
  refine zv rfl rfl (fun b => ?_) (fun b => ?_)
  rotate_left
  · rw [decide_eq_false (p := a = c) (fun e => by subst e; simp at b)]
    repeat (first | ((with_reducible refine zK ?_); refine zJ rfl ?_) | ((with_reducible refine zE ?_); refine zF rfl ?_) | ((with_reducible refine za ?_); refine zf rfl (by first | rfl | assumption) rfl ?_)  | refine zL ?_ | refine zB rfl ?_ | refine yE rfl rfl (by first | rfl | assumption) ?_ | with_reducible (first | refine zG ?_ | refine zN ?_) )
    refine zm (by first | exact .inr rfl | exact .inl rfl) rfl rfl ?_
    rfl
  repeat (first | ((with_reducible refine zK ?_); refine zJ rfl ?_) | ((with_reducible refine zM ?_); refine zI tbOk rfl rfl rfl rfl ?_) | ((with_reducible refine zR ?_); refine zP tbOk rfl rfl rfl rfl rfl ?_) | ((with_reducible refine za ?_); refine zh rfl (by first | rfl | assumption) rfl ?_) | ((with_reducible refine zQ ?_); refine zT rfl rfl rfl ?_)  | refine zB rfl ?_ | refine yC rfl rfl (by first | rfl | assumption) ?_  )
  refine zv rfl rfl (fun b => ?_) (fun b => ?_)
  rotate_left
  · rw [decide_eq_false (p := a = c) (fun e => by subst e; simp at b)]
    repeat (first | ((with_reducible refine zK ?_); refine zJ rfl ?_) | ((with_reducible refine zE ?_); refine zF rfl ?_) | ((with_reducible refine za ?_); refine zf rfl (by first | rfl | assumption) rfl ?_)  | refine zL ?_ | refine zB rfl ?_ | refine yE rfl rfl (by first | rfl | assumption) ?_ | with_reducible (first | refine zG ?_ | refine zN ?_) )
    refine zm (by first | exact .inr rfl | exact .inl rfl) rfl rfl ?_
    rfl
  repeat (first | ((with_reducible refine zM ?_); refine zI tbOk rfl rfl rfl rfl ?_) | ((with_reducible refine zR ?_); refine zP tbOk rfl rfl rfl rfl rfl ?_)  | refine yC rfl rfl (by first | rfl | assumption) ?_  )
  refine zC (ieq_A a.zone c.zone ha.z) ?_
  repeat (first | ((with_reducible refine zK ?_); refine zJ rfl ?_) | ((with_reducible refine za ?_); refine zh rfl (by first | rfl | assumption) rfl ?_)  | refine zB rfl ?_  )
  refine zv rfl rfl (fun b => ?_) (fun b => ?_)
  rotate_left
  · rw [decide_eq_false (p := a = c) (fun e => by subst e; simp at b)]
    repeat (first | ((with_reducible refine zK ?_); refine zJ rfl ?_) | ((with_reducible refine zE ?_); refine zF rfl ?_) | ((with_reducible refine za ?_); refine zf rfl (by first | rfl | assumption) rfl ?_)  | refine zL ?_ | refine zB rfl ?_ | refine yE rfl rfl (by first | rfl | assumption) ?_ | with_reducible (first | refine zG ?_ | refine zN ?_) )
    refine zm (by first | exact .inr rfl | exact .inl rfl) rfl rfl ?_
    rfl
  repeat (first | ((with_reducible refine zK ?_); refine zJ rfl ?_) | ((with_reducible refine zM ?_); refine zI tbOk rfl rfl rfl rfl ?_) | ((with_reducible refine zR ?_); refine zP tbOk rfl rfl rfl rfl rfl ?_) | ((with_reducible refine za ?_); refine zh rfl (by first | rfl | assumption) rfl ?_) | ((with_reducible refine zQ ?_); refine zT rfl rfl rfl ?_)  | refine zB rfl ?_ | refine yC rfl rfl (by first | rfl | assumption) ?_  )
  refine zv rfl rfl (fun b => ?_) (fun b => ?_)
  rotate_left
  · rw [decide_eq_false (p := a = c) (fun e => by subst e; simp at b)]
    repeat (first | ((with_reducible refine zK ?_); refine zJ rfl ?_) | ((with_reducible refine zE ?_); refine zF rfl ?_) | ((with_reducible refine za ?_); refine zf rfl (by first | rfl | assumption) rfl ?_)  | refine zL ?_ | refine zB rfl ?_ | refine yE rfl rfl (by first | rfl | assumption) ?_ | with_reducible (first | refine zG ?_ | refine zN ?_) )
    refine zm (by first | exact .inr rfl | exact .inl rfl) rfl rfl ?_
    rfl
  repeat (first | ((with_reducible refine zM ?_); refine zI tbOk rfl rfl rfl rfl ?_) | ((with_reducible refine zR ?_); refine zP tbOk rfl rfl rfl rfl rfl ?_)  | refine yC rfl rfl (by first | rfl | assumption) ?_  )
  refine zC (leq_A a.lk c.lk ha.l) ?_
  repeat (first | ((with_reducible refine zK ?_); refine zJ rfl ?_) | ((with_reducible refine za ?_); refine zh rfl (by first | rfl | assumption) rfl ?_)  | refine zB rfl ?_  )
  refine zv rfl rfl (fun b => ?_) (fun b => ?_)
  rotate_left
  · rw [decide_eq_false (p := a = c) (fun e => by subst e; simp at b)]
    repeat (first | ((with_reducible refine zK ?_); refine zJ rfl ?_) | ((with_reducible refine zE ?_); refine zF rfl ?_) | ((with_reducible refine za ?_); refine zf rfl (by first | rfl | assumption) rfl ?_)  | refine zL ?_ | refine zB rfl ?_ | refine yE rfl rfl (by first | rfl | assumption) ?_ | with_reducible (first | refine zG ?_ | refine zN ?_) )
    refine zm (by first | exact .inr rfl | exact .inl rfl) rfl rfl ?_
    rfl
  repeat (first | ((with_reducible refine zK ?_); refine zJ rfl ?_) | ((with_reducible refine zM ?_); refine zI tbOk rfl rfl rfl rfl ?_) | ((with_reducible refine zR ?_); refine zP tbOk rfl rfl rfl rfl rfl ?_) | ((with_reducible refine za ?_); refine zh rfl (by first | rfl | assumption) rfl ?_) | ((with_reducible refine zQ ?_); refine yh rfl rfl rfl ?_)  | refine zB rfl ?_ | refine yC rfl rfl (by first | rfl | assumption) ?_  )
  refine zv rfl rfl (fun b => ?_) (fun b => ?_)
  rotate_left
  · rw [decide_eq_false (p := a = c) (fun e => by subst e; rw [yz.2 rfl] at b; cases b)]
    repeat (first | ((with_reducible refine zK ?_); refine zJ rfl ?_) | ((with_reducible refine zE ?_); refine zF rfl ?_) | ((with_reducible refine za ?_); refine zf rfl (by first | rfl | assumption) rfl ?_)  | refine zL ?_ | refine zB rfl ?_ | refine yE rfl rfl (by first | rfl | assumption) ?_ | with_reducible (first | refine zG ?_ | refine zN ?_) )
    refine zm (by first | exact .inr rfl | exact .inl rfl) rfl rfl ?_
    rfl
  have b := yz.1 b
  repeat (first | ((with_reducible refine zK ?_); refine zJ rfl ?_) | ((with_reducible refine zM ?_); refine zI tbOk rfl rfl rfl rfl ?_) | ((with_reducible refine zR ?_); refine zP tbOk rfl rfl rfl rfl rfl ?_) | ((with_reducible refine za ?_); refine zh rfl (by first | rfl | assumption) rfl ?_) | ((with_reducible refine zQ ?_); refine yh rfl rfl rfl ?_)  | refine zB rfl ?_ | refine yC rfl rfl (by first | rfl | assumption) ?_  )
  refine zv rfl rfl (fun b => ?_) (fun b => ?_)
  rotate_left
  · rw [decide_eq_false (p := a = c) (fun e => by subst e; rw [yz.2 rfl] at b; cases b)]
    repeat (first | ((with_reducible refine zK ?_); refine zJ rfl ?_) | ((with_reducible refine zE ?_); refine zF rfl ?_) | ((with_reducible refine za ?_); refine zf rfl (by first | rfl | assumption) rfl ?_)  | refine zL ?_ | refine zB rfl ?_ | refine yE rfl rfl (by first | rfl | assumption) ?_ | with_reducible (first | refine zG ?_ | refine zN ?_) )
    refine zm (by first | exact .inr rfl | exact .inl rfl) rfl rfl ?_
    rfl
  have b := yz.1 b
  repeat (first | ((with_reducible refine zM ?_); refine zI tbOk rfl rfl rfl rfl ?_) | ((with_reducible refine zR ?_); refine zk tbOk rfl rfl rfl rfl (Nat.le_of_ble_eq_true rfl) ?_)  | refine yC rfl rfl (by first | rfl | assumption) ?_  )
  with_reducible refine zQ ?_
  refine fM rfl rfl (rfl : aK _ = some (Sp2.vals ⟨a.f, a.u⟩)) (rfl : aK _ = some (Sp2.vals ⟨c.f, c.u⟩)) (fun w => spEql _ _ _ _ w) ?_
  repeat (first | ((with_reducible refine zK ?_); refine zJ rfl ?_) | ((with_reducible refine za ?_); refine zh rfl (by first | rfl | assumption) rfl ?_)  | refine zB rfl ?_  )
  refine zv rfl rfl (fun b => ?_) (fun b => ?_)
  rotate_left
  · rw [decide_eq_false (p := a = c) (fun e => by subst e; simp at b)]
    repeat (first | ((with_reducible refine zE ?_); refine zF rfl ?_) | ((with_reducible refine za ?_); refine zf rfl (by first | rfl | assumption) rfl ?_)  | refine zL ?_ | refine zB rfl ?_ | refine yE rfl rfl (by first | rfl | assumption) ?_ | with_reducible (first | refine zG ?_ | refine zN ?_) )
    refine zm (by first | exact .inr rfl | exact .inl rfl) rfl rfl ?_
    rfl
  repeat (first | ((with_reducible refine zM ?_); refine zI tbOk rfl rfl rfl rfl ?_) | ((with_reducible refine zR ?_); refine zP tbOk rfl rfl rfl rfl rfl ?_)  | refine yC rfl rfl (by first | rfl | assumption) ?_  )
  refine zC (ieq_A a.ce c.ce ha.c) ?_
  repeat (first | ((with_reducible refine zE ?_); refine zF rfl ?_) | ((with_reducible refine za ?_); refine zh rfl (by first | rfl | assumption) rfl ?_)  | refine zL ?_ | refine zB rfl ?_ | with_reducible (first | refine zG ?_ | refine zN ?_) )
  refine zm (by first | exact .inr rfl | exact .inl rfl) rfl rfl ?_
  refine congrArg (fun b => AV.v (.bool b)) ?_
  rw [Bool.eq_iff_iff, decide_eq_true_eq, decide_eq_true_eq]
  refine ⟨fun e => by rw [e], fun e => ?_⟩
  cases a; cases c
  simp_all
set_option maxHeartbeats 4000000 in
theorem vV (a c : Dc) (ha : DcSz a) : zz Tryz.prog G 17 [a.av, c.av] [] (.v (.bool (decide (a = c)))) [] := by
  refine zb tbOk (zc Tryz.func17 (by kernel_rfl) rfl) Tryz.func17 rfl _ Tryz.ntmps17 (Nat.le_of_ble_eq_true rfl) fun X hX => ?_
  subst hX
  repeat (first | ((with_reducible refine zK ?_); refine zJ rfl ?_) | ((with_reducible refine zE ?_); refine zF rfl ?_) | ((with_reducible refine zM ?_); refine zI tbOk rfl rfl rfl rfl ?_) | ((with_reducible refine zR ?_); refine zP tbOk rfl rfl rfl rfl rfl ?_) | ((with_reducible refine yr ?_); refine yu rfl rfl rfl ?_) | ((with_reducible refine zQ ?_); refine zT rfl rfl rfl ?_)  | refine zL ?_ | refine zB rfl ?_ | with_reducible (first | refine zG ?_ | refine zH ?_) | ((with_reducible refine zA ?_ ?_); kernel_rfl))
  refine zv rfl rfl (fun b => ?_) (fun b => ?_)
  rotate_left
  · rw [decide_eq_false (p := a = c) (fun e => by subst e; simp at b)]
    repeat (first | ((with_reducible refine zK ?_); refine zJ rfl ?_) | ((with_reducible refine zE ?_); refine zF rfl ?_) | ((with_reducible refine za ?_); refine zf rfl (by first | rfl | assumption) rfl ?_)  | refine zL ?_ | refine zB rfl ?_ | refine yE rfl rfl (by first | rfl | assumption) ?_ | with_reducible (first | refine zG ?_ | refine zN ?_) )
    refine zm (by first | exact .inr rfl | exact .inl rfl) rfl rfl ?_
    rfl
  repeat (first | ((with_reducible refine zK ?_); refine zJ rfl ?_) | ((with_reducible refine zM ?_); refine zI tbOk rfl rfl rfl rfl ?_) | ((with_reducible refine zR ?_); refine zP tbOk rfl rfl rfl rfl rfl ?_) | ((with_reducible refine za ?_); refine zh rfl (by first | rfl | assumption) rfl ?_) | ((with_reducible refine zQ ?_); refine zT rfl rfl rfl ?_)  | refine zB rfl ?_ | refine yC rfl rfl (by first | rfl | assumption) ?_  )
  refine zv rfl rfl (fun b => ?_) (fun b => ?_)
  rotate_left
  · rw [decide_eq_false (p := a = c) (fun e => by subst e; simp at b)]
    repeat (first | ((with_reducible refine zK ?_); refine zJ rfl ?_) | ((with_reducible refine zE ?_); refine zF rfl ?_) | ((with_reducible refine za ?_); refine zf rfl (by first | rfl | assumption) rfl ?_)  | refine zL ?_ | refine zB rfl ?_ | refine yE rfl rfl (by first | rfl | assumption) ?_ | with_reducible (first | refine zG ?_ | refine zN ?_) )
    refine zm (by first | exact .inr rfl | exact .inl rfl) rfl rfl ?_
    rfl
  repeat (first | ((with_reducible refine zK ?_); refine zJ rfl ?_) | ((with_reducible refine zM ?_); refine zI tbOk rfl rfl rfl rfl ?_) | ((with_reducible refine zR ?_); refine zP tbOk rfl rfl rfl rfl rfl ?_) | ((with_reducible refine za ?_); refine zh rfl (by first | rfl | assumption) rfl ?_) | ((with_reducible refine zQ ?_); refine zT rfl rfl rfl ?_)  | refine zB rfl ?_ | refine yC rfl rfl (by first | rfl | assumption) ?_  )
  refine zv rfl rfl (fun b => ?_) (fun b => ?_)
  rotate_left
  · rw [decide_eq_false (p := a = c) (fun e => by subst e; simp at b)]
    repeat (first | ((with_reducible refine zK ?_); refine zJ rfl ?_) | ((with_reducible refine zE ?_); refine zF rfl ?_) | ((with_reducible refine za ?_); refine zf rfl (by first | rfl | assumption) rfl ?_)  | refine zL ?_ | refine zB rfl ?_ | refine yE rfl rfl (by first | rfl | assumption) ?_ | with_reducible (first | refine zG ?_ | refine zN ?_) )
    refine zm (by first | exact .inr rfl | exact .inl rfl) rfl rfl ?_
    rfl
  repeat (first | ((with_reducible refine zK ?_); refine zJ rfl ?_) | ((with_reducible refine zM ?_); refine zI tbOk rfl rfl rfl rfl ?_) | ((with_reducible refine zR ?_); refine zP tbOk rfl rfl rfl rfl rfl ?_) | ((with_reducible refine za ?_); refine zh rfl (by first | rfl | assumption) rfl ?_) | ((with_reducible refine zQ ?_); refine zT rfl rfl rfl ?_)  | refine zB rfl ?_ | refine yC rfl rfl (by first | rfl | assumption) ?_  )
  refine zv rfl rfl (fun b => ?_) (fun b => ?_)
  rotate_left
  · rw [decide_eq_false (p := a = c) (fun e => by subst e; simp at b)]
    repeat (first | ((with_reducible refine zK ?_); refine zJ rfl ?_) | ((with_reducible refine zE ?_); refine zF rfl ?_) | ((with_reducible refine za ?_); refine zf rfl (by first | rfl | assumption) rfl ?_)  | refine zL ?_ | refine zB rfl ?_ | refine yE rfl rfl (by first | rfl | assumption) ?_ | with_reducible (first | refine zG ?_ | refine zN ?_) )
    refine zm (by first | exact .inr rfl | exact .inl rfl) rfl rfl ?_
    rfl
  repeat (first | ((with_reducible refine zM ?_); refine zI tbOk rfl rfl rfl rfl ?_) | ((with_reducible refine zR ?_); refine zP tbOk rfl rfl rfl rfl rfl ?_)  | refine yC rfl rfl (by first | rfl | assumption) ?_  )
  refine zC (wD a.zone c.zone ha.z) ?_
  repeat (first | ((with_reducible refine zK ?_); refine zJ rfl ?_) | ((with_reducible refine za ?_); refine zh rfl (by first | rfl | assumption) rfl ?_)  | refine zB rfl ?_  )
  refine zv rfl rfl (fun b => ?_) (fun b => ?_)
  rotate_left
  · rw [decide_eq_false (p := a = c) (fun e => by subst e; simp at b)]
    repeat (first | ((with_reducible refine zK ?_); refine zJ rfl ?_) | ((with_reducible refine zE ?_); refine zF rfl ?_) | ((with_reducible refine za ?_); refine zf rfl (by first | rfl | assumption) rfl ?_)  | refine zL ?_ | refine zB rfl ?_ | refine yE rfl rfl (by first | rfl | assumption) ?_ | with_reducible (first | refine zG ?_ | refine zN ?_) )
    refine zm (by first | exact .inr rfl | exact .inl rfl) rfl rfl ?_
    rfl
  repeat (first | ((with_reducible refine zK ?_); refine zJ rfl ?_) | ((with_reducible refine zM ?_); refine zI tbOk rfl rfl rfl rfl ?_) | ((with_reducible refine zR ?_); refine zP tbOk rfl rfl rfl rfl rfl ?_) | ((with_reducible refine za ?_); refine zh rfl (by first | rfl | assumption) rfl ?_) | ((with_reducible refine zQ ?_); refine zT rfl rfl rfl ?_)  | refine zB rfl ?_ | refine yC rfl rfl (by first | rfl | assumption) ?_  )
  refine zv rfl rfl (fun b => ?_) (fun b => ?_)
  rotate_left
  · rw [decide_eq_false (p := a = c) (fun e => by subst e; simp at b)]
    repeat (first | ((with_reducible refine zK ?_); refine zJ rfl ?_) | ((with_reducible refine zE ?_); refine zF rfl ?_) | ((with_reducible refine za ?_); refine zf rfl (by first | rfl | assumption) rfl ?_)  | refine zL ?_ | refine zB rfl ?_ | refine yE rfl rfl (by first | rfl | assumption) ?_ | with_reducible (first | refine zG ?_ | refine zN ?_) )
    refine zm (by first | exact .inr rfl | exact .inl rfl) rfl rfl ?_
    rfl
  repeat (first | ((with_reducible refine zM ?_); refine zI tbOk rfl rfl rfl rfl ?_) | ((with_reducible refine zR ?_); refine zP tbOk rfl rfl rfl rfl rfl ?_)  | refine yC rfl rfl (by first | rfl | assumption) ?_  )
  refine zC (lsame_A a.lk c.lk ha.l) ?_
  repeat (first | ((with_reducible refine zK ?_); refine zJ rfl ?_) | ((with_reducible refine za ?_); refine zh rfl (by first | rfl | assumption) rfl ?_)  | refine zB rfl ?_  )
  refine zv rfl rfl (fun b => ?_) (fun b => ?_)
  rotate_left
  · rw [decide_eq_false (p := a = c) (fun e => by subst e; simp at b)]
    repeat (first | ((with_reducible refine zK ?_); refine zJ rfl ?_) | ((with_reducible refine zE ?_); refine zF rfl ?_) | ((with_reducible refine za ?_); refine zf rfl (by first | rfl | assumption) rfl ?_)  | refine zL ?_ | refine zB rfl ?_ | refine yE rfl rfl (by first | rfl | assumption) ?_ | with_reducible (first | refine zG ?_ | refine zN ?_) )
    refine zm (by first | exact .inr rfl | exact .inl rfl) rfl rfl ?_
    rfl
  repeat (first | ((with_reducible refine zK ?_); refine zJ rfl ?_) | ((with_reducible refine zM ?_); refine zI tbOk rfl rfl rfl rfl ?_) | ((with_reducible refine zR ?_); refine zP tbOk rfl rfl rfl rfl rfl ?_) | ((with_reducible refine za ?_); refine zh rfl (by first | rfl | assumption) rfl ?_) | ((with_reducible refine zQ ?_); refine yh rfl rfl rfl ?_)  | refine zB rfl ?_ | refine yC rfl rfl (by first | rfl | assumption) ?_  )
  refine zv rfl rfl (fun b => ?_) (fun b => ?_)
  rotate_left
  · rw [decide_eq_false (p := a = c) (fun e => by subst e; rw [yz.2 rfl] at b; cases b)]
    repeat (first | ((with_reducible refine zK ?_); refine zJ rfl ?_) | ((with_reducible refine zE ?_); refine zF rfl ?_) | ((with_reducible refine za ?_); refine zf rfl (by first | rfl | assumption) rfl ?_)  | refine zL ?_ | refine zB rfl ?_ | refine yE rfl rfl (by first | rfl | assumption) ?_ | with_reducible (first | refine zG ?_ | refine zN ?_) )
    refine zm (by first | exact .inr rfl | exact .inl rfl) rfl rfl ?_
    rfl
  have b := yz.1 b
  repeat (first | ((with_reducible refine zK ?_); refine zJ rfl ?_) | ((with_reducible refine zM ?_); refine zI tbOk rfl rfl rfl rfl ?_) | ((with_reducible refine zR ?_); refine zP tbOk rfl rfl rfl rfl rfl ?_) | ((with_reducible refine za ?_); refine zh rfl (by first | rfl | assumption) rfl ?_) | ((with_reducible refine zQ ?_); refine yh rfl rfl rfl ?_)  | refine zB rfl ?_ | refine yC rfl rfl (by first | rfl | assumption) ?_  )
  refine zv rfl rfl (fun b => ?_) (fun b => ?_)
  rotate_left
  · rw [decide_eq_false (p := a = c) (fun e => by subst e; rw [yz.2 rfl] at b; cases b)]
    repeat (first | ((with_reducible refine zK ?_); refine zJ rfl ?_) | ((with_reducible refine zE ?_); refine zF rfl ?_) | ((with_reducible refine za ?_); refine zf rfl (by first | rfl | assumption) rfl ?_)  | refine zL ?_ | refine zB rfl ?_ | refine yE rfl rfl (by first | rfl | assumption) ?_ | with_reducible (first | refine zG ?_ | refine zN ?_) )
    refine zm (by first | exact .inr rfl | exact .inl rfl) rfl rfl ?_
    rfl
  have b := yz.1 b
  repeat (first | ((with_reducible refine zM ?_); refine zI tbOk rfl rfl rfl rfl ?_) | ((with_reducible refine zR ?_); refine zk tbOk rfl rfl rfl rfl (Nat.le_of_ble_eq_true rfl) ?_)  | refine yC rfl rfl (by first | rfl | assumption) ?_  )
  with_reducible refine zQ ?_
  refine fM rfl rfl (rfl : aK _ = some (Sp2.vals ⟨a.f, a.u⟩)) (rfl : aK _ = some (Sp2.vals ⟨c.f, c.u⟩)) (fun w => spEql _ _ _ _ w) ?_
  repeat (first | ((with_reducible refine zK ?_); refine zJ rfl ?_) | ((with_reducible refine za ?_); refine zh rfl (by first | rfl | assumption) rfl ?_)  | refine zB rfl ?_  )
  refine zv rfl rfl (fun b => ?_) (fun b => ?_)
  rotate_left
  · rw [decide_eq_false (p := a = c) (fun e => by subst e; simp at b)]
    repeat (first | ((with_reducible refine zE ?_); refine zF rfl ?_) | ((with_reducible refine za ?_); refine zf rfl (by first | rfl | assumption) rfl ?_)  | refine zL ?_ | refine zB rfl ?_ | refine yE rfl rfl (by first | rfl | assumption) ?_ | with_reducible (first | refine zG ?_ | refine zN ?_) )
    refine zm (by first | exact .inr rfl | exact .inl rfl) rfl rfl ?_
    rfl
  repeat (first | ((with_reducible refine zM ?_); refine zI tbOk rfl rfl rfl rfl ?_) | ((with_reducible refine zR ?_); refine zP tbOk rfl rfl rfl rfl rfl ?_)  | refine yC rfl rfl (by first | rfl | assumption) ?_  )
  refine zC (wD a.ce c.ce ha.c) ?_
  repeat (first | ((with_reducible refine zE ?_); refine zF rfl ?_) | ((with_reducible refine za ?_); refine zh rfl (by first | rfl | assumption) rfl ?_)  | refine zL ?_ | refine zB rfl ?_ | with_reducible (first | refine zG ?_ | refine zN ?_) )
  refine zm (by first | exact .inr rfl | exact .inl rfl) rfl rfl ?_
  refine congrArg (fun b => AV.v (.bool b)) ?_
  rw [Bool.eq_iff_iff, decide_eq_true_eq, decide_eq_true_eq]
  refine ⟨fun e => by rw [e], fun e => ?_⟩
  cases a; cases c
  simp_all
end Go.Proofs.YtjamibeffalhaaaGreatDoor
