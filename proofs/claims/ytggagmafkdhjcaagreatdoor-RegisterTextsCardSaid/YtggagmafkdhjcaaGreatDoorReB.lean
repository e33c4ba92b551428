/- register.Add at few people, register.Remove, and the reference's Same, by the abstract machine; conditions: the table of classes stands. -/
import Derived.Test.YtggagmafkdhjcaaGreatDoorReA
import Derived.Test.YtggagmafkdhjcaaGreatDoorRgC
import Derived.Test.YtggagmafkdhjcaaGreatDoorRgF
set_option linter.unusedVariables false
set_option linter.unusedSimpArgs false
namespace Go.Proofs.YtggagmafkdhjcaaGreatDoor
open Go Go.RowKit
set_option maxRecDepth 10000
variable {G : Nat → Option (List Value)}
theorem wW (L : List Per) : ∀ x ∈ L.map Per.av, x.cells.length = 5 := fun x hx => by
  obtain ⟨y, -, rfl⟩ := List.mem_map.1 hx
  rfl
theorem lX (L : List Per) : ∀ x ∈ L.map Per.av, qC x.cells = true := fun x hx => by
  obtain ⟨y, -, rfl⟩ := List.mem_map.1 hx
  rfl
def addK (L : List Per) (p : Per) : List Per × Int :=
  if jI jF L ≠ 0 then ([], jI jF L) else if jF p ≠ 0 then ([], jF p) else if 0 ≤ idxP p.n L 0 then ([], 4) else if L.length = 64 then ([], 1) else (jv ltP (L ++ [p]), 0)
set_option maxHeartbeats 4000000 in
theorem vX (L : List Per) (p : Per) (hG : GCls G) (hs : ∀ q ∈ L, q.n.size ≤ maxLen) (hp : p.n.size ≤ maxLen) (hm : L.length ≤ 11) :
    jD Tryz.prog G 23 [qF L, p.av] [] (.tu [qF (addK L p).1, .v (.int .i64 (addK L p).2)]) [] := by
  have hml : L.length ≤ maxLen := by unfold maxLen; omega
  refine lW tbOk (yj Tryz.func23 (by kernel_rfl) rfl) Tryz.func23 rfl _ Tryz.ntmps23 (Nat.le_of_ble_eq_true rfl) fun X hX hgs => ?_
  subst hX
  unfold addK
  repeat (first | ((with_reducible refine zL ?_); refine zM rfl ?_) | ((with_reducible refine zF ?_); refine zj tbOk rfl rfl rfl rfl (Nat.le_of_ble_eq_true rfl) ?_) | ((with_reducible refine yZ ?_); refine ya tbOk rfl rfl ?_) | ((with_reducible refine yo ?_); refine ym rfl rfl rfl ?_)  | refine yA ?_ | refine zS rfl ?_ | with_reducible (first | refine zY ?_ | refine zR ?_) | ((with_reducible refine zJ ?_ ?_); kernel_rfl))
  refine zC (dM L hG hs hml) ?_
  by_cases h1 : jI jF L = 0
  · have q1 : (jI jF L == 0) = true := by simp [h1]
    rw [if_neg (by simp [h1])]
    repeat (first | ((with_reducible refine zm ?_); refine zl rfl ?_) | ((with_reducible refine zL ?_); refine zM rfl ?_) | ((with_reducible refine zF ?_); refine zj tbOk rfl rfl rfl rfl (Nat.le_of_ble_eq_true rfl) ?_) | ((with_reducible refine zA ?_); refine yM rfl rfl rfl ?_)  | refine yA ?_ | refine zS rfl ?_ | with_reducible (first | refine zY ?_ | refine zR ?_) | ((with_reducible refine zJ ?_ ?_); kernel_rfl) | refine yD rfl (by first | rfl | assumption) ?_)
    refine zC (nW p hG hp) ?_
    by_cases h2 : jF p = 0
    · have q2 : (jF p != 0) = false := by simp [h2]
      rw [if_neg (by simp [h2])]
      repeat (first | ((with_reducible refine zm ?_); refine zl rfl ?_) | ((with_reducible refine zL ?_); refine zM rfl ?_) | ((with_reducible refine zB ?_); refine zH tbOk rfl rfl rfl rfl ?_) | ((with_reducible refine zF ?_); (first | refine zX tbOk rfl rfl rfl rfl rfl ?_ | refine zj tbOk rfl rfl rfl rfl (Nat.le_of_ble_eq_true rfl) ?_)) | ((with_reducible refine zA ?_); refine yM rfl rfl rfl ?_)  | refine yA ?_ | refine zS rfl ?_ | with_reducible (first | refine zY ?_ | refine zR ?_ | refine zq ?_) | ((with_reducible refine zJ ?_ ?_); kernel_rfl) | refine yJ rfl (by first | rfl | assumption) ?_)
      refine zC (nR L p.n (by omega)) ?_
      by_cases h3 : 0 ≤ idxP p.n L 0
      · have q3 : decide (idxP p.n L 0 ≥ 0) = true := decide_eq_true h3
        rw [if_pos h3]
        repeat (first | ((with_reducible refine zL ?_); refine zM rfl ?_) | ((with_reducible refine yQ ?_); refine yS tbOk rfl rfl rfl rfl rfl rfl rfl (Nat.le_of_ble_eq_true rfl) rfl ?_) | ((with_reducible refine yW ?_); refine yX tbOk rfl rfl rfl rfl rfl ?_) | ((with_reducible refine zA ?_); refine yM rfl rfl rfl ?_)  | refine yA ?_ | refine zS rfl ?_ | with_reducible (first | refine zY ?_ | refine zV ?_ | refine za ?_ | refine zR ?_ | refine zv ?_) | ((with_reducible refine zJ ?_ ?_); kernel_rfl) | refine yD rfl (by first | rfl | assumption) ?_)
        refine ret0 (by first | exact .inr rfl | exact .inl rfl) (xs := [.ag [.v (.slice none 0 0)], .v (.int .i64 (4))]) ?_ ?_
        · exact ⟨.agg _ _ _ _ _ _ rfl rfl rfl rfl, .tmp _, trivial⟩
        · repeat' (first | exact trivial | exact Ren.v _ | exact Ren.sl _ _ | exact Ren.ep _ | exact Ren.ptr _ _ _ _ rfl | exact Ren.bs _ _ _ _ _ rfl | exact Ren.nil _ | exact Ren.own _ _ _ _ ⟨_, rfl⟩ | refine yz ?_ | refine jA ?_ | refine jB ?_ | refine ⟨?_, ?_⟩)
      · have q3 : decide (idxP p.n L 0 ≥ 0) = false := decide_eq_false h3
        have q4 : (((L.map Per.av).length : Int) == 64) = false := by
          rw [List.length_map, beq_eq_false_iff_ne]
          omega
        rw [if_neg h3, if_neg (by omega)]
        have hN : ∀ y ∈ [p.av], jY y.cells = true := fun y hy => by simp at hy; subst hy; rfl
        have hlm : (L.map Per.av).length ≤ 11 := by rw [List.length_map]; exact hm
        repeat (first | ((with_reducible refine zL ?_); refine zM rfl ?_) | ((with_reducible refine zB ?_); refine zH tbOk rfl rfl rfl rfl ?_) | ((with_reducible refine zF ?_); refine zX tbOk rfl rfl rfl rfl rfl ?_) | ((with_reducible refine zG ?_); refine yp tbOk rfl rfl ?_) | ((with_reducible refine zA ?_); refine yM rfl rfl rfl ?_)  | refine yA ?_ | refine zS rfl ?_ | with_reducible (first | refine zY ?_ | refine yV ?_ | refine zR ?_ | refine zr ?_) | ((with_reducible refine zJ ?_ ?_); kernel_rfl) | ((with_reducible refine yg mixd ?_ ?_); kernel_rfl) | refine yJ rfl (by first | rfl | assumption) ?_)
        with_reducible refine zG ?_
        refine lY (rO (L.map Per.av) (aL L) (by omega)) (by repeat' (first | exact trivial | exact Ren.v _ | exact Ren.sl _ _ | exact Ren.ep _ | exact Ren.ptr _ _ _ _ rfl | exact Ren.bs _ _ _ _ _ rfl | exact Ren.nil _ | exact Ren.own _ _ _ _ ⟨_, rfl⟩ | refine yz ?_ | refine jA ?_ | refine jB ?_ | refine ⟨?_, ?_⟩)) rfl ?_
        repeat (first | ((with_reducible refine zF ?_); refine zj tbOk rfl rfl rfl rfl (Nat.le_of_ble_eq_true rfl) ?_) | ((with_reducible refine zd ?_); refine zc tbOk rfl rfl rfl rfl rfl (by omega) rfl rfl rfl ?_) | refine zS rfl ?_  )
        refine qA tbOk rfl rfl rfl rfl rfl (by decide) rfl rfl rfl rfl rfl hN (by simp at hlm ⊢; omega) (by simp at hlm ⊢; omega) ?_
        repeat (first | ((with_reducible refine zL ?_); refine zM rfl ?_) | refine yl (by kernel_rfl) ?_ | refine zS rfl ?_ | with_reducible (first | refine zY ?_ | refine zR ?_))
        have el : L.map Per.av ++ [p.av] = (L ++ [p]).map Per.av := by rw [List.map_append]; rfl
        have hl12 : (L ++ [p]).length ≤ 12 := by simp; omega
        refine iO (s := 37) (k := 1) (L := L.map Per.av ++ [p.av]) [(7, .bs 37 2 5 (L.map Per.av ++ [p.av]).length)] rfl (by simp) (fun J => ⟨.inl (.inr ⟨rfl, rfl⟩), trivial⟩) (fun J hJ => ?_)
        rw [el, List.length_map]
        repeat (first | ((with_reducible refine zm ?_); refine zl rfl ?_)  | refine zS rfl ?_  | ((with_reducible refine zJ ?_ ?_); kernel_rfl))
        with_reducible refine zG ?_
        refine zD (y := .tu []) (ss := [(37, 2)]) (rW (L ++ [p]) J hJ hl12) (by simp) (mV rfl (qw (lX _) hJ)) rfl (eJ (qw (lX _) hJ)) ?_
        repeat (first  | refine yA ?_ | with_reducible (first | refine zY ?_ | refine zR ?_))
        refine mC (s := 37) (k := 2) (L := (jv ltP (L ++ [p])).map Per.av) (J := J) (sz := 5) hgs [(7, .sl 5 ((jv ltP (L ++ [p])).map Per.av))] rfl (wW _) (by decide) (lX _) (by rw [List.length_map, qR]; unfold maxLen; omega) ⟨.inl (.inr ⟨?_, rfl⟩), trivial⟩ ?_
        · show AV.bs 37 2 5 (L ++ [p]).length = _
          rw [List.length_map, qR]
        repeat (first | ((with_reducible refine zm ?_); refine zl rfl ?_) | ((with_reducible refine zL ?_); refine zM rfl ?_) | ((with_reducible refine yQ ?_); refine yS tbOk rfl rfl rfl rfl rfl rfl rfl (Nat.le_of_ble_eq_true rfl) rfl ?_) | ((with_reducible refine yW ?_); refine yX tbOk rfl rfl rfl rfl rfl ?_)  | refine yA ?_ | refine zS rfl ?_ | with_reducible (first | refine zY ?_ | refine zv ?_) | ((with_reducible refine zJ ?_ ?_); kernel_rfl))
        refine jn (by first | exact .inr rfl | exact .inl rfl) rfl rfl rfl rfl rfl rfl ?_
        unfold qF
        repeat' (first | exact trivial | exact Ren.v _ | exact Ren.sl _ _ | exact Ren.ep _ | exact Ren.ptr _ _ _ _ rfl | exact Ren.bs _ _ _ _ _ rfl | exact Ren.nil _ | exact Ren.own _ _ _ _ ⟨_, rfl⟩ | refine yz ?_ | refine jA ?_ | refine jB ?_ | refine ⟨?_, ?_⟩)
    · have q2 : (jF p != 0) = true := by simp [h2]
      rw [if_pos h2]
      repeat (first | ((with_reducible refine zm ?_); refine zl rfl ?_) | ((with_reducible refine zL ?_); refine zM rfl ?_) | ((with_reducible refine yQ ?_); refine yS tbOk rfl rfl rfl rfl rfl rfl rfl (Nat.le_of_ble_eq_true rfl) rfl ?_) | ((with_reducible refine yW ?_); refine yX tbOk rfl rfl rfl rfl rfl ?_) | ((with_reducible refine zA ?_); refine yM rfl rfl rfl ?_)  | refine yA ?_ | refine zS rfl ?_ | with_reducible (first | refine zY ?_ | refine zV ?_ | refine za ?_ | refine zR ?_ | refine zq ?_ | refine zv ?_) | ((with_reducible refine zJ ?_ ?_); kernel_rfl) | refine yD rfl (by first | rfl | assumption) ?_)
      refine ret0 (by first | exact .inr rfl | exact .inl rfl) (xs := [.ag [.v (.slice none 0 0)], .v (.int .i64 (jF p))]) ?_ ?_
      · exact ⟨.agg _ _ _ _ _ _ rfl rfl rfl rfl, .tmp _, trivial⟩
      · repeat' (first | exact trivial | exact Ren.v _ | exact Ren.sl _ _ | exact Ren.ep _ | exact Ren.ptr _ _ _ _ rfl | exact Ren.bs _ _ _ _ _ rfl | exact Ren.nil _ | exact Ren.own _ _ _ _ ⟨_, rfl⟩ | refine yz ?_ | refine jA ?_ | refine jB ?_ | refine ⟨?_, ?_⟩)
  · have q1 : (jI jF L == 0) = false := by simp [h1]
    have q2 : (jI jF L != 0) = true := by simp [h1]
    rw [if_pos h1]
    repeat (first | ((with_reducible refine zm ?_); refine zl rfl ?_) | ((with_reducible refine zL ?_); refine zM rfl ?_) | ((with_reducible refine yQ ?_); refine yS tbOk rfl rfl rfl rfl rfl rfl rfl (Nat.le_of_ble_eq_true rfl) rfl ?_) | ((with_reducible refine yW ?_); refine yX tbOk rfl rfl rfl rfl rfl ?_) | ((with_reducible refine zA ?_); refine yM rfl rfl rfl ?_)  | refine yA ?_ | refine zS rfl ?_ | with_reducible (first | refine zY ?_ | refine zV ?_ | refine za ?_ | refine zR ?_ | refine zq ?_ | refine zr ?_ | refine zv ?_) | ((with_reducible refine zJ ?_ ?_); kernel_rfl) | refine yD rfl (by first | rfl | assumption) ?_ | refine yJ rfl (by first | rfl | assumption) ?_)
    refine ret0 (by first | exact .inr rfl | exact .inl rfl) (xs := [.ag [.v (.slice none 0 0)], .v (.int .i64 (jI jF L))]) ?_ ?_
    · exact ⟨.agg _ _ _ _ _ _ rfl rfl rfl rfl, .tmp _, trivial⟩
    · repeat' (first | exact trivial | exact Ren.v _ | exact Ren.sl _ _ | exact Ren.ep _ | exact Ren.ptr _ _ _ _ rfl | exact Ren.bs _ _ _ _ _ rfl | exact Ren.nil _ | exact Ren.own _ _ _ _ ⟨_, rfl⟩ | refine yz ?_ | refine jA ?_ | refine jB ?_ | refine ⟨?_, ?_⟩)
def Per.vals (p : Per) : List Value := [.string p.n, .int .i64 p.c, .int .i64 p.s, .int .i64 p.f, .int .i64 p.u]
theorem sO : Tryz.prog.stoodInHeld 38 = false := by kernel_rfl
theorem uC (a : Per) (w : World) (d : Nat) : (Op.equalIn (d + 2) 38 (.agg ⟨a.vals⟩) (.agg ⟨a.vals⟩)).run Tryz.prog w = .ok true w := by
  obtain ⟨n, c, s, f, u⟩ := a
  rw [run_equalIn_struct w (d + 1) 38 _ _ (by kernel_rfl) sO]
  simp [Per.vals, Program.fieldsOf, Tryz.underlying38, Op.eqFields, go_sem, Tryz.underlying3, Tryz.underlying9]
theorem wM (x y : Operand) (a : Per) (w : World) : (do eqGuard .neq 38 x y (.agg ⟨a.vals⟩) (.agg ⟨a.vals⟩); binOp .neq 38 (.agg ⟨a.vals⟩) (.agg ⟨a.vals⟩) : Sem Value).run Tryz.prog w = .ok (.bool false) w := by
  have hg : (eqGuard .neq 38 x y (.agg ⟨a.vals⟩) (.agg ⟨a.vals⟩)).run Tryz.prog w = .ok () w := by
    unfold eqGuard
    simp [show Tryz.prog.eqGuardType Tryz.prog.depth 38 = false by kernel_rfl]
  rw [Sem.run_bind, hg]
  simp only [Result.andThen_ok, binOp]
  simp [Op.equal, Op.maxDepth, uC a w 9998]
theorem uD (L : List Per) (hm : L.length ≤ 1000) : jD Tryz.prog G 11 [qF L, qF L] [] (.v (.bool true)) [] := by
  have q : (((L.map Per.av).length : Int) != ((L.map Per.av).length : Int)) = false := by simp
  refine yi tbOk (yj Tryz.func11 (by kernel_rfl) rfl) Tryz.func11 rfl _ Tryz.ntmps11 (Nat.le_of_ble_eq_true rfl) fun X hX => ?_
  subst hX
  repeat (first | ((with_reducible refine zL ?_); refine zM rfl ?_) | ((with_reducible refine zB ?_); refine zH tbOk rfl rfl rfl rfl ?_) | ((with_reducible refine zF ?_); refine zX tbOk rfl rfl rfl rfl rfl ?_) | ((with_reducible refine yo ?_); refine ym rfl rfl rfl ?_) | ((with_reducible refine zG ?_); refine yp tbOk rfl rfl ?_) | ((with_reducible refine zA ?_); refine yM rfl rfl rfl ?_)  | refine yA ?_ | refine zS rfl ?_ | with_reducible (first | refine zY ?_ | refine zR ?_ | refine zq ?_ | refine zr ?_) | ((with_reducible refine zJ ?_ ?_); kernel_rfl) | refine yJ rfl (by first | rfl | assumption) ?_)
  refine jZ (ι := Nat) (fun j => j ≤ L.length) (fun j => L.length - j) (fun v j => [(2, .ptr 2 (v 2) 0), (3, .ptr 3 (v 3) 0), (5, .v (.int .i64 j))]) (fun v j => [(2, .box [.sl 5 (L.map Per.av)]), (3, .box [.sl 5 (L.map Per.av)])]) ?_ ?_
  · exact ⟨0, Nat.zero_le _, trivial, ⟨rfl, rfl, rfl, trivial⟩, ⟨rfl, rfl, trivial⟩⟩
  rintro v j hj
  repeat (first | ((with_reducible refine zm ?_); refine zl rfl ?_) | ((with_reducible refine zB ?_); refine zH tbOk rfl rfl rfl rfl ?_) | ((with_reducible refine zF ?_); refine zX tbOk rfl rfl rfl rfl rfl ?_) | ((with_reducible refine zG ?_); refine yp tbOk rfl rfl ?_) | ((with_reducible refine zA ?_); refine yM rfl rfl rfl ?_)  | refine yA ?_ | refine zS rfl ?_ | with_reducible (first | refine zY ?_ | refine zR ?_) | ((with_reducible refine zJ ?_ ?_); kernel_rfl))
  refine jE rfl (fun h => ?_) (fun h => ?_)
  · have hlt : j < L.length := by simpa using h
    obtain ⟨x, hx⟩ := yr hlt
    have hy : (L.map Per.av)[j]? = some x.av := by rw [List.getElem?_map, hx]; rfl
    repeat (first | ((with_reducible refine zm ?_); refine zl rfl ?_) | ((with_reducible refine zB ?_); refine zH tbOk rfl rfl rfl rfl ?_) | ((with_reducible refine zF ?_); (first | refine zX tbOk rfl rfl rfl rfl rfl ?_ | refine zU tbOk rfl rfl (Nat.le_of_ble_eq_true rfl) ?_)) | ((with_reducible refine zE ?_); refine zQ tbOk rfl rfl rfl rfl (by assumption) ?_)  | refine zS rfl ?_ | with_reducible (first | refine zY ?_ | refine zR ?_ | refine zq ?_ | refine zr ?_) | ((with_reducible refine yg mixd ?_ ?_); kernel_rfl))
    with_reducible refine zA ?_
    refine pU rfl rfl (rfl : cO _ = some x.vals) (rfl : cO _ = some x.vals) (fun w => wM _ _ _ w) ?_
    repeat (first | ((with_reducible refine zm ?_); refine zl rfl ?_) | ((with_reducible refine zL ?_); refine zM rfl ?_) | ((with_reducible refine zA ?_); refine yE rfl rfl (by omega) ?_)  | refine yA ?_ | refine yl (by kernel_rfl) ?_ | refine zS rfl ?_ | with_reducible (first | refine zY ?_ | refine yV ?_ | refine zr ?_) | ((with_reducible refine zJ ?_ ?_); kernel_rfl) | refine yJ rfl (by first | rfl | assumption) ?_)
    exact ⟨j + 1, by show j + 1 ≤ L.length; omega, by show L.length - (j + 1) < L.length - j; omega, ⟨rfl, rfl, rfl, trivial⟩, ⟨rfl, rfl, trivial⟩⟩
  · repeat (first | ((with_reducible refine zL ?_); refine zM rfl ?_)  | refine yA ?_ | refine zS rfl ?_ | with_reducible (first | refine zY ?_ | refine ze ?_ | refine zR ?_ | refine yK ?_ | refine zv ?_) | ((with_reducible refine zW ?_ ?_); rfl) | ((with_reducible refine zJ ?_ ?_); kernel_rfl))
    refine jK (by first | exact .inr rfl | exact .inl rfl) rfl rfl ?_
    rfl
end Go.Proofs.YtggagmafkdhjcaaGreatDoor
