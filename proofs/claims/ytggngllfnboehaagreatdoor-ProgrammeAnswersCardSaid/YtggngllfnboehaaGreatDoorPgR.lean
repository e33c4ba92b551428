/- The references of programmes: step and Parse, by the abstract machine; conditions: the table of classes stands. -/
import Derived.Test.YtggngllfnboehaaGreatDoorPgH
set_option linter.unusedVariables false
set_option linter.unusedSimpArgs false
namespace Go.Proofs.YtggngllfnboehaaGreatDoor
open Go Go.RowKit
set_option maxRecDepth 10000
variable {G : Nat → Option (List Value)}
theorem seq_t {a : List UInt8} {b : Array UInt8} (h : a = b.toList) : yh (strL a) ⟨b⟩ = true := (strEq_L a b.toList).2 h
theorem seq_f {a : List UInt8} {b : Array UInt8} (h : ¬ a = b.toList) : yh (strL a) ⟨b⟩ = false := by
  cases hq : yh (strL a) ⟨b⟩ with
  | false => rfl
  | true => exact absurd ((strEq_L a b.toList).1 hq) h
theorem pos_A (w : List UInt8) : yF Tryz.prog G 59 [svL w] [] (.v (.int .i64 (posI w))) [] := by
  unfold posI
  by_cases h1 : w = ql
  · have e1 := seq_t (b := #[111, 112, 101, 110]) h1
    rw [if_pos h1]
    refine zj tbOk (zn Tryz.func59 (by kernel_rfl) rfl) Tryz.func59 rfl _ Tryz.ntmps59 (Nat.le_of_ble_eq_true rfl) fun X hX => ?_
    subst hX
    repeat (first | ((with_reducible refine zI ?_); refine zH rfl ?_) | ((with_reducible refine zE ?_); refine zD rfl ?_) | ((with_reducible refine zM ?_); refine yp rfl rfl rfl ?_)  | refine zJ ?_ | refine zB rfl ?_ | with_reducible refine zC ?_ | with_reducible refine zS ?_ | with_reducible refine zh ?_ | with_reducible refine zF ?_ | with_reducible refine zY ?_ | with_reducible refine zU ?_ | ((with_reducible refine zA ?_ ?_); kernel_rfl) | refine zg rfl (by first | rfl | assumption) ?_)
    refine yC (by first | exact .inr rfl | exact .inl rfl) rfl rfl ?_
    rfl
  have e1 := seq_f (b := #[111, 112, 101, 110]) h1
  rw [if_neg h1]
  by_cases h2 : w = closedL
  · have e2 := seq_t (b := #[99, 108, 111, 115, 101, 100]) h2
    rw [if_pos h2]
    refine zj tbOk (zn Tryz.func59 (by kernel_rfl) rfl) Tryz.func59 rfl _ Tryz.ntmps59 (Nat.le_of_ble_eq_true rfl) fun X hX => ?_
    subst hX
    repeat (first | ((with_reducible refine zI ?_); refine zH rfl ?_) | ((with_reducible refine zE ?_); refine zD rfl ?_) | ((with_reducible refine zM ?_); refine yp rfl rfl rfl ?_)  | refine zJ ?_ | refine zB rfl ?_ | with_reducible refine zC ?_ | with_reducible refine zS ?_ | with_reducible refine zh ?_ | with_reducible refine zF ?_ | with_reducible refine zY ?_ | with_reducible refine zU ?_ | ((with_reducible refine zA ?_ ?_); kernel_rfl) | refine zg rfl (by first | rfl | assumption) ?_ | refine zp rfl (by first | rfl | assumption) ?_)
    refine yC (by first | exact .inr rfl | exact .inl rfl) rfl rfl ?_
    rfl
  · have e2 := seq_f (b := #[99, 108, 111, 115, 101, 100]) h2
    rw [if_neg h2]
    refine zj tbOk (zn Tryz.func59 (by kernel_rfl) rfl) Tryz.func59 rfl _ Tryz.ntmps59 (Nat.le_of_ble_eq_true rfl) fun X hX => ?_
    subst hX
    repeat (first | ((with_reducible refine zI ?_); refine zH rfl ?_) | ((with_reducible refine zE ?_); refine zD rfl ?_) | ((with_reducible refine zM ?_); refine yp rfl rfl rfl ?_)  | refine zJ ?_ | refine zB rfl ?_ | with_reducible refine zC ?_ | with_reducible refine zk ?_ | with_reducible refine zF ?_ | with_reducible refine zY ?_ | with_reducible refine zR ?_ | with_reducible refine zU ?_ | ((with_reducible refine zA ?_ ?_); kernel_rfl) | refine zp rfl (by first | rfl | assumption) ?_)
    refine yC (by first | exact .inr rfl | exact .inl rfl) rfl rfl ?_
    rfl
theorem jS {N : List Nd} {V : List Dv} {W : List (List UInt8)} (s : St) (hf : jU W = none) : Like (s, 2) (jz N V W) := by
  unfold Like jz
  rw [hf]; exact ⟨rfl, fun e => by cases e⟩
set_option maxHeartbeats 16000000 in
theorem rstep_A (N : List Nd) (V : List Dv) (W : List (List UInt8)) (ok : NwOk N V) (hn : netE N V = 0) (h0 : W ≠ []) (hw : ∀ w ∈ W, w.length ≤ 1000000) :
    ∃ x : St × Int, Like x (jz N V W) ∧ ∀ G, yF Tryz.prog G 44 [nwAV N V, .sl 1 (W.map svL)] [] (.tu [x.1.av, .v (.int .i64 x.2)]) [] := by
  have hdv : ∀ {G} (w : List UInt8), yF Tryz.prog G 62 [nwAV N V, svL w] [] (.v (.int .i64 (devI w 0 V))) [] := fun {G} w => by
    have := rdev_A (G := G) N V (strL w) ok
    unfold devF at this
    rw [if_neg (by simpa using hn), ym] at this
    exact this
  have hnd : ∀ {G} (w : List UInt8), yF Tryz.prog G 61 [nwAV N V, svL w] [] (.v (.int .i64 (nodI w 0 N))) [] := fun {G} w => by
    have := rnod_A (G := G) N V (strL w) ok
    unfold nodF at this
    rw [if_neg (by simpa using hn), ym] at this
    exact this
  have hnum : ∀ {G} (w : List UInt8), w.length ≤ 1000000 → yF Tryz.prog G 60 [svL w, .v (.int .i64 1073741824)] [] (.tu [.v (.int .i64 ((numP w 1073741824).getD 0)), .v (.bool (numP w 1073741824).isSome)]) [] := fun {G} w hl => by
    have := rnumber_A (G := G) (strL w) 1073741824 (by rw [jb]; unfold maxLen; omega) (by omega) (by omega)
    rw [ym] at this
    exact this
  match W, h0, hw with
  | [a], _, hw =>
    refine ⟨(St.zer, 2), jS _ ?_, fun G => ?_⟩
    · unfold jU; simp
    · refine zj tbOk (zn Tryz.func44 (by kernel_rfl) rfl) Tryz.func44 rfl _ Tryz.ntmps44 (Nat.le_of_ble_eq_true rfl) fun X hX => ?_
      subst hX
      repeat (first | ((with_reducible refine zI ?_); refine zH rfl ?_) | ((with_reducible refine zE ?_); refine zD rfl ?_) | ((with_reducible refine zL ?_); refine zc tbOk rfl rfl rfl rfl (Nat.le_of_ble_eq_true rfl) ?_) | ((with_reducible refine zd ?_); refine zf tbOk rfl rfl rfl rfl rfl rfl rfl (Nat.le_of_ble_eq_true rfl) rfl ?_) | ((with_reducible refine yA ?_); refine yB tbOk rfl rfl ?_) | ((with_reducible refine yj ?_); refine yi rfl rfl rfl ?_) | ((with_reducible refine k_un ?_); refine yr rfl ?_) | ((with_reducible refine zb ?_); refine zq rfl (by first | rfl | assumption) rfl ?_) | ((with_reducible refine zu ?_); refine yR tbOk rfl rfl ?_) | ((with_reducible refine zM ?_); refine zV rfl rfl rfl ?_)  | refine zJ ?_ | refine zB rfl ?_ | refine yQ rfl rfl (by first | rfl | assumption) ?_ | refine jG rfl rfl rfl ?_ | with_reducible refine zC ?_ | with_reducible refine zS ?_ | with_reducible refine zk ?_ | with_reducible refine zF ?_ | with_reducible refine zY ?_ | with_reducible refine zR ?_ | with_reducible refine zU ?_ | ((with_reducible refine zA ?_ ?_); kernel_rfl) | refine zg rfl (by first | rfl | assumption) ?_ | refine zp rfl (by first | rfl | assumption) ?_)
      repeat (first | fail    )
      refine yo (by first | exact .inr rfl | exact .inl rfl) rfl rfl rfl rfl rfl rfl ?_
      repeat' (first | exact trivial | exact Ren.v _ | exact Ren.sl _ _ | exact Ren.ep _ | exact Ren.ptr _ _ _ _ rfl | exact Ren.bs _ _ _ _ _ rfl | exact Ren.nil _ | exact Ren.own _ _ _ _ ⟨_, rfl⟩ | refine zO ?_ | refine zQ ?_ | refine zP ?_ | refine ⟨?_, ?_⟩)
  | [a, b], _, hw =>
    have hb : b.length ≤ 1000000 := hw b (by simp)
    have z0 : (([a, b] : List (List UInt8)).map svL)[(0 : Int).toNat]? = some (svL a) := rfl
    have z1 : (([a, b] : List (List UInt8)).map svL)[(1 : Int).toNat]? = some (svL b) := rfl
    by_cases h1 : a = ql
    · have e1 := seq_t (b := #[111, 112, 101, 110]) h1
      have e2 := seq_f (a := a) (b := #[99, 108, 111, 115, 101]) (by rw [h1]; decide)
      have hf : jU [a, b] = some (1, 0, 0) := by unfold jU; rw [if_pos ⟨rfl, h1⟩]
      refine ⟨_, qF (w := b) hf (by decide) rfl, fun G => ?_⟩
      refine zj tbOk (zn Tryz.func44 (by kernel_rfl) rfl) Tryz.func44 rfl _ Tryz.ntmps44 (Nat.le_of_ble_eq_true rfl) fun X hX => ?_
      subst hX
      repeat (first | ((with_reducible refine zI ?_); refine zH rfl ?_) | ((with_reducible refine zE ?_); refine zD rfl ?_) | ((with_reducible refine zK ?_); refine zG tbOk rfl rfl rfl rfl ?_) | ((with_reducible refine zL ?_); refine zN tbOk rfl rfl rfl rfl rfl ?_) | ((with_reducible refine zL ?_); refine zc tbOk rfl rfl rfl rfl (Nat.le_of_ble_eq_true rfl) ?_) | ((with_reducible refine zL ?_); refine za tbOk rfl rfl rfl ?_) | ((with_reducible refine zd ?_); refine zf tbOk rfl rfl rfl rfl rfl rfl rfl (Nat.le_of_ble_eq_true rfl) rfl ?_) | ((with_reducible refine yA ?_); refine yB tbOk rfl rfl ?_) | ((with_reducible refine yj ?_); refine yi rfl rfl rfl ?_) | ((with_reducible refine k_un ?_); refine yr rfl ?_) | ((with_reducible refine zb ?_); refine zt rfl (by first | rfl | assumption) rfl ?_) | ((with_reducible refine zT ?_); refine zZ tbOk rfl rfl rfl rfl (by assumption) ?_) | ((with_reducible refine zu ?_); refine yR tbOk rfl rfl ?_) | ((with_reducible refine zM ?_); refine zV rfl rfl rfl ?_) | ((with_reducible refine zM ?_); refine yp rfl rfl rfl ?_)  | refine zJ ?_ | refine zB rfl ?_ | refine yK rfl rfl (by first | rfl | assumption) ?_ | refine yL rfl rfl (by first | rfl | assumption) ?_ | with_reducible refine zC ?_ | with_reducible refine zk ?_ | with_reducible refine zF ?_ | with_reducible refine zY ?_ | with_reducible refine zR ?_ | ((with_reducible refine zA ?_ ?_); kernel_rfl) | ((with_reducible refine yx mixd ?_ ?_); kernel_rfl) | refine zg rfl (by first | rfl | assumption) ?_ | refine zp rfl (by first | rfl | assumption) ?_)
      refine zo (hdv b) (by repeat' (first | exact trivial | exact Ren.v _ | exact Ren.sl _ _ | exact Ren.ep _ | exact Ren.ptr _ _ _ _ rfl | exact Ren.bs _ _ _ _ _ rfl | exact Ren.nil _ | exact Ren.own _ _ _ _ ⟨_, rfl⟩ | refine zO ?_ | refine zQ ?_ | refine zP ?_ | refine ⟨?_, ?_⟩)) (by repeat' (first | exact trivial | exact RenB.v _ | exact RenB.sl _ _ | exact RenB.ep _ | exact RenB.ptr _ _ _ _ rfl | refine zW ?_ | refine zX ?_ | refine ⟨?_, ?_⟩)) ?_
      repeat (first | ((with_reducible refine zK ?_); refine zG tbOk rfl rfl rfl rfl ?_) | ((with_reducible refine zL ?_); refine zN tbOk rfl rfl rfl rfl rfl ?_) | ((with_reducible refine zd ?_); refine zf tbOk rfl rfl rfl rfl rfl rfl rfl (Nat.le_of_ble_eq_true rfl) rfl ?_) | ((with_reducible refine zM ?_); refine zV rfl rfl rfl ?_)  | refine zJ ?_ | refine jM (by kernel_rfl) ?_ | refine zB rfl ?_ | with_reducible refine zC ?_ | with_reducible refine zF ?_ | ((with_reducible refine zA ?_ ?_); kernel_rfl))
      refine zm rfl (fun q => ?_) (fun q => ?_)
      · rw [if_pos (by simpa using q)]
        repeat (first | ((with_reducible refine zE ?_); refine zD rfl ?_) | ((with_reducible refine zL ?_); refine zc tbOk rfl rfl rfl rfl (Nat.le_of_ble_eq_true rfl) ?_) | ((with_reducible refine zd ?_); refine zf tbOk rfl rfl rfl rfl rfl rfl rfl (Nat.le_of_ble_eq_true rfl) rfl ?_)  | refine zJ ?_ | refine zB rfl ?_ | with_reducible refine zC ?_ | with_reducible refine zS ?_ | with_reducible refine zF ?_ | with_reducible refine zU ?_ | ((with_reducible refine zA ?_ ?_); kernel_rfl))
        refine yo (by first | exact .inr rfl | exact .inl rfl) rfl rfl rfl rfl rfl rfl ?_
        repeat' (first | exact trivial | exact Ren.v _ | exact Ren.sl _ _ | exact Ren.ep _ | exact Ren.ptr _ _ _ _ rfl | exact Ren.bs _ _ _ _ _ rfl | exact Ren.nil _ | exact Ren.own _ _ _ _ ⟨_, rfl⟩ | refine zO ?_ | refine zQ ?_ | refine zP ?_ | refine ⟨?_, ?_⟩)
      · rw [if_neg (by simpa using q)]
        repeat (first | ((with_reducible refine zE ?_); refine zD rfl ?_) | ((with_reducible refine zL ?_); refine zc tbOk rfl rfl rfl rfl (Nat.le_of_ble_eq_true rfl) ?_) | ((with_reducible refine zd ?_); refine zf tbOk rfl rfl rfl rfl rfl rfl rfl (Nat.le_of_ble_eq_true rfl) rfl ?_)  | refine zJ ?_ | refine zB rfl ?_ | with_reducible refine zC ?_ | with_reducible refine zF ?_ | with_reducible refine zR ?_ | with_reducible refine zU ?_ | ((with_reducible refine zA ?_ ?_); kernel_rfl))
        refine yo (by first | exact .inr rfl | exact .inl rfl) rfl rfl rfl rfl rfl rfl ?_
        repeat' (first | exact trivial | exact Ren.v _ | exact Ren.sl _ _ | exact Ren.ep _ | exact Ren.ptr _ _ _ _ rfl | exact Ren.bs _ _ _ _ _ rfl | exact Ren.nil _ | exact Ren.own _ _ _ _ ⟨_, rfl⟩ | refine zO ?_ | refine zQ ?_ | refine zP ?_ | refine ⟨?_, ?_⟩)
    have e1 := seq_f (b := #[111, 112, 101, 110]) h1
    by_cases h2 : a = qq
    · have e2 := seq_t (b := #[99, 108, 111, 115, 101]) h2
      have hf : jU [a, b] = some (2, 0, 0) := by unfold jU; rw [if_neg (fun h => h1 h.2), if_pos ⟨rfl, h2⟩]
      refine ⟨_, qF (w := b) hf (by decide) rfl, fun G => ?_⟩
      refine zj tbOk (zn Tryz.func44 (by kernel_rfl) rfl) Tryz.func44 rfl _ Tryz.ntmps44 (Nat.le_of_ble_eq_true rfl) fun X hX => ?_
      subst hX
      repeat (first | ((with_reducible refine zI ?_); refine zH rfl ?_) | ((with_reducible refine zE ?_); refine zD rfl ?_) | ((with_reducible refine zK ?_); refine zG tbOk rfl rfl rfl rfl ?_) | ((with_reducible refine zL ?_); refine zN tbOk rfl rfl rfl rfl rfl ?_) | ((with_reducible refine zL ?_); refine zc tbOk rfl rfl rfl rfl (Nat.le_of_ble_eq_true rfl) ?_) | ((with_reducible refine zL ?_); refine za tbOk rfl rfl rfl ?_) | ((with_reducible refine zd ?_); refine zf tbOk rfl rfl rfl rfl rfl rfl rfl (Nat.le_of_ble_eq_true rfl) rfl ?_) | ((with_reducible refine yA ?_); refine yB tbOk rfl rfl ?_) | ((with_reducible refine yj ?_); refine yi rfl rfl rfl ?_) | ((with_reducible refine k_un ?_); refine yr rfl ?_) | ((with_reducible refine zb ?_); refine zt rfl (by first | rfl | assumption) rfl ?_) | ((with_reducible refine zb ?_); refine zq rfl (by first | rfl | assumption) rfl ?_) | ((with_reducible refine zT ?_); refine zZ tbOk rfl rfl rfl rfl (by assumption) ?_) | ((with_reducible refine zu ?_); refine yR tbOk rfl rfl ?_) | ((with_reducible refine zM ?_); refine zV rfl rfl rfl ?_) | ((with_reducible refine zM ?_); refine yp rfl rfl rfl ?_)  | refine zJ ?_ | refine zB rfl ?_ | refine yK rfl rfl (by first | rfl | assumption) ?_ | refine zv rfl rfl (by first | rfl | assumption) ?_ | with_reducible refine zC ?_ | with_reducible refine zk ?_ | with_reducible refine zF ?_ | with_reducible refine zY ?_ | with_reducible refine zR ?_ | ((with_reducible refine zA ?_ ?_); kernel_rfl) | ((with_reducible refine yx mixd ?_ ?_); kernel_rfl) | refine zg rfl (by first | rfl | assumption) ?_ | refine zp rfl (by first | rfl | assumption) ?_)
      refine zo (hdv b) (by repeat' (first | exact trivial | exact Ren.v _ | exact Ren.sl _ _ | exact Ren.ep _ | exact Ren.ptr _ _ _ _ rfl | exact Ren.bs _ _ _ _ _ rfl | exact Ren.nil _ | exact Ren.own _ _ _ _ ⟨_, rfl⟩ | refine zO ?_ | refine zQ ?_ | refine zP ?_ | refine ⟨?_, ?_⟩)) (by repeat' (first | exact trivial | exact RenB.v _ | exact RenB.sl _ _ | exact RenB.ep _ | exact RenB.ptr _ _ _ _ rfl | refine zW ?_ | refine zX ?_ | refine ⟨?_, ?_⟩)) ?_
      repeat (first | ((with_reducible refine zK ?_); refine zG tbOk rfl rfl rfl rfl ?_) | ((with_reducible refine zL ?_); refine zN tbOk rfl rfl rfl rfl rfl ?_) | ((with_reducible refine zd ?_); refine zf tbOk rfl rfl rfl rfl rfl rfl rfl (Nat.le_of_ble_eq_true rfl) rfl ?_) | ((with_reducible refine zM ?_); refine zV rfl rfl rfl ?_)  | refine zJ ?_ | refine jM (by kernel_rfl) ?_ | refine zB rfl ?_ | with_reducible refine zC ?_ | with_reducible refine zF ?_ | ((with_reducible refine zA ?_ ?_); kernel_rfl))
      refine zm rfl (fun q => ?_) (fun q => ?_)
      · rw [if_pos (by simpa using q)]
        repeat (first | ((with_reducible refine zE ?_); refine zD rfl ?_) | ((with_reducible refine zL ?_); refine zc tbOk rfl rfl rfl rfl (Nat.le_of_ble_eq_true rfl) ?_) | ((with_reducible refine zd ?_); refine zf tbOk rfl rfl rfl rfl rfl rfl rfl (Nat.le_of_ble_eq_true rfl) rfl ?_)  | refine zJ ?_ | refine zB rfl ?_ | with_reducible refine zC ?_ | with_reducible refine zS ?_ | with_reducible refine zF ?_ | with_reducible refine zU ?_ | ((with_reducible refine zA ?_ ?_); kernel_rfl))
        refine yo (by first | exact .inr rfl | exact .inl rfl) rfl rfl rfl rfl rfl rfl ?_
        repeat' (first | exact trivial | exact Ren.v _ | exact Ren.sl _ _ | exact Ren.ep _ | exact Ren.ptr _ _ _ _ rfl | exact Ren.bs _ _ _ _ _ rfl | exact Ren.nil _ | exact Ren.own _ _ _ _ ⟨_, rfl⟩ | refine zO ?_ | refine zQ ?_ | refine zP ?_ | refine ⟨?_, ?_⟩)
      · rw [if_neg (by simpa using q)]
        repeat (first | ((with_reducible refine zE ?_); refine zD rfl ?_) | ((with_reducible refine zL ?_); refine zc tbOk rfl rfl rfl rfl (Nat.le_of_ble_eq_true rfl) ?_) | ((with_reducible refine zd ?_); refine zf tbOk rfl rfl rfl rfl rfl rfl rfl (Nat.le_of_ble_eq_true rfl) rfl ?_)  | refine zJ ?_ | refine zB rfl ?_ | with_reducible refine zC ?_ | with_reducible refine zF ?_ | with_reducible refine zR ?_ | with_reducible refine zU ?_ | ((with_reducible refine zA ?_ ?_); kernel_rfl))
        refine yo (by first | exact .inr rfl | exact .inl rfl) rfl rfl rfl rfl rfl rfl ?_
        repeat' (first | exact trivial | exact Ren.v _ | exact Ren.sl _ _ | exact Ren.ep _ | exact Ren.ptr _ _ _ _ rfl | exact Ren.bs _ _ _ _ _ rfl | exact Ren.nil _ | exact Ren.own _ _ _ _ ⟨_, rfl⟩ | refine zO ?_ | refine zQ ?_ | refine zP ?_ | refine ⟨?_, ?_⟩)
    have e2 := seq_f (b := #[99, 108, 111, 115, 101]) h2
    by_cases h3 : a = qm
    · have e3 := seq_t (b := #[112, 114, 111, 118, 101]) h3
      have hf : jU [a, b] = some (5, 0, 0) := by
        unfold jU
        rw [if_neg (fun h => h1 h.2), if_neg (fun h => h2 h.2), if_neg (fun h => by have := h.1; simp at this), if_neg (fun h => by have := h.1; simp at this), if_pos ⟨rfl, h3⟩]
      refine ⟨_, like_nod (w := b) hf rfl rfl, fun G => ?_⟩
      refine zj tbOk (zn Tryz.func44 (by kernel_rfl) rfl) Tryz.func44 rfl _ Tryz.ntmps44 (Nat.le_of_ble_eq_true rfl) fun X hX => ?_
      subst hX
      repeat (first | ((with_reducible refine zI ?_); refine zH rfl ?_) | ((with_reducible refine zE ?_); refine zD rfl ?_) | ((with_reducible refine zK ?_); refine zG tbOk rfl rfl rfl rfl ?_) | ((with_reducible refine zL ?_); refine zN tbOk rfl rfl rfl rfl rfl ?_) | ((with_reducible refine zL ?_); refine zc tbOk rfl rfl rfl rfl (Nat.le_of_ble_eq_true rfl) ?_) | ((with_reducible refine zL ?_); refine za tbOk rfl rfl rfl ?_) | ((with_reducible refine zd ?_); refine zf tbOk rfl rfl rfl rfl rfl rfl rfl (Nat.le_of_ble_eq_true rfl) rfl ?_) | ((with_reducible refine yA ?_); refine yB tbOk rfl rfl ?_) | ((with_reducible refine yj ?_); refine yi rfl rfl rfl ?_) | ((with_reducible refine k_un ?_); refine yr rfl ?_) | ((with_reducible refine zb ?_); refine zt rfl (by first | rfl | assumption) rfl ?_) | ((with_reducible refine zb ?_); refine zq rfl (by first | rfl | assumption) rfl ?_) | ((with_reducible refine zT ?_); refine zZ tbOk rfl rfl rfl rfl (by assumption) ?_) | ((with_reducible refine zu ?_); refine yR tbOk rfl rfl ?_) | ((with_reducible refine zM ?_); refine zV rfl rfl rfl ?_) | ((with_reducible refine zM ?_); refine yp rfl rfl rfl ?_)  | refine zJ ?_ | refine zB rfl ?_ | refine yK rfl rfl (by first | rfl | assumption) ?_ | refine yQ rfl rfl (by first | rfl | assumption) ?_ | refine zv rfl rfl (by first | rfl | assumption) ?_ | with_reducible refine zC ?_ | with_reducible refine zk ?_ | with_reducible refine zF ?_ | with_reducible refine zY ?_ | with_reducible refine zR ?_ | ((with_reducible refine zA ?_ ?_); kernel_rfl) | ((with_reducible refine yx mixd ?_ ?_); kernel_rfl) | refine zg rfl (by first | rfl | assumption) ?_ | refine zp rfl (by first | rfl | assumption) ?_)
      refine zo (hnd b) (by repeat' (first | exact trivial | exact Ren.v _ | exact Ren.sl _ _ | exact Ren.ep _ | exact Ren.ptr _ _ _ _ rfl | exact Ren.bs _ _ _ _ _ rfl | exact Ren.nil _ | exact Ren.own _ _ _ _ ⟨_, rfl⟩ | refine zO ?_ | refine zQ ?_ | refine zP ?_ | refine ⟨?_, ?_⟩)) (by repeat' (first | exact trivial | exact RenB.v _ | exact RenB.sl _ _ | exact RenB.ep _ | exact RenB.ptr _ _ _ _ rfl | refine zW ?_ | refine zX ?_ | refine ⟨?_, ?_⟩)) ?_
      repeat (first | ((with_reducible refine zK ?_); refine zG tbOk rfl rfl rfl rfl ?_) | ((with_reducible refine zL ?_); refine zN tbOk rfl rfl rfl rfl rfl ?_) | ((with_reducible refine zd ?_); refine zf tbOk rfl rfl rfl rfl rfl rfl rfl (Nat.le_of_ble_eq_true rfl) rfl ?_) | ((with_reducible refine zM ?_); refine zV rfl rfl rfl ?_)  | refine zJ ?_ | refine jM (by kernel_rfl) ?_ | refine zB rfl ?_ | with_reducible refine zC ?_ | with_reducible refine zF ?_ | ((with_reducible refine zA ?_ ?_); kernel_rfl))
      refine zm rfl (fun q => ?_) (fun q => ?_)
      · rw [if_pos (by simpa using q)]
        repeat (first | ((with_reducible refine zE ?_); refine zD rfl ?_) | ((with_reducible refine zL ?_); refine zc tbOk rfl rfl rfl rfl (Nat.le_of_ble_eq_true rfl) ?_) | ((with_reducible refine zd ?_); refine zf tbOk rfl rfl rfl rfl rfl rfl rfl (Nat.le_of_ble_eq_true rfl) rfl ?_)  | refine zJ ?_ | refine zB rfl ?_ | with_reducible refine zC ?_ | with_reducible refine zS ?_ | with_reducible refine zF ?_ | with_reducible refine zU ?_ | ((with_reducible refine zA ?_ ?_); kernel_rfl))
        refine yo (by first | exact .inr rfl | exact .inl rfl) rfl rfl rfl rfl rfl rfl ?_
        repeat' (first | exact trivial | exact Ren.v _ | exact Ren.sl _ _ | exact Ren.ep _ | exact Ren.ptr _ _ _ _ rfl | exact Ren.bs _ _ _ _ _ rfl | exact Ren.nil _ | exact Ren.own _ _ _ _ ⟨_, rfl⟩ | refine zO ?_ | refine zQ ?_ | refine zP ?_ | refine ⟨?_, ?_⟩)
      · rw [if_neg (by simpa using q)]
        repeat (first | ((with_reducible refine zE ?_); refine zD rfl ?_) | ((with_reducible refine zL ?_); refine zc tbOk rfl rfl rfl rfl (Nat.le_of_ble_eq_true rfl) ?_) | ((with_reducible refine zd ?_); refine zf tbOk rfl rfl rfl rfl rfl rfl rfl (Nat.le_of_ble_eq_true rfl) rfl ?_)  | refine zJ ?_ | refine zB rfl ?_ | with_reducible refine zC ?_ | with_reducible refine zS ?_ | with_reducible refine zF ?_ | with_reducible refine zR ?_ | with_reducible refine zU ?_ | ((with_reducible refine zA ?_ ?_); kernel_rfl))
        refine yo (by first | exact .inr rfl | exact .inl rfl) rfl rfl rfl rfl rfl rfl ?_
        repeat' (first | exact trivial | exact Ren.v _ | exact Ren.sl _ _ | exact Ren.ep _ | exact Ren.ptr _ _ _ _ rfl | exact Ren.bs _ _ _ _ _ rfl | exact Ren.nil _ | exact Ren.own _ _ _ _ ⟨_, rfl⟩ | refine zO ?_ | refine zQ ?_ | refine zP ?_ | refine ⟨?_, ?_⟩)
    · have e3 := seq_f (b := #[112, 114, 111, 118, 101]) h3
      refine ⟨(St.zer, 2), jS _ ?_, fun G => ?_⟩
      · unfold jU
        rw [if_neg (fun h => h1 h.2), if_neg (fun h => h2 h.2), if_neg (fun h => by have := h.1; simp at this), if_neg (fun h => by have := h.1; simp at this), if_neg (fun h => h3 h.2), if_neg (fun h => by have := h.1; simp at this)]
      · refine zj tbOk (zn Tryz.func44 (by kernel_rfl) rfl) Tryz.func44 rfl _ Tryz.ntmps44 (Nat.le_of_ble_eq_true rfl) fun X hX => ?_
        subst hX
        repeat (first | ((with_reducible refine zI ?_); refine zH rfl ?_) | ((with_reducible refine zE ?_); refine zD rfl ?_) | ((with_reducible refine zL ?_); refine zc tbOk rfl rfl rfl rfl (Nat.le_of_ble_eq_true rfl) ?_) | ((with_reducible refine zL ?_); refine za tbOk rfl rfl rfl ?_) | ((with_reducible refine zd ?_); refine zf tbOk rfl rfl rfl rfl rfl rfl rfl (Nat.le_of_ble_eq_true rfl) rfl ?_) | ((with_reducible refine yA ?_); refine yB tbOk rfl rfl ?_) | ((with_reducible refine yj ?_); refine yi rfl rfl rfl ?_) | ((with_reducible refine k_un ?_); refine yr rfl ?_) | ((with_reducible refine zb ?_); refine zt rfl (by first | rfl | assumption) rfl ?_) | ((with_reducible refine zb ?_); refine zq rfl (by first | rfl | assumption) rfl ?_) | ((with_reducible refine zT ?_); refine zZ tbOk rfl rfl rfl rfl (by assumption) ?_) | ((with_reducible refine zu ?_); refine yR tbOk rfl rfl ?_) | ((with_reducible refine zM ?_); refine zV rfl rfl rfl ?_) | ((with_reducible refine zM ?_); refine yp rfl rfl rfl ?_)  | refine zJ ?_ | refine zB rfl ?_ | refine yK rfl rfl (by first | rfl | assumption) ?_ | refine yQ rfl rfl (by first | rfl | assumption) ?_ | refine zv rfl rfl (by first | rfl | assumption) ?_ | with_reducible refine zC ?_ | with_reducible refine zS ?_ | with_reducible refine zk ?_ | with_reducible refine zF ?_ | with_reducible refine zY ?_ | with_reducible refine zR ?_ | with_reducible refine zU ?_ | ((with_reducible refine zA ?_ ?_); kernel_rfl) | refine zg rfl (by first | rfl | assumption) ?_ | refine zp rfl (by first | rfl | assumption) ?_)
        repeat (first | fail    )
        refine yo (by first | exact .inr rfl | exact .inl rfl) rfl rfl rfl rfl rfl rfl ?_
        repeat' (first | exact trivial | exact Ren.v _ | exact Ren.sl _ _ | exact Ren.ep _ | exact Ren.ptr _ _ _ _ rfl | exact Ren.bs _ _ _ _ _ rfl | exact Ren.nil _ | exact Ren.own _ _ _ _ ⟨_, rfl⟩ | refine zO ?_ | refine zQ ?_ | refine zP ?_ | refine ⟨?_, ?_⟩)
  | [a, b, c], _, hw =>
    have z0 : (([a, b, c] : List (List UInt8)).map svL)[(0 : Int).toNat]? = some (svL a) := rfl
    have z1 : (([a, b, c] : List (List UInt8)).map svL)[(1 : Int).toNat]? = some (svL b) := rfl
    have z2 : (([a, b, c] : List (List UInt8)).map svL)[(2 : Int).toNat]? = some (svL c) := rfl
    have hfr : jU [a, b, c] = if a = qN ∧ posI c ≠ 0 then some (6, posI c, 0) else none := by
      unfold jU
      rw [if_neg (fun h => by have := h.1; simp at this), if_neg (fun h => by have := h.1; simp at this), if_neg (fun h => by have := h.1; simp at this), if_neg (fun h => by have := h.1; simp at this), if_neg (fun h => by have := h.1; simp at this)]
      show (if ([a, b, c] : List (List UInt8)).length = 3 ∧ a = qN ∧ posI c ≠ 0 then some ((6 : Int), posI c, (0 : Int)) else none) = _
      simp
    by_cases h1 : a = qN
    · have e1 := seq_t (b := #[99, 104, 101, 99, 107]) h1
      by_cases h2 : posI c = 0
      · have e2 : (!decide (posI c = 0)) = false := by simp [h2]
        refine ⟨(St.zer, 2), jS _ (by rw [hfr, if_neg (fun h => h.2 h2)]), fun G => ?_⟩
        refine zj tbOk (zn Tryz.func44 (by kernel_rfl) rfl) Tryz.func44 rfl _ Tryz.ntmps44 (Nat.le_of_ble_eq_true rfl) fun X hX => ?_
        subst hX
        repeat (first | ((with_reducible refine zI ?_); refine zH rfl ?_) | ((with_reducible refine zE ?_); refine zD rfl ?_) | ((with_reducible refine zL ?_); refine za tbOk rfl rfl rfl ?_) | ((with_reducible refine yA ?_); refine yB tbOk rfl rfl ?_) | ((with_reducible refine yj ?_); refine yi rfl rfl rfl ?_) | ((with_reducible refine zb ?_); refine zt rfl (by first | rfl | assumption) rfl ?_) | ((with_reducible refine zb ?_); refine zq rfl (by first | rfl | assumption) rfl ?_) | ((with_reducible refine zT ?_); refine zZ tbOk rfl rfl rfl rfl (by assumption) ?_) | ((with_reducible refine zu ?_); refine yR tbOk rfl rfl ?_) | ((with_reducible refine zM ?_); refine zV rfl rfl rfl ?_) | ((with_reducible refine zM ?_); refine yp rfl rfl rfl ?_)  | refine zJ ?_ | refine zB rfl ?_ | refine yK rfl rfl (by first | rfl | assumption) ?_ | refine yQ rfl rfl (by first | rfl | assumption) ?_ | refine jG rfl rfl rfl ?_ | with_reducible refine zC ?_ | with_reducible refine zF ?_ | with_reducible refine zY ?_ | ((with_reducible refine zA ?_ ?_); kernel_rfl) | refine zp rfl (by first | rfl | assumption) ?_)
        refine zo (pos_A c) (by repeat' (first | exact trivial | exact Ren.v _ | exact Ren.sl _ _ | exact Ren.ep _ | exact Ren.ptr _ _ _ _ rfl | exact Ren.bs _ _ _ _ _ rfl | exact Ren.nil _ | exact Ren.own _ _ _ _ ⟨_, rfl⟩ | refine zO ?_ | refine zQ ?_ | refine zP ?_ | refine ⟨?_, ?_⟩)) (by repeat' (first | exact trivial | exact RenB.v _ | exact RenB.sl _ _ | exact RenB.ep _ | exact RenB.ptr _ _ _ _ rfl | refine zW ?_ | refine zX ?_ | refine ⟨?_, ?_⟩)) ?_
        repeat (first | ((with_reducible refine zI ?_); refine zH rfl ?_) | ((with_reducible refine zE ?_); refine zD rfl ?_) | ((with_reducible refine zL ?_); refine zc tbOk rfl rfl rfl rfl (Nat.le_of_ble_eq_true rfl) ?_) | ((with_reducible refine zd ?_); refine zf tbOk rfl rfl rfl rfl rfl rfl rfl (Nat.le_of_ble_eq_true rfl) rfl ?_) | ((with_reducible refine k_un ?_); refine yr rfl ?_) | ((with_reducible refine zb ?_); refine zt rfl (by first | rfl | assumption) rfl ?_) | ((with_reducible refine zM ?_); refine zV rfl rfl rfl ?_)  | refine zJ ?_ | refine zB rfl ?_ | refine yK rfl rfl (by first | rfl | assumption) ?_ | with_reducible refine zC ?_ | with_reducible refine zS ?_ | with_reducible refine zk ?_ | with_reducible refine zF ?_ | with_reducible refine zR ?_ | with_reducible refine zU ?_ | ((with_reducible refine zA ?_ ?_); kernel_rfl) | refine zg rfl (by first | rfl | assumption) ?_ | refine zp rfl (by first | rfl | assumption) ?_)
        refine yo (by first | exact .inr rfl | exact .inl rfl) rfl rfl rfl rfl rfl rfl ?_
        repeat' (first | exact trivial | exact Ren.v _ | exact Ren.sl _ _ | exact Ren.ep _ | exact Ren.ptr _ _ _ _ rfl | exact Ren.bs _ _ _ _ _ rfl | exact Ren.nil _ | exact Ren.own _ _ _ _ ⟨_, rfl⟩ | refine zO ?_ | refine zQ ?_ | refine zP ?_ | refine ⟨?_, ?_⟩)
      · rw [if_pos ⟨h1, h2⟩] at hfr
        refine ⟨_, qF (w := b) hfr (by decide) rfl, fun G => ?_⟩
        refine zj tbOk (zn Tryz.func44 (by kernel_rfl) rfl) Tryz.func44 rfl _ Tryz.ntmps44 (Nat.le_of_ble_eq_true rfl) fun X hX => ?_
        subst hX
        repeat (first | ((with_reducible refine zI ?_); refine zH rfl ?_) | ((with_reducible refine zE ?_); refine zD rfl ?_) | ((with_reducible refine zL ?_); refine za tbOk rfl rfl rfl ?_) | ((with_reducible refine yA ?_); refine yB tbOk rfl rfl ?_) | ((with_reducible refine yj ?_); refine yi rfl rfl rfl ?_) | ((with_reducible refine zb ?_); refine zt rfl (by first | rfl | assumption) rfl ?_) | ((with_reducible refine zb ?_); refine zq rfl (by first | rfl | assumption) rfl ?_) | ((with_reducible refine zT ?_); refine zZ tbOk rfl rfl rfl rfl (by assumption) ?_) | ((with_reducible refine zu ?_); refine yR tbOk rfl rfl ?_) | ((with_reducible refine zM ?_); refine zV rfl rfl rfl ?_) | ((with_reducible refine zM ?_); refine yp rfl rfl rfl ?_)  | refine zJ ?_ | refine zB rfl ?_ | refine yK rfl rfl (by first | rfl | assumption) ?_ | refine yQ rfl rfl (by first | rfl | assumption) ?_ | refine jG rfl rfl rfl ?_ | with_reducible refine zC ?_ | with_reducible refine zF ?_ | with_reducible refine zY ?_ | ((with_reducible refine zA ?_ ?_); kernel_rfl) | refine zp rfl (by first | rfl | assumption) ?_)
        refine zo (pos_A c) (by repeat' (first | exact trivial | exact Ren.v _ | exact Ren.sl _ _ | exact Ren.ep _ | exact Ren.ptr _ _ _ _ rfl | exact Ren.bs _ _ _ _ _ rfl | exact Ren.nil _ | exact Ren.own _ _ _ _ ⟨_, rfl⟩ | refine zO ?_ | refine zQ ?_ | refine zP ?_ | refine ⟨?_, ?_⟩)) (by repeat' (first | exact trivial | exact RenB.v _ | exact RenB.sl _ _ | exact RenB.ep _ | exact RenB.ptr _ _ _ _ rfl | refine zW ?_ | refine zX ?_ | refine ⟨?_, ?_⟩)) ?_
        repeat (first | ((with_reducible refine zE ?_); refine zD rfl ?_) | ((with_reducible refine zb ?_); refine zt rfl (by first | rfl | assumption) rfl ?_) | ((with_reducible refine zM ?_); refine zV rfl rfl rfl ?_)  | refine zJ ?_ | refine zB rfl ?_ | refine yK rfl rfl (by first | rfl | assumption) ?_ | with_reducible refine zC ?_ )
        refine zm rfl (fun q => ?_) (fun q => ?_)
        · repeat (first | ((with_reducible refine zI ?_); refine zH rfl ?_) | ((with_reducible refine zL ?_); refine za tbOk rfl rfl rfl ?_) | ((with_reducible refine zT ?_); refine zZ tbOk rfl rfl rfl rfl (by assumption) ?_)  | refine zB rfl ?_  | ((with_reducible refine zA ?_ ?_); kernel_rfl))
          refine zo (pos_A c) (by repeat' (first | exact trivial | exact Ren.v _ | exact Ren.sl _ _ | exact Ren.ep _ | exact Ren.ptr _ _ _ _ rfl | exact Ren.bs _ _ _ _ _ rfl | exact Ren.nil _ | exact Ren.own _ _ _ _ ⟨_, rfl⟩ | refine zO ?_ | refine zQ ?_ | refine zP ?_ | refine ⟨?_, ?_⟩)) (by repeat' (first | exact trivial | exact RenB.v _ | exact RenB.sl _ _ | exact RenB.ep _ | exact RenB.ptr _ _ _ _ rfl | refine zW ?_ | refine zX ?_ | refine ⟨?_, ?_⟩)) ?_
          repeat (first | ((with_reducible refine zI ?_); refine zH rfl ?_) | ((with_reducible refine zE ?_); refine zD rfl ?_) | ((with_reducible refine zK ?_); refine zG tbOk rfl rfl rfl rfl ?_) | ((with_reducible refine zL ?_); refine zN tbOk rfl rfl rfl rfl rfl ?_) | ((with_reducible refine zL ?_); refine zc tbOk rfl rfl rfl rfl (Nat.le_of_ble_eq_true rfl) ?_) | ((with_reducible refine zL ?_); refine za tbOk rfl rfl rfl ?_) | ((with_reducible refine zd ?_); refine zf tbOk rfl rfl rfl rfl rfl rfl rfl (Nat.le_of_ble_eq_true rfl) rfl ?_) | ((with_reducible refine k_un ?_); refine yr rfl ?_) | ((with_reducible refine zT ?_); refine zZ tbOk rfl rfl rfl rfl (by assumption) ?_) | ((with_reducible refine zM ?_); refine zV rfl rfl rfl ?_)  | refine zJ ?_ | refine zB rfl ?_ | with_reducible refine zC ?_ | with_reducible refine zk ?_ | with_reducible refine zF ?_ | with_reducible refine zR ?_ | ((with_reducible refine zA ?_ ?_); kernel_rfl) | ((with_reducible refine yx mixd ?_ ?_); kernel_rfl) | refine zp rfl (by first | rfl | assumption) ?_)
          refine zo (hdv b) (by repeat' (first | exact trivial | exact Ren.v _ | exact Ren.sl _ _ | exact Ren.ep _ | exact Ren.ptr _ _ _ _ rfl | exact Ren.bs _ _ _ _ _ rfl | exact Ren.nil _ | exact Ren.own _ _ _ _ ⟨_, rfl⟩ | refine zO ?_ | refine zQ ?_ | refine zP ?_ | refine ⟨?_, ?_⟩)) (by repeat' (first | exact trivial | exact RenB.v _ | exact RenB.sl _ _ | exact RenB.ep _ | exact RenB.ptr _ _ _ _ rfl | refine zW ?_ | refine zX ?_ | refine ⟨?_, ?_⟩)) ?_
          repeat (first | ((with_reducible refine zK ?_); refine zG tbOk rfl rfl rfl rfl ?_) | ((with_reducible refine zL ?_); refine zN tbOk rfl rfl rfl rfl rfl ?_) | ((with_reducible refine zd ?_); refine zf tbOk rfl rfl rfl rfl rfl rfl rfl (Nat.le_of_ble_eq_true rfl) rfl ?_) | ((with_reducible refine zM ?_); refine zV rfl rfl rfl ?_)  | refine zJ ?_ | refine jM (by kernel_rfl) ?_ | refine zB rfl ?_ | with_reducible refine zC ?_ | with_reducible refine zF ?_ | ((with_reducible refine zA ?_ ?_); kernel_rfl))
          refine zm rfl (fun q => ?_) (fun q => ?_)
          · rw [if_pos (by simpa using q)]
            repeat (first | ((with_reducible refine zE ?_); refine zD rfl ?_) | ((with_reducible refine zL ?_); refine zc tbOk rfl rfl rfl rfl (Nat.le_of_ble_eq_true rfl) ?_) | ((with_reducible refine zd ?_); refine zf tbOk rfl rfl rfl rfl rfl rfl rfl (Nat.le_of_ble_eq_true rfl) rfl ?_)  | refine zJ ?_ | refine zB rfl ?_ | with_reducible refine zC ?_ | with_reducible refine zS ?_ | with_reducible refine zF ?_ | with_reducible refine zU ?_ | ((with_reducible refine zA ?_ ?_); kernel_rfl))
            refine yo (by first | exact .inr rfl | exact .inl rfl) rfl rfl rfl rfl rfl rfl ?_
            repeat' (first | exact trivial | exact Ren.v _ | exact Ren.sl _ _ | exact Ren.ep _ | exact Ren.ptr _ _ _ _ rfl | exact Ren.bs _ _ _ _ _ rfl | exact Ren.nil _ | exact Ren.own _ _ _ _ ⟨_, rfl⟩ | refine zO ?_ | refine zQ ?_ | refine zP ?_ | refine ⟨?_, ?_⟩)
          · rw [if_neg (by simpa using q)]
            repeat (first | ((with_reducible refine zE ?_); refine zD rfl ?_) | ((with_reducible refine zL ?_); refine zc tbOk rfl rfl rfl rfl (Nat.le_of_ble_eq_true rfl) ?_) | ((with_reducible refine zd ?_); refine zf tbOk rfl rfl rfl rfl rfl rfl rfl (Nat.le_of_ble_eq_true rfl) rfl ?_)  | refine zJ ?_ | refine zB rfl ?_ | with_reducible refine zC ?_ | with_reducible refine zF ?_ | with_reducible refine zR ?_ | with_reducible refine zU ?_ | ((with_reducible refine zA ?_ ?_); kernel_rfl))
            refine yo (by first | exact .inr rfl | exact .inl rfl) rfl rfl rfl rfl rfl rfl ?_
            repeat' (first | exact trivial | exact Ren.v _ | exact Ren.sl _ _ | exact Ren.ep _ | exact Ren.ptr _ _ _ _ rfl | exact Ren.bs _ _ _ _ _ rfl | exact Ren.nil _ | exact Ren.own _ _ _ _ ⟨_, rfl⟩ | refine zO ?_ | refine zQ ?_ | refine zP ?_ | refine ⟨?_, ?_⟩)
        · exfalso; exact h2 (by simpa using q)
    · have e1 := seq_f (b := #[99, 104, 101, 99, 107]) h1
      refine ⟨(St.zer, 2), jS _ (by rw [hfr, if_neg (fun h => h1 h.1)]), fun G => ?_⟩
      refine zj tbOk (zn Tryz.func44 (by kernel_rfl) rfl) Tryz.func44 rfl _ Tryz.ntmps44 (Nat.le_of_ble_eq_true rfl) fun X hX => ?_
      subst hX
      repeat (first | ((with_reducible refine zI ?_); refine zH rfl ?_) | ((with_reducible refine zE ?_); refine zD rfl ?_) | ((with_reducible refine zL ?_); refine zc tbOk rfl rfl rfl rfl (Nat.le_of_ble_eq_true rfl) ?_) | ((with_reducible refine zL ?_); refine za tbOk rfl rfl rfl ?_) | ((with_reducible refine zd ?_); refine zf tbOk rfl rfl rfl rfl rfl rfl rfl (Nat.le_of_ble_eq_true rfl) rfl ?_) | ((with_reducible refine yA ?_); refine yB tbOk rfl rfl ?_) | ((with_reducible refine yj ?_); refine yi rfl rfl rfl ?_) | ((with_reducible refine k_un ?_); refine yr rfl ?_) | ((with_reducible refine zb ?_); refine zt rfl (by first | rfl | assumption) rfl ?_) | ((with_reducible refine zb ?_); refine zq rfl (by first | rfl | assumption) rfl ?_) | ((with_reducible refine zT ?_); refine zZ tbOk rfl rfl rfl rfl (by assumption) ?_) | ((with_reducible refine zu ?_); refine yR tbOk rfl rfl ?_) | ((with_reducible refine zM ?_); refine zV rfl rfl rfl ?_) | ((with_reducible refine zM ?_); refine yp rfl rfl rfl ?_)  | refine zJ ?_ | refine zB rfl ?_ | refine yK rfl rfl (by first | rfl | assumption) ?_ | refine yQ rfl rfl (by first | rfl | assumption) ?_ | refine jG rfl rfl rfl ?_ | with_reducible refine zC ?_ | with_reducible refine zS ?_ | with_reducible refine zk ?_ | with_reducible refine zF ?_ | with_reducible refine zY ?_ | with_reducible refine zR ?_ | with_reducible refine zU ?_ | ((with_reducible refine zA ?_ ?_); kernel_rfl) | refine zg rfl (by first | rfl | assumption) ?_ | refine zp rfl (by first | rfl | assumption) ?_)
      repeat (first | fail    )
      refine yo (by first | exact .inr rfl | exact .inl rfl) rfl rfl rfl rfl rfl rfl ?_
      repeat' (first | exact trivial | exact Ren.v _ | exact Ren.sl _ _ | exact Ren.ep _ | exact Ren.ptr _ _ _ _ rfl | exact Ren.bs _ _ _ _ _ rfl | exact Ren.nil _ | exact Ren.own _ _ _ _ ⟨_, rfl⟩ | refine zO ?_ | refine zQ ?_ | refine zP ?_ | refine ⟨?_, ?_⟩)
  | [a, b, c, d], _, hw =>
    have hd : d.length ≤ 1000000 := hw d (by simp)
    have z0 : (([a, b, c, d] : List (List UInt8)).map svL)[(0 : Int).toNat]? = some (svL a) := rfl
    have z1 : (([a, b, c, d] : List (List UInt8)).map svL)[(1 : Int).toNat]? = some (svL b) := rfl
    have z2 : (([a, b, c, d] : List (List UInt8)).map svL)[(2 : Int).toNat]? = some (svL c) := rfl
    have z3 : (([a, b, c, d] : List (List UInt8)).map svL)[(3 : Int).toNat]? = some (svL d) := rfl
    have hfr : jU [a, b, c, d] = if a = js ∧ c = keyL then (numP d 1073741824).map (fun n => (4, 0, n)) else none := by
      unfold jU
      rw [if_neg (fun h => by have := h.1; simp at this), if_neg (fun h => by have := h.1; simp at this), if_neg (fun h => by have := h.1; simp at this)]
      by_cases h : a = js ∧ c = keyL
      · rw [if_pos ⟨rfl, h.1, h.2⟩, if_pos h]; rfl
      · rw [if_neg (fun q => h ⟨q.2.1, q.2.2⟩), if_neg h, if_neg (fun h => by have := h.1; simp at this), if_neg (fun h => by have := h.1; simp at this)]
    by_cases h1 : a = js
    · have e1 := seq_t (b := #[117, 110, 108, 111, 99, 107]) h1
      by_cases h2 : c = keyL
      · have e2 := seq_t (b := #[107, 101, 121]) h2
        rw [if_pos ⟨h1, h2⟩] at hfr
        cases hm : numP d 1073741824 with
        | none =>
          rw [hm] at hfr
          refine ⟨(⟨4, 0, 0, 0, 0⟩, 2), jS _ hfr, fun G => ?_⟩
          have hnm := hnum (G := G) d hd
          rw [hm] at hnm
          refine zj tbOk (zn Tryz.func44 (by kernel_rfl) rfl) Tryz.func44 rfl _ Tryz.ntmps44 (Nat.le_of_ble_eq_true rfl) fun X hX => ?_
          subst hX
          repeat (first | ((with_reducible refine zI ?_); refine zH rfl ?_) | ((with_reducible refine zE ?_); refine zD rfl ?_) | ((with_reducible refine zK ?_); refine zG tbOk rfl rfl rfl rfl ?_) | ((with_reducible refine zL ?_); refine za tbOk rfl rfl rfl ?_) | ((with_reducible refine zd ?_); refine zf tbOk rfl rfl rfl rfl rfl rfl rfl (Nat.le_of_ble_eq_true rfl) rfl ?_) | ((with_reducible refine yA ?_); refine yB tbOk rfl rfl ?_) | ((with_reducible refine yj ?_); refine yi rfl rfl rfl ?_) | ((with_reducible refine zb ?_); refine zt rfl (by first | rfl | assumption) rfl ?_) | ((with_reducible refine zb ?_); refine zq rfl (by first | rfl | assumption) rfl ?_) | ((with_reducible refine zT ?_); refine zZ tbOk rfl rfl rfl rfl (by assumption) ?_) | ((with_reducible refine zu ?_); refine yR tbOk rfl rfl ?_) | ((with_reducible refine zM ?_); refine zV rfl rfl rfl ?_) | ((with_reducible refine zM ?_); refine yp rfl rfl rfl ?_)  | refine zJ ?_ | refine zB rfl ?_ | refine yK rfl rfl (by first | rfl | assumption) ?_ | refine yQ rfl rfl (by first | rfl | assumption) ?_ | refine jG rfl rfl rfl ?_ | with_reducible refine zC ?_ | with_reducible refine zF ?_ | with_reducible refine zY ?_ | ((with_reducible refine zA ?_ ?_); kernel_rfl) | refine zg rfl (by first | rfl | assumption) ?_ | refine zp rfl (by first | rfl | assumption) ?_)
          refine zo (hnm) (by repeat' (first | exact trivial | exact Ren.v _ | exact Ren.sl _ _ | exact Ren.ep _ | exact Ren.ptr _ _ _ _ rfl | exact Ren.bs _ _ _ _ _ rfl | exact Ren.nil _ | exact Ren.own _ _ _ _ ⟨_, rfl⟩ | refine zO ?_ | refine zQ ?_ | refine zP ?_ | refine ⟨?_, ?_⟩)) (by repeat' (first | exact trivial | exact RenB.v _ | exact RenB.sl _ _ | exact RenB.ep _ | exact RenB.ptr _ _ _ _ rfl | refine zW ?_ | refine zX ?_ | refine ⟨?_, ?_⟩)) ?_
          repeat (first | ((with_reducible refine zI ?_); refine zH rfl ?_) | ((with_reducible refine zE ?_); refine zD rfl ?_) | ((with_reducible refine zL ?_); refine zc tbOk rfl rfl rfl rfl (Nat.le_of_ble_eq_true rfl) ?_) | ((with_reducible refine zd ?_); refine zf tbOk rfl rfl rfl rfl rfl rfl rfl (Nat.le_of_ble_eq_true rfl) rfl ?_) | ((with_reducible refine k_un ?_); refine yr rfl ?_) | ((with_reducible refine yN ?_); refine yO rfl rfl ?_)  | refine zJ ?_ | refine zB rfl ?_ | with_reducible refine zC ?_ | with_reducible refine zS ?_ | with_reducible refine zk ?_ | with_reducible refine zF ?_ | with_reducible refine zU ?_ | ((with_reducible refine zA ?_ ?_); kernel_rfl) | refine zg rfl (by first | rfl | assumption) ?_)
          refine yo (by first | exact .inr rfl | exact .inl rfl) rfl rfl rfl rfl rfl rfl ?_
          repeat' (first | exact trivial | exact Ren.v _ | exact Ren.sl _ _ | exact Ren.ep _ | exact Ren.ptr _ _ _ _ rfl | exact Ren.bs _ _ _ _ _ rfl | exact Ren.nil _ | exact Ren.own _ _ _ _ ⟨_, rfl⟩ | refine zO ?_ | refine zQ ?_ | refine zP ?_ | refine ⟨?_, ?_⟩)
        | some y =>
          rw [hm] at hfr
          refine ⟨_, qF (w := b) hfr (by decide) rfl, fun G => ?_⟩
          have hnm := hnum (G := G) d hd
          rw [hm] at hnm
          refine zj tbOk (zn Tryz.func44 (by kernel_rfl) rfl) Tryz.func44 rfl _ Tryz.ntmps44 (Nat.le_of_ble_eq_true rfl) fun X hX => ?_
          subst hX
          repeat (first | ((with_reducible refine zI ?_); refine zH rfl ?_) | ((with_reducible refine zE ?_); refine zD rfl ?_) | ((with_reducible refine zK ?_); refine zG tbOk rfl rfl rfl rfl ?_) | ((with_reducible refine zL ?_); refine za tbOk rfl rfl rfl ?_) | ((with_reducible refine zd ?_); refine zf tbOk rfl rfl rfl rfl rfl rfl rfl (Nat.le_of_ble_eq_true rfl) rfl ?_) | ((with_reducible refine yA ?_); refine yB tbOk rfl rfl ?_) | ((with_reducible refine yj ?_); refine yi rfl rfl rfl ?_) | ((with_reducible refine zb ?_); refine zt rfl (by first | rfl | assumption) rfl ?_) | ((with_reducible refine zb ?_); refine zq rfl (by first | rfl | assumption) rfl ?_) | ((with_reducible refine zT ?_); refine zZ tbOk rfl rfl rfl rfl (by assumption) ?_) | ((with_reducible refine zu ?_); refine yR tbOk rfl rfl ?_) | ((with_reducible refine zM ?_); refine zV rfl rfl rfl ?_) | ((with_reducible refine zM ?_); refine yp rfl rfl rfl ?_)  | refine zJ ?_ | refine zB rfl ?_ | refine yK rfl rfl (by first | rfl | assumption) ?_ | refine yQ rfl rfl (by first | rfl | assumption) ?_ | refine jG rfl rfl rfl ?_ | with_reducible refine zC ?_ | with_reducible refine zF ?_ | with_reducible refine zY ?_ | ((with_reducible refine zA ?_ ?_); kernel_rfl) | refine zg rfl (by first | rfl | assumption) ?_ | refine zp rfl (by first | rfl | assumption) ?_)
          refine zo (hnm) (by repeat' (first | exact trivial | exact Ren.v _ | exact Ren.sl _ _ | exact Ren.ep _ | exact Ren.ptr _ _ _ _ rfl | exact Ren.bs _ _ _ _ _ rfl | exact Ren.nil _ | exact Ren.own _ _ _ _ ⟨_, rfl⟩ | refine zO ?_ | refine zQ ?_ | refine zP ?_ | refine ⟨?_, ?_⟩)) (by repeat' (first | exact trivial | exact RenB.v _ | exact RenB.sl _ _ | exact RenB.ep _ | exact RenB.ptr _ _ _ _ rfl | refine zW ?_ | refine zX ?_ | refine ⟨?_, ?_⟩)) ?_
          repeat (first | ((with_reducible refine zI ?_); refine zH rfl ?_) | ((with_reducible refine zE ?_); refine zD rfl ?_) | ((with_reducible refine zK ?_); refine zG tbOk rfl rfl rfl rfl ?_) | ((with_reducible refine zL ?_); refine zN tbOk rfl rfl rfl rfl rfl ?_) | ((with_reducible refine zL ?_); refine zc tbOk rfl rfl rfl rfl (Nat.le_of_ble_eq_true rfl) ?_) | ((with_reducible refine zL ?_); refine za tbOk rfl rfl rfl ?_) | ((with_reducible refine zd ?_); refine zf tbOk rfl rfl rfl rfl rfl rfl rfl (Nat.le_of_ble_eq_true rfl) rfl ?_) | ((with_reducible refine k_un ?_); refine yr rfl ?_) | ((with_reducible refine yN ?_); refine yO rfl rfl ?_) | ((with_reducible refine zT ?_); refine zZ tbOk rfl rfl rfl rfl (by assumption) ?_) | ((with_reducible refine zM ?_); refine zV rfl rfl rfl ?_)  | refine zJ ?_ | refine zB rfl ?_ | with_reducible refine zC ?_ | with_reducible refine zk ?_ | with_reducible refine zF ?_ | with_reducible refine zR ?_ | ((with_reducible refine zA ?_ ?_); kernel_rfl) | ((with_reducible refine yx mixd ?_ ?_); kernel_rfl) | refine zp rfl (by first | rfl | assumption) ?_)
          refine zo (hdv b) (by repeat' (first | exact trivial | exact Ren.v _ | exact Ren.sl _ _ | exact Ren.ep _ | exact Ren.ptr _ _ _ _ rfl | exact Ren.bs _ _ _ _ _ rfl | exact Ren.nil _ | exact Ren.own _ _ _ _ ⟨_, rfl⟩ | refine zO ?_ | refine zQ ?_ | refine zP ?_ | refine ⟨?_, ?_⟩)) (by repeat' (first | exact trivial | exact RenB.v _ | exact RenB.sl _ _ | exact RenB.ep _ | exact RenB.ptr _ _ _ _ rfl | refine zW ?_ | refine zX ?_ | refine ⟨?_, ?_⟩)) ?_
          repeat (first | ((with_reducible refine zK ?_); refine zG tbOk rfl rfl rfl rfl ?_) | ((with_reducible refine zL ?_); refine zN tbOk rfl rfl rfl rfl rfl ?_) | ((with_reducible refine zd ?_); refine zf tbOk rfl rfl rfl rfl rfl rfl rfl (Nat.le_of_ble_eq_true rfl) rfl ?_) | ((with_reducible refine zM ?_); refine zV rfl rfl rfl ?_)  | refine zJ ?_ | refine jM (by kernel_rfl) ?_ | refine zB rfl ?_ | with_reducible refine zC ?_ | with_reducible refine zF ?_ | ((with_reducible refine zA ?_ ?_); kernel_rfl))
          refine zm rfl (fun q => ?_) (fun q => ?_)
          · rw [if_pos (by simpa using q)]
            repeat (first | ((with_reducible refine zE ?_); refine zD rfl ?_) | ((with_reducible refine zL ?_); refine zc tbOk rfl rfl rfl rfl (Nat.le_of_ble_eq_true rfl) ?_) | ((with_reducible refine zd ?_); refine zf tbOk rfl rfl rfl rfl rfl rfl rfl (Nat.le_of_ble_eq_true rfl) rfl ?_)  | refine zJ ?_ | refine zB rfl ?_ | with_reducible refine zC ?_ | with_reducible refine zS ?_ | with_reducible refine zF ?_ | with_reducible refine zU ?_ | ((with_reducible refine zA ?_ ?_); kernel_rfl))
            refine yo (by first | exact .inr rfl | exact .inl rfl) rfl rfl rfl rfl rfl rfl ?_
            repeat' (first | exact trivial | exact Ren.v _ | exact Ren.sl _ _ | exact Ren.ep _ | exact Ren.ptr _ _ _ _ rfl | exact Ren.bs _ _ _ _ _ rfl | exact Ren.nil _ | exact Ren.own _ _ _ _ ⟨_, rfl⟩ | refine zO ?_ | refine zQ ?_ | refine zP ?_ | refine ⟨?_, ?_⟩)
          · rw [if_neg (by simpa using q)]
            repeat (first | ((with_reducible refine zE ?_); refine zD rfl ?_) | ((with_reducible refine zL ?_); refine zc tbOk rfl rfl rfl rfl (Nat.le_of_ble_eq_true rfl) ?_) | ((with_reducible refine zd ?_); refine zf tbOk rfl rfl rfl rfl rfl rfl rfl (Nat.le_of_ble_eq_true rfl) rfl ?_)  | refine zJ ?_ | refine zB rfl ?_ | with_reducible refine zC ?_ | with_reducible refine zF ?_ | with_reducible refine zR ?_ | with_reducible refine zU ?_ | ((with_reducible refine zA ?_ ?_); kernel_rfl))
            refine yo (by first | exact .inr rfl | exact .inl rfl) rfl rfl rfl rfl rfl rfl ?_
            repeat' (first | exact trivial | exact Ren.v _ | exact Ren.sl _ _ | exact Ren.ep _ | exact Ren.ptr _ _ _ _ rfl | exact Ren.bs _ _ _ _ _ rfl | exact Ren.nil _ | exact Ren.own _ _ _ _ ⟨_, rfl⟩ | refine zO ?_ | refine zQ ?_ | refine zP ?_ | refine ⟨?_, ?_⟩)
      · have e2 := seq_f (b := #[107, 101, 121]) h2
        refine ⟨(St.zer, 2), jS _ (by rw [hfr, if_neg (fun h => h2 h.2)]), fun G => ?_⟩
        refine zj tbOk (zn Tryz.func44 (by kernel_rfl) rfl) Tryz.func44 rfl _ Tryz.ntmps44 (Nat.le_of_ble_eq_true rfl) fun X hX => ?_
        subst hX
        repeat (first | ((with_reducible refine zI ?_); refine zH rfl ?_) | ((with_reducible refine zE ?_); refine zD rfl ?_) | ((with_reducible refine zL ?_); refine zc tbOk rfl rfl rfl rfl (Nat.le_of_ble_eq_true rfl) ?_) | ((with_reducible refine zL ?_); refine za tbOk rfl rfl rfl ?_) | ((with_reducible refine zd ?_); refine zf tbOk rfl rfl rfl rfl rfl rfl rfl (Nat.le_of_ble_eq_true rfl) rfl ?_) | ((with_reducible refine yA ?_); refine yB tbOk rfl rfl ?_) | ((with_reducible refine yj ?_); refine yi rfl rfl rfl ?_) | ((with_reducible refine k_un ?_); refine yr rfl ?_) | ((with_reducible refine zb ?_); refine zt rfl (by first | rfl | assumption) rfl ?_) | ((with_reducible refine zb ?_); refine zq rfl (by first | rfl | assumption) rfl ?_) | ((with_reducible refine zT ?_); refine zZ tbOk rfl rfl rfl rfl (by assumption) ?_) | ((with_reducible refine zu ?_); refine yR tbOk rfl rfl ?_) | ((with_reducible refine zM ?_); refine zV rfl rfl rfl ?_) | ((with_reducible refine zM ?_); refine yp rfl rfl rfl ?_)  | refine zJ ?_ | refine zB rfl ?_ | refine yK rfl rfl (by first | rfl | assumption) ?_ | refine yQ rfl rfl (by first | rfl | assumption) ?_ | refine jG rfl rfl rfl ?_ | with_reducible refine zC ?_ | with_reducible refine zS ?_ | with_reducible refine zk ?_ | with_reducible refine zF ?_ | with_reducible refine zY ?_ | with_reducible refine zR ?_ | with_reducible refine zU ?_ | ((with_reducible refine zA ?_ ?_); kernel_rfl) | refine zg rfl (by first | rfl | assumption) ?_ | refine zp rfl (by first | rfl | assumption) ?_)
        repeat (first | fail    )
        refine yo (by first | exact .inr rfl | exact .inl rfl) rfl rfl rfl rfl rfl rfl ?_
        repeat' (first | exact trivial | exact Ren.v _ | exact Ren.sl _ _ | exact Ren.ep _ | exact Ren.ptr _ _ _ _ rfl | exact Ren.bs _ _ _ _ _ rfl | exact Ren.nil _ | exact Ren.own _ _ _ _ ⟨_, rfl⟩ | refine zO ?_ | refine zQ ?_ | refine zP ?_ | refine ⟨?_, ?_⟩)
    · have e1 := seq_f (b := #[117, 110, 108, 111, 99, 107]) h1
      refine ⟨(St.zer, 2), jS _ (by rw [hfr, if_neg (fun h => h1 h.1)]), fun G => ?_⟩
      refine zj tbOk (zn Tryz.func44 (by kernel_rfl) rfl) Tryz.func44 rfl _ Tryz.ntmps44 (Nat.le_of_ble_eq_true rfl) fun X hX => ?_
      subst hX
      repeat (first | ((with_reducible refine zI ?_); refine zH rfl ?_) | ((with_reducible refine zE ?_); refine zD rfl ?_) | ((with_reducible refine zL ?_); refine zc tbOk rfl rfl rfl rfl (Nat.le_of_ble_eq_true rfl) ?_) | ((with_reducible refine zL ?_); refine za tbOk rfl rfl rfl ?_) | ((with_reducible refine zd ?_); refine zf tbOk rfl rfl rfl rfl rfl rfl rfl (Nat.le_of_ble_eq_true rfl) rfl ?_) | ((with_reducible refine yA ?_); refine yB tbOk rfl rfl ?_) | ((with_reducible refine yj ?_); refine yi rfl rfl rfl ?_) | ((with_reducible refine k_un ?_); refine yr rfl ?_) | ((with_reducible refine zb ?_); refine zt rfl (by first | rfl | assumption) rfl ?_) | ((with_reducible refine zb ?_); refine zq rfl (by first | rfl | assumption) rfl ?_) | ((with_reducible refine zT ?_); refine zZ tbOk rfl rfl rfl rfl (by assumption) ?_) | ((with_reducible refine zu ?_); refine yR tbOk rfl rfl ?_) | ((with_reducible refine zM ?_); refine zV rfl rfl rfl ?_) | ((with_reducible refine zM ?_); refine yp rfl rfl rfl ?_)  | refine zJ ?_ | refine zB rfl ?_ | refine yK rfl rfl (by first | rfl | assumption) ?_ | refine yQ rfl rfl (by first | rfl | assumption) ?_ | refine jG rfl rfl rfl ?_ | with_reducible refine zC ?_ | with_reducible refine zS ?_ | with_reducible refine zk ?_ | with_reducible refine zF ?_ | with_reducible refine zY ?_ | with_reducible refine zR ?_ | with_reducible refine zU ?_ | ((with_reducible refine zA ?_ ?_); kernel_rfl) | refine zg rfl (by first | rfl | assumption) ?_ | refine zp rfl (by first | rfl | assumption) ?_)
      repeat (first | fail    )
      refine yo (by first | exact .inr rfl | exact .inl rfl) rfl rfl rfl rfl rfl rfl ?_
      repeat' (first | exact trivial | exact Ren.v _ | exact Ren.sl _ _ | exact Ren.ep _ | exact Ren.ptr _ _ _ _ rfl | exact Ren.bs _ _ _ _ _ rfl | exact Ren.nil _ | exact Ren.own _ _ _ _ ⟨_, rfl⟩ | refine zO ?_ | refine zQ ?_ | refine zP ?_ | refine ⟨?_, ?_⟩)
  | [a, b, c, d, f], _, hw =>
    have hf5 : f.length ≤ 1000000 := hw f (by simp)
    have z0 : (([a, b, c, d, f] : List (List UInt8)).map svL)[(0 : Int).toNat]? = some (svL a) := rfl
    have z1 : (([a, b, c, d, f] : List (List UInt8)).map svL)[(1 : Int).toNat]? = some (svL b) := rfl
    have z2 : (([a, b, c, d, f] : List (List UInt8)).map svL)[(2 : Int).toNat]? = some (svL c) := rfl
    have z3 : (([a, b, c, d, f] : List (List UInt8)).map svL)[(3 : Int).toNat]? = some (svL d) := rfl
    have z4 : (([a, b, c, d, f] : List (List UInt8)).map svL)[(4 : Int).toNat]? = some (svL f) := rfl
    have hfr : jU [a, b, c, d, f] = if a = lockL ∧ posI c ≠ 0 ∧ d = keyL then (numP f 1073741824).map (fun n => (3, posI c, n)) else none := by
      unfold jU
      rw [if_neg (fun h => by have := h.1; simp at this), if_neg (fun h => by have := h.1; simp at this)]
      by_cases h : a = lockL ∧ posI c ≠ 0 ∧ d = keyL
      · rw [if_pos ⟨rfl, h.1, h.2.1, h.2.2⟩, if_pos h]; rfl
      · rw [if_neg (fun q => h ⟨q.2.1, q.2.2.1, q.2.2.2⟩), if_neg h, if_neg (fun h => by have := h.1; simp at this), if_neg (fun h => by have := h.1; simp at this), if_neg (fun h => by have := h.1; simp at this)]
    by_cases h1 : a = lockL
    · have e1 := seq_t (b := #[108, 111, 99, 107]) h1
      by_cases h2 : posI c = 0
      · refine ⟨(St.zer, 2), jS _ (by rw [hfr, if_neg (fun h => h.2.1 h2)]), fun G => ?_⟩
        refine zj tbOk (zn Tryz.func44 (by kernel_rfl) rfl) Tryz.func44 rfl _ Tryz.ntmps44 (Nat.le_of_ble_eq_true rfl) fun X hX => ?_
        subst hX
        repeat (first | ((with_reducible refine zI ?_); refine zH rfl ?_) | ((with_reducible refine zE ?_); refine zD rfl ?_) | ((with_reducible refine zL ?_); refine za tbOk rfl rfl rfl ?_) | ((with_reducible refine yA ?_); refine yB tbOk rfl rfl ?_) | ((with_reducible refine yj ?_); refine yi rfl rfl rfl ?_) | ((with_reducible refine zb ?_); refine zt rfl (by first | rfl | assumption) rfl ?_) | ((with_reducible refine zb ?_); refine zq rfl (by first | rfl | assumption) rfl ?_) | ((with_reducible refine zT ?_); refine zZ tbOk rfl rfl rfl rfl (by assumption) ?_) | ((with_reducible refine zu ?_); refine yR tbOk rfl rfl ?_) | ((with_reducible refine zM ?_); refine zV rfl rfl rfl ?_) | ((with_reducible refine zM ?_); refine yp rfl rfl rfl ?_)  | refine zJ ?_ | refine zB rfl ?_ | refine yK rfl rfl (by first | rfl | assumption) ?_ | refine yQ rfl rfl (by first | rfl | assumption) ?_ | refine jG rfl rfl rfl ?_ | with_reducible refine zC ?_ | with_reducible refine zF ?_ | with_reducible refine zY ?_ | ((with_reducible refine zA ?_ ?_); kernel_rfl) | refine zp rfl (by first | rfl | assumption) ?_)
        refine zo (pos_A c) (by repeat' (first | exact trivial | exact Ren.v _ | exact Ren.sl _ _ | exact Ren.ep _ | exact Ren.ptr _ _ _ _ rfl | exact Ren.bs _ _ _ _ _ rfl | exact Ren.nil _ | exact Ren.own _ _ _ _ ⟨_, rfl⟩ | refine zO ?_ | refine zQ ?_ | refine zP ?_ | refine ⟨?_, ?_⟩)) (by repeat' (first | exact trivial | exact RenB.v _ | exact RenB.sl _ _ | exact RenB.ep _ | exact RenB.ptr _ _ _ _ rfl | refine zW ?_ | refine zX ?_ | refine ⟨?_, ?_⟩)) ?_
        repeat (first | ((with_reducible refine zI ?_); refine zH rfl ?_) | ((with_reducible refine zb ?_); refine zt rfl (by first | rfl | assumption) rfl ?_) | ((with_reducible refine zM ?_); refine zV rfl rfl rfl ?_)  | refine zB rfl ?_ | refine yK rfl rfl (by first | rfl | assumption) ?_  )
        refine yI rfl rfl (fun q => ?_) (fun q => ?_)
        · exfalso; simp [h2] at q
        repeat (first | ((with_reducible refine zI ?_); refine zH rfl ?_) | ((with_reducible refine zE ?_); refine zD rfl ?_) | ((with_reducible refine zL ?_); refine zc tbOk rfl rfl rfl rfl (Nat.le_of_ble_eq_true rfl) ?_) | ((with_reducible refine zd ?_); refine zf tbOk rfl rfl rfl rfl rfl rfl rfl (Nat.le_of_ble_eq_true rfl) rfl ?_) | ((with_reducible refine k_un ?_); refine yr rfl ?_) | ((with_reducible refine zb ?_); refine zq rfl (by first | rfl | assumption) rfl ?_) | ((with_reducible refine zu ?_); refine yR tbOk rfl rfl ?_) | ((with_reducible refine zM ?_); refine zV rfl rfl rfl ?_)  | refine zJ ?_ | refine zB rfl ?_ | refine yQ rfl rfl (by first | rfl | assumption) ?_ | with_reducible refine zC ?_ | with_reducible refine zS ?_ | with_reducible refine zk ?_ | with_reducible refine zF ?_ | with_reducible refine zR ?_ | with_reducible refine zU ?_ | ((with_reducible refine zA ?_ ?_); kernel_rfl) | refine zg rfl (by first | rfl | assumption) ?_ | refine zp rfl (by first | rfl | assumption) ?_)
        refine yo (by first | exact .inr rfl | exact .inl rfl) rfl rfl rfl rfl rfl rfl ?_
        repeat' (first | exact trivial | exact Ren.v _ | exact Ren.sl _ _ | exact Ren.ep _ | exact Ren.ptr _ _ _ _ rfl | exact Ren.bs _ _ _ _ _ rfl | exact Ren.nil _ | exact Ren.own _ _ _ _ ⟨_, rfl⟩ | refine zO ?_ | refine zQ ?_ | refine zP ?_ | refine ⟨?_, ?_⟩)
      by_cases h3 : d = keyL
      · have e3 := seq_t (b := #[107, 101, 121]) h3
        rw [if_pos ⟨h1, h2, h3⟩] at hfr
        cases hm : numP f 1073741824 with
        | none =>
          rw [hm] at hfr
          refine ⟨(⟨3, 0, 0, posI c, 0⟩, 2), jS _ hfr, fun G => ?_⟩
          have hnm := hnum (G := G) f hf5
          rw [hm] at hnm
          refine zj tbOk (zn Tryz.func44 (by kernel_rfl) rfl) Tryz.func44 rfl _ Tryz.ntmps44 (Nat.le_of_ble_eq_true rfl) fun X hX => ?_
          subst hX
          repeat (first | ((with_reducible refine zI ?_); refine zH rfl ?_) | ((with_reducible refine zE ?_); refine zD rfl ?_) | ((with_reducible refine zL ?_); refine za tbOk rfl rfl rfl ?_) | ((with_reducible refine yA ?_); refine yB tbOk rfl rfl ?_) | ((with_reducible refine yj ?_); refine yi rfl rfl rfl ?_) | ((with_reducible refine zb ?_); refine zt rfl (by first | rfl | assumption) rfl ?_) | ((with_reducible refine zb ?_); refine zq rfl (by first | rfl | assumption) rfl ?_) | ((with_reducible refine zT ?_); refine zZ tbOk rfl rfl rfl rfl (by assumption) ?_) | ((with_reducible refine zu ?_); refine yR tbOk rfl rfl ?_) | ((with_reducible refine zM ?_); refine zV rfl rfl rfl ?_) | ((with_reducible refine zM ?_); refine yp rfl rfl rfl ?_)  | refine zJ ?_ | refine zB rfl ?_ | refine yK rfl rfl (by first | rfl | assumption) ?_ | refine yQ rfl rfl (by first | rfl | assumption) ?_ | refine jG rfl rfl rfl ?_ | with_reducible refine zC ?_ | with_reducible refine zF ?_ | with_reducible refine zY ?_ | ((with_reducible refine zA ?_ ?_); kernel_rfl) | refine zp rfl (by first | rfl | assumption) ?_)
          refine zo (pos_A c) (by repeat' (first | exact trivial | exact Ren.v _ | exact Ren.sl _ _ | exact Ren.ep _ | exact Ren.ptr _ _ _ _ rfl | exact Ren.bs _ _ _ _ _ rfl | exact Ren.nil _ | exact Ren.own _ _ _ _ ⟨_, rfl⟩ | refine zO ?_ | refine zQ ?_ | refine zP ?_ | refine ⟨?_, ?_⟩)) (by repeat' (first | exact trivial | exact RenB.v _ | exact RenB.sl _ _ | exact RenB.ep _ | exact RenB.ptr _ _ _ _ rfl | refine zW ?_ | refine zX ?_ | refine ⟨?_, ?_⟩)) ?_
          repeat (first | ((with_reducible refine zI ?_); refine zH rfl ?_) | ((with_reducible refine zb ?_); refine zt rfl (by first | rfl | assumption) rfl ?_) | ((with_reducible refine zM ?_); refine zV rfl rfl rfl ?_)  | refine zB rfl ?_ | refine yK rfl rfl (by first | rfl | assumption) ?_  )
          refine yI rfl rfl (fun q => ?_) (fun q => ?_)
          · repeat (first | ((with_reducible refine zI ?_); refine zH rfl ?_) | ((with_reducible refine zE ?_); refine zD rfl ?_) | ((with_reducible refine zL ?_); refine za tbOk rfl rfl rfl ?_) | ((with_reducible refine zb ?_); refine zt rfl (by first | rfl | assumption) rfl ?_) | ((with_reducible refine zT ?_); refine zZ tbOk rfl rfl rfl rfl (by assumption) ?_) | ((with_reducible refine zM ?_); refine yp rfl rfl rfl ?_)  | refine zJ ?_ | refine zB rfl ?_ | refine yK rfl rfl (by first | rfl | assumption) ?_ | with_reducible refine zC ?_ | with_reducible refine zF ?_ | ((with_reducible refine zA ?_ ?_); kernel_rfl) | refine zg rfl (by first | rfl | assumption) ?_)
            refine zo (pos_A c) (by repeat' (first | exact trivial | exact Ren.v _ | exact Ren.sl _ _ | exact Ren.ep _ | exact Ren.ptr _ _ _ _ rfl | exact Ren.bs _ _ _ _ _ rfl | exact Ren.nil _ | exact Ren.own _ _ _ _ ⟨_, rfl⟩ | refine zO ?_ | refine zQ ?_ | refine zP ?_ | refine ⟨?_, ?_⟩)) (by repeat' (first | exact trivial | exact RenB.v _ | exact RenB.sl _ _ | exact RenB.ep _ | exact RenB.ptr _ _ _ _ rfl | refine zW ?_ | refine zX ?_ | refine ⟨?_, ?_⟩)) ?_
            repeat (first | ((with_reducible refine zI ?_); refine zH rfl ?_) | ((with_reducible refine zK ?_); refine zG tbOk rfl rfl rfl rfl ?_) | ((with_reducible refine zL ?_); refine za tbOk rfl rfl rfl ?_) | ((with_reducible refine zd ?_); refine zf tbOk rfl rfl rfl rfl rfl rfl rfl (Nat.le_of_ble_eq_true rfl) rfl ?_) | ((with_reducible refine zT ?_); refine zZ tbOk rfl rfl rfl rfl (by assumption) ?_)  | refine zJ ?_ | refine zB rfl ?_ | with_reducible refine zC ?_ | ((with_reducible refine zA ?_ ?_); kernel_rfl))
            refine zo (hnm) (by repeat' (first | exact trivial | exact Ren.v _ | exact Ren.sl _ _ | exact Ren.ep _ | exact Ren.ptr _ _ _ _ rfl | exact Ren.bs _ _ _ _ _ rfl | exact Ren.nil _ | exact Ren.own _ _ _ _ ⟨_, rfl⟩ | refine zO ?_ | refine zQ ?_ | refine zP ?_ | refine ⟨?_, ?_⟩)) (by repeat' (first | exact trivial | exact RenB.v _ | exact RenB.sl _ _ | exact RenB.ep _ | exact RenB.ptr _ _ _ _ rfl | refine zW ?_ | refine zX ?_ | refine ⟨?_, ?_⟩)) ?_
            repeat (first | ((with_reducible refine zI ?_); refine zH rfl ?_) | ((with_reducible refine zE ?_); refine zD rfl ?_) | ((with_reducible refine zL ?_); refine zc tbOk rfl rfl rfl rfl (Nat.le_of_ble_eq_true rfl) ?_) | ((with_reducible refine zd ?_); refine zf tbOk rfl rfl rfl rfl rfl rfl rfl (Nat.le_of_ble_eq_true rfl) rfl ?_) | ((with_reducible refine k_un ?_); refine yr rfl ?_) | ((with_reducible refine yN ?_); refine yO rfl rfl ?_)  | refine zJ ?_ | refine zB rfl ?_ | with_reducible refine zC ?_ | with_reducible refine zS ?_ | with_reducible refine zk ?_ | with_reducible refine zF ?_ | with_reducible refine zU ?_ | ((with_reducible refine zA ?_ ?_); kernel_rfl) | refine zg rfl (by first | rfl | assumption) ?_)
            refine yo (by first | exact .inr rfl | exact .inl rfl) rfl rfl rfl rfl rfl rfl ?_
            repeat' (first | exact trivial | exact Ren.v _ | exact Ren.sl _ _ | exact Ren.ep _ | exact Ren.ptr _ _ _ _ rfl | exact Ren.bs _ _ _ _ _ rfl | exact Ren.nil _ | exact Ren.own _ _ _ _ ⟨_, rfl⟩ | refine zO ?_ | refine zQ ?_ | refine zP ?_ | refine ⟨?_, ?_⟩)
          · exfalso; exact h2 (by simpa using q)
        | some y =>
          rw [hm] at hfr
          refine ⟨_, qF (w := b) hfr (by decide) rfl, fun G => ?_⟩
          have hnm := hnum (G := G) f hf5
          rw [hm] at hnm
          refine zj tbOk (zn Tryz.func44 (by kernel_rfl) rfl) Tryz.func44 rfl _ Tryz.ntmps44 (Nat.le_of_ble_eq_true rfl) fun X hX => ?_
          subst hX
          repeat (first | ((with_reducible refine zI ?_); refine zH rfl ?_) | ((with_reducible refine zE ?_); refine zD rfl ?_) | ((with_reducible refine zL ?_); refine za tbOk rfl rfl rfl ?_) | ((with_reducible refine yA ?_); refine yB tbOk rfl rfl ?_) | ((with_reducible refine yj ?_); refine yi rfl rfl rfl ?_) | ((with_reducible refine zb ?_); refine zt rfl (by first | rfl | assumption) rfl ?_) | ((with_reducible refine zb ?_); refine zq rfl (by first | rfl | assumption) rfl ?_) | ((with_reducible refine zT ?_); refine zZ tbOk rfl rfl rfl rfl (by assumption) ?_) | ((with_reducible refine zu ?_); refine yR tbOk rfl rfl ?_) | ((with_reducible refine zM ?_); refine zV rfl rfl rfl ?_) | ((with_reducible refine zM ?_); refine yp rfl rfl rfl ?_)  | refine zJ ?_ | refine zB rfl ?_ | refine yK rfl rfl (by first | rfl | assumption) ?_ | refine yQ rfl rfl (by first | rfl | assumption) ?_ | refine jG rfl rfl rfl ?_ | with_reducible refine zC ?_ | with_reducible refine zF ?_ | with_reducible refine zY ?_ | ((with_reducible refine zA ?_ ?_); kernel_rfl) | refine zp rfl (by first | rfl | assumption) ?_)
          refine zo (pos_A c) (by repeat' (first | exact trivial | exact Ren.v _ | exact Ren.sl _ _ | exact Ren.ep _ | exact Ren.ptr _ _ _ _ rfl | exact Ren.bs _ _ _ _ _ rfl | exact Ren.nil _ | exact Ren.own _ _ _ _ ⟨_, rfl⟩ | refine zO ?_ | refine zQ ?_ | refine zP ?_ | refine ⟨?_, ?_⟩)) (by repeat' (first | exact trivial | exact RenB.v _ | exact RenB.sl _ _ | exact RenB.ep _ | exact RenB.ptr _ _ _ _ rfl | refine zW ?_ | refine zX ?_ | refine ⟨?_, ?_⟩)) ?_
          repeat (first | ((with_reducible refine zI ?_); refine zH rfl ?_) | ((with_reducible refine zb ?_); refine zt rfl (by first | rfl | assumption) rfl ?_) | ((with_reducible refine zM ?_); refine zV rfl rfl rfl ?_)  | refine zB rfl ?_ | refine yK rfl rfl (by first | rfl | assumption) ?_  )
          refine yI rfl rfl (fun q => ?_) (fun q => ?_)
          · repeat (first | ((with_reducible refine zI ?_); refine zH rfl ?_) | ((with_reducible refine zE ?_); refine zD rfl ?_) | ((with_reducible refine zL ?_); refine za tbOk rfl rfl rfl ?_) | ((with_reducible refine zb ?_); refine zt rfl (by first | rfl | assumption) rfl ?_) | ((with_reducible refine zT ?_); refine zZ tbOk rfl rfl rfl rfl (by assumption) ?_) | ((with_reducible refine zM ?_); refine yp rfl rfl rfl ?_)  | refine zJ ?_ | refine zB rfl ?_ | refine yK rfl rfl (by first | rfl | assumption) ?_ | with_reducible refine zC ?_ | with_reducible refine zF ?_ | ((with_reducible refine zA ?_ ?_); kernel_rfl) | refine zg rfl (by first | rfl | assumption) ?_)
            refine zo (pos_A c) (by repeat' (first | exact trivial | exact Ren.v _ | exact Ren.sl _ _ | exact Ren.ep _ | exact Ren.ptr _ _ _ _ rfl | exact Ren.bs _ _ _ _ _ rfl | exact Ren.nil _ | exact Ren.own _ _ _ _ ⟨_, rfl⟩ | refine zO ?_ | refine zQ ?_ | refine zP ?_ | refine ⟨?_, ?_⟩)) (by repeat' (first | exact trivial | exact RenB.v _ | exact RenB.sl _ _ | exact RenB.ep _ | exact RenB.ptr _ _ _ _ rfl | refine zW ?_ | refine zX ?_ | refine ⟨?_, ?_⟩)) ?_
            repeat (first | ((with_reducible refine zI ?_); refine zH rfl ?_) | ((with_reducible refine zK ?_); refine zG tbOk rfl rfl rfl rfl ?_) | ((with_reducible refine zL ?_); refine za tbOk rfl rfl rfl ?_) | ((with_reducible refine zd ?_); refine zf tbOk rfl rfl rfl rfl rfl rfl rfl (Nat.le_of_ble_eq_true rfl) rfl ?_) | ((with_reducible refine zT ?_); refine zZ tbOk rfl rfl rfl rfl (by assumption) ?_)  | refine zJ ?_ | refine zB rfl ?_ | with_reducible refine zC ?_ | ((with_reducible refine zA ?_ ?_); kernel_rfl))
            refine zo (hnm) (by repeat' (first | exact trivial | exact Ren.v _ | exact Ren.sl _ _ | exact Ren.ep _ | exact Ren.ptr _ _ _ _ rfl | exact Ren.bs _ _ _ _ _ rfl | exact Ren.nil _ | exact Ren.own _ _ _ _ ⟨_, rfl⟩ | refine zO ?_ | refine zQ ?_ | refine zP ?_ | refine ⟨?_, ?_⟩)) (by repeat' (first | exact trivial | exact RenB.v _ | exact RenB.sl _ _ | exact RenB.ep _ | exact RenB.ptr _ _ _ _ rfl | refine zW ?_ | refine zX ?_ | refine ⟨?_, ?_⟩)) ?_
            repeat (first | ((with_reducible refine zI ?_); refine zH rfl ?_) | ((with_reducible refine zE ?_); refine zD rfl ?_) | ((with_reducible refine zK ?_); refine zG tbOk rfl rfl rfl rfl ?_) | ((with_reducible refine zL ?_); refine zN tbOk rfl rfl rfl rfl rfl ?_) | ((with_reducible refine zL ?_); refine zc tbOk rfl rfl rfl rfl (Nat.le_of_ble_eq_true rfl) ?_) | ((with_reducible refine zL ?_); refine za tbOk rfl rfl rfl ?_) | ((with_reducible refine zd ?_); refine zf tbOk rfl rfl rfl rfl rfl rfl rfl (Nat.le_of_ble_eq_true rfl) rfl ?_) | ((with_reducible refine k_un ?_); refine yr rfl ?_) | ((with_reducible refine yN ?_); refine yO rfl rfl ?_) | ((with_reducible refine zT ?_); refine zZ tbOk rfl rfl rfl rfl (by assumption) ?_) | ((with_reducible refine zM ?_); refine zV rfl rfl rfl ?_)  | refine zJ ?_ | refine zB rfl ?_ | with_reducible refine zC ?_ | with_reducible refine zk ?_ | with_reducible refine zF ?_ | with_reducible refine zR ?_ | ((with_reducible refine zA ?_ ?_); kernel_rfl) | ((with_reducible refine yx mixd ?_ ?_); kernel_rfl) | refine zp rfl (by first | rfl | assumption) ?_)
            refine zo (hdv b) (by repeat' (first | exact trivial | exact Ren.v _ | exact Ren.sl _ _ | exact Ren.ep _ | exact Ren.ptr _ _ _ _ rfl | exact Ren.bs _ _ _ _ _ rfl | exact Ren.nil _ | exact Ren.own _ _ _ _ ⟨_, rfl⟩ | refine zO ?_ | refine zQ ?_ | refine zP ?_ | refine ⟨?_, ?_⟩)) (by repeat' (first | exact trivial | exact RenB.v _ | exact RenB.sl _ _ | exact RenB.ep _ | exact RenB.ptr _ _ _ _ rfl | refine zW ?_ | refine zX ?_ | refine ⟨?_, ?_⟩)) ?_
            repeat (first | ((with_reducible refine zK ?_); refine zG tbOk rfl rfl rfl rfl ?_) | ((with_reducible refine zL ?_); refine zN tbOk rfl rfl rfl rfl rfl ?_) | ((with_reducible refine zd ?_); refine zf tbOk rfl rfl rfl rfl rfl rfl rfl (Nat.le_of_ble_eq_true rfl) rfl ?_) | ((with_reducible refine zM ?_); refine zV rfl rfl rfl ?_)  | refine zJ ?_ | refine jM (by kernel_rfl) ?_ | refine zB rfl ?_ | with_reducible refine zC ?_ | with_reducible refine zF ?_ | ((with_reducible refine zA ?_ ?_); kernel_rfl))
            refine zm rfl (fun q => ?_) (fun q => ?_)
            · rw [if_pos (by simpa using q)]
              repeat (first | ((with_reducible refine zE ?_); refine zD rfl ?_) | ((with_reducible refine zL ?_); refine zc tbOk rfl rfl rfl rfl (Nat.le_of_ble_eq_true rfl) ?_) | ((with_reducible refine zd ?_); refine zf tbOk rfl rfl rfl rfl rfl rfl rfl (Nat.le_of_ble_eq_true rfl) rfl ?_)  | refine zJ ?_ | refine zB rfl ?_ | with_reducible refine zC ?_ | with_reducible refine zS ?_ | with_reducible refine zF ?_ | with_reducible refine zU ?_ | ((with_reducible refine zA ?_ ?_); kernel_rfl))
              refine yo (by first | exact .inr rfl | exact .inl rfl) rfl rfl rfl rfl rfl rfl ?_
              repeat' (first | exact trivial | exact Ren.v _ | exact Ren.sl _ _ | exact Ren.ep _ | exact Ren.ptr _ _ _ _ rfl | exact Ren.bs _ _ _ _ _ rfl | exact Ren.nil _ | exact Ren.own _ _ _ _ ⟨_, rfl⟩ | refine zO ?_ | refine zQ ?_ | refine zP ?_ | refine ⟨?_, ?_⟩)
            · rw [if_neg (by simpa using q)]
              repeat (first | ((with_reducible refine zE ?_); refine zD rfl ?_) | ((with_reducible refine zL ?_); refine zc tbOk rfl rfl rfl rfl (Nat.le_of_ble_eq_true rfl) ?_) | ((with_reducible refine zd ?_); refine zf tbOk rfl rfl rfl rfl rfl rfl rfl (Nat.le_of_ble_eq_true rfl) rfl ?_)  | refine zJ ?_ | refine zB rfl ?_ | with_reducible refine zC ?_ | with_reducible refine zF ?_ | with_reducible refine zR ?_ | with_reducible refine zU ?_ | ((with_reducible refine zA ?_ ?_); kernel_rfl))
              refine yo (by first | exact .inr rfl | exact .inl rfl) rfl rfl rfl rfl rfl rfl ?_
              repeat' (first | exact trivial | exact Ren.v _ | exact Ren.sl _ _ | exact Ren.ep _ | exact Ren.ptr _ _ _ _ rfl | exact Ren.bs _ _ _ _ _ rfl | exact Ren.nil _ | exact Ren.own _ _ _ _ ⟨_, rfl⟩ | refine zO ?_ | refine zQ ?_ | refine zP ?_ | refine ⟨?_, ?_⟩)
          · exfalso; exact h2 (by simpa using q)
      · have e3 := seq_f (b := #[107, 101, 121]) h3
        refine ⟨(St.zer, 2), jS _ (by rw [hfr, if_neg (fun h => h3 h.2.2)]), fun G => ?_⟩
        refine zj tbOk (zn Tryz.func44 (by kernel_rfl) rfl) Tryz.func44 rfl _ Tryz.ntmps44 (Nat.le_of_ble_eq_true rfl) fun X hX => ?_
        subst hX
        repeat (first | ((with_reducible refine zI ?_); refine zH rfl ?_) | ((with_reducible refine zE ?_); refine zD rfl ?_) | ((with_reducible refine zL ?_); refine za tbOk rfl rfl rfl ?_) | ((with_reducible refine yA ?_); refine yB tbOk rfl rfl ?_) | ((with_reducible refine yj ?_); refine yi rfl rfl rfl ?_) | ((with_reducible refine zb ?_); refine zt rfl (by first | rfl | assumption) rfl ?_) | ((with_reducible refine zb ?_); refine zq rfl (by first | rfl | assumption) rfl ?_) | ((with_reducible refine zT ?_); refine zZ tbOk rfl rfl rfl rfl (by assumption) ?_) | ((with_reducible refine zu ?_); refine yR tbOk rfl rfl ?_) | ((with_reducible refine zM ?_); refine zV rfl rfl rfl ?_) | ((with_reducible refine zM ?_); refine yp rfl rfl rfl ?_)  | refine zJ ?_ | refine zB rfl ?_ | refine yK rfl rfl (by first | rfl | assumption) ?_ | refine yQ rfl rfl (by first | rfl | assumption) ?_ | refine jG rfl rfl rfl ?_ | with_reducible refine zC ?_ | with_reducible refine zF ?_ | with_reducible refine zY ?_ | ((with_reducible refine zA ?_ ?_); kernel_rfl) | refine zp rfl (by first | rfl | assumption) ?_)
        refine zo (pos_A c) (by repeat' (first | exact trivial | exact Ren.v _ | exact Ren.sl _ _ | exact Ren.ep _ | exact Ren.ptr _ _ _ _ rfl | exact Ren.bs _ _ _ _ _ rfl | exact Ren.nil _ | exact Ren.own _ _ _ _ ⟨_, rfl⟩ | refine zO ?_ | refine zQ ?_ | refine zP ?_ | refine ⟨?_, ?_⟩)) (by repeat' (first | exact trivial | exact RenB.v _ | exact RenB.sl _ _ | exact RenB.ep _ | exact RenB.ptr _ _ _ _ rfl | refine zW ?_ | refine zX ?_ | refine ⟨?_, ?_⟩)) ?_
        repeat (first | ((with_reducible refine zI ?_); refine zH rfl ?_) | ((with_reducible refine zb ?_); refine zt rfl (by first | rfl | assumption) rfl ?_) | ((with_reducible refine zM ?_); refine zV rfl rfl rfl ?_)  | refine zB rfl ?_ | refine yK rfl rfl (by first | rfl | assumption) ?_  )
        refine yI rfl rfl (fun q => ?_) (fun q => ?_)
        · repeat (first | ((with_reducible refine zI ?_); refine zH rfl ?_) | ((with_reducible refine zE ?_); refine zD rfl ?_) | ((with_reducible refine zL ?_); refine zc tbOk rfl rfl rfl rfl (Nat.le_of_ble_eq_true rfl) ?_) | ((with_reducible refine zL ?_); refine za tbOk rfl rfl rfl ?_) | ((with_reducible refine zd ?_); refine zf tbOk rfl rfl rfl rfl rfl rfl rfl (Nat.le_of_ble_eq_true rfl) rfl ?_) | ((with_reducible refine k_un ?_); refine yr rfl ?_) | ((with_reducible refine zb ?_); refine zt rfl (by first | rfl | assumption) rfl ?_) | ((with_reducible refine zb ?_); refine zq rfl (by first | rfl | assumption) rfl ?_) | ((with_reducible refine zT ?_); refine zZ tbOk rfl rfl rfl rfl (by assumption) ?_) | ((with_reducible refine zu ?_); refine yR tbOk rfl rfl ?_) | ((with_reducible refine zM ?_); refine zV rfl rfl rfl ?_) | ((with_reducible refine zM ?_); refine yp rfl rfl rfl ?_)  | refine zJ ?_ | refine zB rfl ?_ | refine yK rfl rfl (by first | rfl | assumption) ?_ | refine yQ rfl rfl (by first | rfl | assumption) ?_ | with_reducible refine zC ?_ | with_reducible refine zS ?_ | with_reducible refine zk ?_ | with_reducible refine zF ?_ | with_reducible refine zR ?_ | with_reducible refine zU ?_ | ((with_reducible refine zA ?_ ?_); kernel_rfl) | refine zg rfl (by first | rfl | assumption) ?_ | refine zp rfl (by first | rfl | assumption) ?_)
          refine yo (by first | exact .inr rfl | exact .inl rfl) rfl rfl rfl rfl rfl rfl ?_
          repeat' (first | exact trivial | exact Ren.v _ | exact Ren.sl _ _ | exact Ren.ep _ | exact Ren.ptr _ _ _ _ rfl | exact Ren.bs _ _ _ _ _ rfl | exact Ren.nil _ | exact Ren.own _ _ _ _ ⟨_, rfl⟩ | refine zO ?_ | refine zQ ?_ | refine zP ?_ | refine ⟨?_, ?_⟩)
        · exfalso; exact h2 (by simpa using q)
    · have e1 := seq_f (b := #[108, 111, 99, 107]) h1
      refine ⟨(St.zer, 2), jS _ (by rw [hfr, if_neg (fun h => h1 h.1)]), fun G => ?_⟩
      refine zj tbOk (zn Tryz.func44 (by kernel_rfl) rfl) Tryz.func44 rfl _ Tryz.ntmps44 (Nat.le_of_ble_eq_true rfl) fun X hX => ?_
      subst hX
      repeat (first | ((with_reducible refine zI ?_); refine zH rfl ?_) | ((with_reducible refine zE ?_); refine zD rfl ?_) | ((with_reducible refine zL ?_); refine zc tbOk rfl rfl rfl rfl (Nat.le_of_ble_eq_true rfl) ?_) | ((with_reducible refine zL ?_); refine za tbOk rfl rfl rfl ?_) | ((with_reducible refine zd ?_); refine zf tbOk rfl rfl rfl rfl rfl rfl rfl (Nat.le_of_ble_eq_true rfl) rfl ?_) | ((with_reducible refine yA ?_); refine yB tbOk rfl rfl ?_) | ((with_reducible refine yj ?_); refine yi rfl rfl rfl ?_) | ((with_reducible refine k_un ?_); refine yr rfl ?_) | ((with_reducible refine zb ?_); refine zt rfl (by first | rfl | assumption) rfl ?_) | ((with_reducible refine zb ?_); refine zq rfl (by first | rfl | assumption) rfl ?_) | ((with_reducible refine zT ?_); refine zZ tbOk rfl rfl rfl rfl (by assumption) ?_) | ((with_reducible refine zu ?_); refine yR tbOk rfl rfl ?_) | ((with_reducible refine zM ?_); refine zV rfl rfl rfl ?_) | ((with_reducible refine zM ?_); refine yp rfl rfl rfl ?_)  | refine zJ ?_ | refine zB rfl ?_ | refine yK rfl rfl (by first | rfl | assumption) ?_ | refine yQ rfl rfl (by first | rfl | assumption) ?_ | refine jG rfl rfl rfl ?_ | with_reducible refine zC ?_ | with_reducible refine zS ?_ | with_reducible refine zk ?_ | with_reducible refine zF ?_ | with_reducible refine zY ?_ | with_reducible refine zR ?_ | with_reducible refine zU ?_ | ((with_reducible refine zA ?_ ?_); kernel_rfl) | refine zg rfl (by first | rfl | assumption) ?_ | refine zp rfl (by first | rfl | assumption) ?_)
      repeat (first | fail    )
      refine yo (by first | exact .inr rfl | exact .inl rfl) rfl rfl rfl rfl rfl rfl ?_
      repeat' (first | exact trivial | exact Ren.v _ | exact Ren.sl _ _ | exact Ren.ep _ | exact Ren.ptr _ _ _ _ rfl | exact Ren.bs _ _ _ _ _ rfl | exact Ren.nil _ | exact Ren.own _ _ _ _ ⟨_, rfl⟩ | refine zO ?_ | refine zQ ?_ | refine zP ?_ | refine ⟨?_, ?_⟩)
  | a :: b :: c :: d :: f :: g :: r, _, hw =>
    have hlen : ((a :: b :: c :: d :: f :: g :: r).map svL).length = r.length + 6 := by simp
    have l2 : decide (((((a :: b :: c :: d :: f :: g :: r).map svL).length : Nat) : Int) = 2) = false := decide_eq_false (by rw [hlen]; omega)
    have l3 : decide (((((a :: b :: c :: d :: f :: g :: r).map svL).length : Nat) : Int) = 3) = false := decide_eq_false (by rw [hlen]; omega)
    have l4 : decide (((((a :: b :: c :: d :: f :: g :: r).map svL).length : Nat) : Int) = 4) = false := decide_eq_false (by rw [hlen]; omega)
    have l5 : decide (((((a :: b :: c :: d :: f :: g :: r).map svL).length : Nat) : Int) = 5) = false := decide_eq_false (by rw [hlen]; omega)
    refine ⟨(St.zer, 2), jS _ ?_, fun G => ?_⟩
    · unfold jU; simp
    · refine zj tbOk (zn Tryz.func44 (by kernel_rfl) rfl) Tryz.func44 rfl _ Tryz.ntmps44 (Nat.le_of_ble_eq_true rfl) fun X hX => ?_
      subst hX
      repeat (first | ((with_reducible refine zI ?_); refine zH rfl ?_) | ((with_reducible refine zE ?_); refine zD rfl ?_) | ((with_reducible refine zL ?_); refine zc tbOk rfl rfl rfl rfl (Nat.le_of_ble_eq_true rfl) ?_) | ((with_reducible refine zd ?_); refine zf tbOk rfl rfl rfl rfl rfl rfl rfl (Nat.le_of_ble_eq_true rfl) rfl ?_) | ((with_reducible refine yA ?_); refine yB tbOk rfl rfl ?_) | ((with_reducible refine yj ?_); refine yi rfl rfl rfl ?_) | ((with_reducible refine k_un ?_); refine yr rfl ?_) | ((with_reducible refine zb ?_); refine zq rfl (by first | rfl | assumption) rfl ?_) | ((with_reducible refine zu ?_); refine yR tbOk rfl rfl ?_) | ((with_reducible refine zM ?_); refine zV rfl rfl rfl ?_)  | refine zJ ?_ | refine zB rfl ?_ | refine yQ rfl rfl (by first | rfl | assumption) ?_ | refine jG rfl rfl rfl ?_ | with_reducible refine zC ?_ | with_reducible refine zS ?_ | with_reducible refine zk ?_ | with_reducible refine zF ?_ | with_reducible refine zY ?_ | with_reducible refine zR ?_ | with_reducible refine zU ?_ | ((with_reducible refine zA ?_ ?_); kernel_rfl) | refine zg rfl (by first | rfl | assumption) ?_ | refine zp rfl (by first | rfl | assumption) ?_)
      repeat (first | fail    )
      refine yo (by first | exact .inr rfl | exact .inl rfl) rfl rfl rfl rfl rfl rfl ?_
      repeat' (first | exact trivial | exact Ren.v _ | exact Ren.sl _ _ | exact Ren.ep _ | exact Ren.ptr _ _ _ _ rfl | exact Ren.bs _ _ _ _ _ rfl | exact Ren.nil _ | exact Ren.own _ _ _ _ ⟨_, rfl⟩ | refine zO ?_ | refine zQ ?_ | refine zP ?_ | refine ⟨?_, ?_⟩)
set_option maxHeartbeats 16000000 in
theorem rparse_A (N : List Nd) (V : List Dv) (s : ByteArray) (hG : GCls G) (ok : NwOk N V) (hs : s.size ≤ 900000) :
    yF Tryz.prog G 21 [nwAV N V, .v (.string s)] [] (.tu [(jV N V s.data.toList).1.av, .v (.int .i64 (jV N V s.data.toList).2.1), .v (.int .i64 (jV N V s.data.toList).2.2)]) [] := by
  have hz := nsizeS s
  obtain ⟨hLl, hLw⟩ := lines_len (l := s.data.toList)
  have hlin := rlines_A (G := G) s (by omega)
  obtain ⟨L, hL⟩ : ∃ L, L = (jZ s.data.toList).getD [] := ⟨_, rfl⟩
  obtain ⟨okb, hokb⟩ : ∃ b, b = (jZ s.data.toList).isSome := ⟨_, rfl⟩
  have herr := fun (i e : Int) (hn : netE N V = 0) => parseG_go (i := i) (e := e) (s := s.data.toList) hn
  rw [← hL] at hLl hLw hlin herr
  rw [← hokb] at hlin
  refine zj tbOk (zn Tryz.func21 (by kernel_rfl) rfl) Tryz.func21 rfl _ Tryz.ntmps21 (Nat.le_of_ble_eq_true rfl) fun X hX => ?_
  subst hX
  repeat (first | ((with_reducible refine zE ?_); refine zD rfl ?_) | ((with_reducible refine zL ?_); refine zc tbOk rfl rfl rfl rfl (Nat.le_of_ble_eq_true rfl) ?_) | ((with_reducible refine yA ?_); refine yB tbOk rfl rfl ?_) | ((with_reducible refine yj ?_); refine yi rfl rfl rfl ?_)  | refine zJ ?_ | refine zB rfl ?_ | with_reducible refine zC ?_ | with_reducible refine zF ?_ | ((with_reducible refine zA ?_ ?_); kernel_rfl))
  refine zo (rnet_A N V ok.n ok.v ok.l1 ok.l2) (by repeat' (first | exact trivial | exact Ren.v _ | exact Ren.sl _ _ | exact Ren.ep _ | exact Ren.ptr _ _ _ _ rfl | exact Ren.bs _ _ _ _ _ rfl | exact Ren.nil _ | exact Ren.own _ _ _ _ ⟨_, rfl⟩ | refine zO ?_ | refine zQ ?_ | refine zP ?_ | refine ⟨?_, ?_⟩)) (by repeat' (first | exact trivial | exact RenB.v _ | exact RenB.sl _ _ | exact RenB.ep _ | exact RenB.ptr _ _ _ _ rfl | refine zW ?_ | refine zX ?_ | refine ⟨?_, ?_⟩)) ?_
  repeat (first | ((with_reducible refine zI ?_); refine zH rfl ?_) | ((with_reducible refine zE ?_); refine zD rfl ?_) | ((with_reducible refine zM ?_); refine zV rfl rfl rfl ?_)  | refine zJ ?_ | refine zB rfl ?_ | with_reducible refine zC ?_ | with_reducible refine zF ?_ | ((with_reducible refine zA ?_ ?_); kernel_rfl))
  refine zm rfl (fun h => ?_) (fun h => ?_)
  · have e : jV N V s.data.toList = (Pg.zer, 0, netE N V) := by unfold jV; rw [if_pos (by simpa using h)]
    rw [e]
    repeat (first | ((with_reducible refine zI ?_); refine zH rfl ?_) | ((with_reducible refine zE ?_); refine zD rfl ?_) | ((with_reducible refine zd ?_); refine zf tbOk rfl rfl rfl rfl rfl rfl rfl (Nat.le_of_ble_eq_true rfl) rfl ?_) | ((with_reducible refine ye ?_); refine yg tbOk rfl rfl rfl rfl rfl ?_)  | refine zJ ?_ | refine zB rfl ?_ | with_reducible refine zC ?_ | with_reducible refine zS ?_ | with_reducible refine zF ?_ | with_reducible refine zU ?_ | ((with_reducible refine zA ?_ ?_); kernel_rfl))
    refine jT (by first | exact .inr rfl | exact .inl rfl) rfl rfl rfl rfl rfl rfl rfl ?_
    repeat' (first | exact trivial | exact Ren.v _ | exact Ren.sl _ _ | exact Ren.ep _ | exact Ren.ptr _ _ _ _ rfl | exact Ren.bs _ _ _ _ _ rfl | exact Ren.nil _ | exact Ren.own _ _ _ _ ⟨_, rfl⟩ | refine zO ?_ | refine zQ ?_ | refine zP ?_ | refine ⟨?_, ?_⟩)
  have h0 : netE N V = 0 := by simpa using h
  repeat (first | ((with_reducible refine zI ?_); refine zH rfl ?_)  | refine zB rfl ?_ | with_reducible refine zC ?_ | with_reducible refine zF ?_ | with_reducible refine zR ?_ | ((with_reducible refine zA ?_ ?_); kernel_rfl))
  refine zo (hlin) (by repeat' (first | exact trivial | exact Ren.v _ | exact Ren.sl _ _ | exact Ren.ep _ | exact Ren.ptr _ _ _ _ rfl | exact Ren.bs _ _ _ _ _ rfl | exact Ren.nil _ | exact Ren.own _ _ _ _ ⟨_, rfl⟩ | refine zO ?_ | refine zQ ?_ | refine zP ?_ | refine ⟨?_, ?_⟩)) (by repeat' (first | exact trivial | exact RenB.v _ | exact RenB.sl _ _ | exact RenB.ep _ | exact RenB.ptr _ _ _ _ rfl | refine zW ?_ | refine zX ?_ | refine ⟨?_, ?_⟩)) ?_
  repeat (first | ((with_reducible refine zI ?_); refine zH rfl ?_) | ((with_reducible refine zE ?_); refine zD rfl ?_) | ((with_reducible refine k_un ?_); refine yr rfl ?_) | ((with_reducible refine yN ?_); refine yO rfl rfl ?_)  | refine zJ ?_ | refine zB rfl ?_ | with_reducible refine zC ?_ | with_reducible refine zF ?_ | ((with_reducible refine zA ?_ ?_); kernel_rfl))
  refine zm rfl (fun c => ?_) (fun c => ?_)
  · have e : jV N V s.data.toList = (Pg.zer, 0, 2) := by
      have hb : okb = false := by simpa using c
      unfold jV
      rw [if_neg (by simpa using h0)]
      cases hq : jZ s.data.toList with
      | none => rfl
      | some L' => rw [hq] at hokb; rw [hokb] at hb; cases hb
    rw [e]
    repeat (first | ((with_reducible refine zE ?_); refine zD rfl ?_) | ((with_reducible refine zd ?_); refine zf tbOk rfl rfl rfl rfl rfl rfl rfl (Nat.le_of_ble_eq_true rfl) rfl ?_) | ((with_reducible refine ye ?_); refine yg tbOk rfl rfl rfl rfl rfl ?_)  | refine zJ ?_ | refine zB rfl ?_ | with_reducible refine zC ?_ | with_reducible refine zS ?_ | with_reducible refine zF ?_ | with_reducible refine zU ?_ | ((with_reducible refine zA ?_ ?_); kernel_rfl))
    refine jT (by first | exact .inr rfl | exact .inl rfl) rfl rfl rfl rfl rfl rfl rfl ?_
    repeat' (first | exact trivial | exact Ren.v _ | exact Ren.sl _ _ | exact Ren.ep _ | exact Ren.ptr _ _ _ _ rfl | exact Ren.bs _ _ _ _ _ rfl | exact Ren.nil _ | exact Ren.own _ _ _ _ ⟨_, rfl⟩ | refine zO ?_ | refine zQ ?_ | refine zP ?_ | refine ⟨?_, ?_⟩)
  have hb : okb = true := by simpa using c
  repeat (first | ((with_reducible refine zE ?_); refine zD rfl ?_) | ((with_reducible refine yA ?_); refine yB tbOk rfl rfl ?_)  | refine zJ ?_ | refine zB rfl ?_ | with_reducible refine zC ?_ | with_reducible refine zF ?_ | with_reducible refine zY ?_ | with_reducible refine zR ?_ | ((with_reducible refine zA ?_ ?_); kernel_rfl))
  refine awp_own_at (s := 86) 39 5 [] [(10, [.v (.string ⟨#[]⟩), .own 86 1])] rfl trivial ⟨⟨_, _, rfl, .same (.hit .nil)⟩, trivial⟩ ?_
  refine yU (ι := Nat × Option (List UInt8) × List St) (fun i => i.1 ≤ L.length ∧ goL N V i.1 i.2.1 i.2.2 (L.drop i.1) = goL N V 0 none [] L ∧ i.2.2.length ≤ i.1 ∧ (∀ n, i.2.1 = some n → n.length ≤ 900000)) (fun i => L.length - i.1) (fun v i => [(2, .ptr 2 (v 2) 0), (4, .ptr 4 (v 4) 0), (8, .sl 1 (L.map svL)), (10, .ptr 10 (v 10) 0), (11, .v (.bool i.2.1.isSome)), (12, .v (.int .i64 (i.1 : Nat)))]) (fun v i => [(2, .box [.sl 3 (N.map Nd.av), .sl 5 (V.map Dv.av)]), (4, .box [.v (.string ⟨#[]⟩), .v (.slice none 0 0)]), (10, .box [.v (.string (strL (i.2.1.getD []))), .own 86 (v 86)]), (86, .buf 39 5 (i.2.2.map St.av))]) ?_ ?_
  · exact ⟨(0, none, []), ⟨Nat.zero_le _, rfl, Nat.zero_le _, fun n h => by cases h⟩, trivial, ⟨rfl, rfl, rfl, rfl, rfl, rfl, trivial⟩, ⟨rfl, rfl, rfl, rfl, trivial⟩⟩
  rintro v ⟨k, nm, S⟩ ⟨hk, hgo, hSl, hnm⟩
  dsimp only at hk hgo hSl hnm ⊢
  repeat (first | ((with_reducible refine zI ?_); refine zH rfl ?_) | ((with_reducible refine zu ?_); refine yR tbOk rfl rfl ?_) | ((with_reducible refine zM ?_); refine zV rfl rfl rfl ?_)  | refine zJ ?_ | refine zB rfl ?_ | with_reducible refine zC ?_ | with_reducible refine zF ?_ | ((with_reducible refine zA ?_ ?_); kernel_rfl))
  refine zm rfl (fun h => ?_) (fun h => ?_)
  · have hlt : k < L.length := by simpa using h
    obtain ⟨l, hl⟩ := zl hlt
    have hy := sv_at hl
    have hll := hLw l (List.mem_of_getElem? hl)
    rw [jE hl, goL_cons] at hgo
    obtain ⟨W, hW⟩ : ∃ W, W = jK l := ⟨_, rfl⟩
    have hwd := rwords_A (G := X.G) (strL l) (by rw [jb]; omega)
    rw [ym] at hwd
    have hwc : W.length ≤ l.length + 1 := by rw [hW]; exact wl_count
    have hwm : ∀ w ∈ W, w.length ≤ 1000000 := fun w hw => by
      rw [hW] at hw
      have := wl_len (show w ∈ wl [] l from hw)
      simp at this; omega
    have hwok : ∀ w ∈ W, w ≠ [] := fun w h => (words_ok w (by rw [← hW]; exact h)).1
    rw [← hW] at hgo hwd
    repeat (first | ((with_reducible refine zI ?_); refine zH rfl ?_) | ((with_reducible refine zL ?_); refine za tbOk rfl rfl rfl ?_) | ((with_reducible refine zT ?_); refine zZ tbOk rfl rfl rfl rfl (by assumption) ?_)  | refine zB rfl ?_ | with_reducible refine zC ?_ | with_reducible refine zF ?_ | with_reducible refine zY ?_ | with_reducible refine zR ?_ | ((with_reducible refine zA ?_ ?_); kernel_rfl))
    refine zo (hwd) (by repeat' (first | exact trivial | exact Ren.v _ | exact Ren.sl _ _ | exact Ren.ep _ | exact Ren.ptr _ _ _ _ rfl | exact Ren.bs _ _ _ _ _ rfl | exact Ren.nil _ | exact Ren.own _ _ _ _ ⟨_, rfl⟩ | refine zO ?_ | refine zQ ?_ | refine zP ?_ | refine ⟨?_, ?_⟩)) (by repeat' (first | exact trivial | exact RenB.v _ | exact RenB.sl _ _ | exact RenB.ep _ | exact RenB.ptr _ _ _ _ rfl | refine zW ?_ | refine zX ?_ | refine ⟨?_, ?_⟩)) ?_
    repeat (first | ((with_reducible refine zI ?_); refine zH rfl ?_) | ((with_reducible refine zE ?_); refine zD rfl ?_) | ((with_reducible refine zu ?_); refine yR tbOk rfl rfl ?_) | ((with_reducible refine zM ?_); refine zV rfl rfl rfl ?_)  | refine zJ ?_ | refine zB rfl ?_ | with_reducible refine zC ?_ | with_reducible refine zF ?_ | ((with_reducible refine zA ?_ ?_); kernel_rfl))
    refine yI rfl rfl (fun q => ?_) (fun q => ?_)
    · have q0 : W.length = 0 := by simp at q; rw [q]; rfl
      rw [if_pos (.inl q0)] at hgo
      repeat (first | ((with_reducible refine zI ?_); refine zH rfl ?_) | ((with_reducible refine zE ?_); refine zD rfl ?_) | ((with_reducible refine zb ?_); refine zt rfl (by first | rfl | assumption) rfl ?_) | ((with_reducible refine zM ?_); refine ze rfl rfl (by omega) ?_)  | refine zJ ?_ | refine zB rfl ?_ | refine yL rfl rfl (by first | rfl | assumption) ?_ | with_reducible refine zC ?_ | with_reducible refine zw ?_ | with_reducible refine yJ ?_ | ((with_reducible refine zr ?_ ?_); rfl) | ((with_reducible refine zA ?_ ?_); kernel_rfl) | refine zg rfl (by first | rfl | assumption) ?_)
      exact ⟨(k + 1, nm, S), ⟨by omega, hgo, by dsimp only; omega, hnm⟩, by dsimp only; omega, ⟨rfl, rfl, rfl, rfl, rfl, rfl, trivial⟩, ⟨rfl, rfl, rfl, rfl, trivial⟩⟩
    have q0 : ¬ W.length = 0 := by simp at q; exact fun e => q (List.eq_nil_of_length_eq_zero e)
    have hW0 : W ≠ [] := fun e => q0 (by rw [e]; rfl)
    obtain ⟨w0, hw0⟩ := zl (L := W) (k := 0) (by omega)
    have hwa : wAt W 0 = w0 := by unfold wAt; rw [hw0]; rfl
    obtain ⟨cc, hcc⟩ := zl (L := w0) (k := 0) (List.length_pos_iff.2 (hwok w0 (List.mem_of_getElem? hw0)))
    have hz0 : (W.map svL)[(0 : Int).toNat]? = some (svL w0) := sv_at hw0
    have hix := nidxS (strL w0) 0 cc (by rw [ym]; exact hcc)
    repeat (first | ((with_reducible refine zI ?_); refine zH rfl ?_) | ((with_reducible refine zL ?_); refine za tbOk rfl rfl rfl ?_) | ((with_reducible refine zb ?_); refine zq rfl (by first | rfl | assumption) rfl ?_) | ((with_reducible refine zT ?_); refine zZ tbOk rfl rfl rfl rfl (by assumption) ?_) | ((with_reducible refine yW ?_); refine jB rfl rfl (by assumption) ?_) | ((with_reducible refine zM ?_); refine zV rfl rfl rfl ?_)  | refine zJ ?_ | refine zB rfl ?_ | refine zv rfl rfl (by first | rfl | assumption) ?_ | with_reducible refine zC ?_ )
    refine zm rfl (fun q1 => ?_) (fun q1 => ?_)
    · have q2 : (wAt W 0)[0]? = some 35 := by
        have h1 : (cc.toNat : Int) = 35 := by simpa using q1
        rw [hwa, hcc]
        exact congrArg some (UInt8.toNat_inj.1 (by show cc.toNat = 35; omega))
      rw [if_pos (.inr q2)] at hgo
      repeat (first | ((with_reducible refine zI ?_); refine zH rfl ?_) | ((with_reducible refine zE ?_); refine zD rfl ?_) | ((with_reducible refine zM ?_); refine ze rfl rfl (by omega) ?_)  | refine zJ ?_ | refine zB rfl ?_ | with_reducible refine zC ?_ | with_reducible refine zw ?_ | with_reducible refine yJ ?_ | ((with_reducible refine zr ?_ ?_); rfl) | ((with_reducible refine zA ?_ ?_); kernel_rfl))
      exact ⟨(k + 1, nm, S), ⟨by omega, hgo, by dsimp only; omega, hnm⟩, by dsimp only; omega, ⟨rfl, rfl, rfl, rfl, rfl, rfl, trivial⟩, ⟨rfl, rfl, rfl, rfl, trivial⟩⟩
    have q2 : ¬ (wAt W 0)[0]? = some 35 := fun e => by
      have h1 : ¬ (cc.toNat : Int) = 35 := by simpa using q1
      rw [hwa, hcc] at e
      injection e with e
      exact h1 (by rw [e]; rfl)
    rw [if_neg (by rintro (e | e); · exact q0 e
                   · exact q2 e)] at hgo
    cases nm with
    | some n =>
      simp only at hgo
      obtain ⟨x, ⟨lk1, lk2⟩, hst⟩ := rstep_A N V W ok h0 hW0 hwm
      repeat (first | ((with_reducible refine zI ?_); refine zH rfl ?_) | ((with_reducible refine zL ?_); refine zc tbOk rfl rfl rfl rfl (Nat.le_of_ble_eq_true rfl) ?_) | ((with_reducible refine k_un ?_); refine yr rfl ?_)  | refine zJ ?_ | refine zB rfl ?_ | with_reducible refine zC ?_ | with_reducible refine zF ?_ | with_reducible refine zR ?_ | ((with_reducible refine zA ?_ ?_); kernel_rfl) | refine zp rfl (by first | rfl | assumption) ?_)
      refine zo (hst _) (by repeat' (first | exact trivial | exact Ren.v _ | exact Ren.sl _ _ | exact Ren.ep _ | exact Ren.ptr _ _ _ _ rfl | exact Ren.bs _ _ _ _ _ rfl | exact Ren.nil _ | exact Ren.own _ _ _ _ ⟨_, rfl⟩ | refine zO ?_ | refine zQ ?_ | refine zP ?_ | refine ⟨?_, ?_⟩)) (by repeat' (first | exact trivial | exact RenB.v _ | exact RenB.sl _ _ | exact RenB.ep _ | exact RenB.ptr _ _ _ _ rfl | refine zW ?_ | refine zX ?_ | refine ⟨?_, ?_⟩)) ?_
      repeat (first | ((with_reducible refine zI ?_); refine zH rfl ?_) | ((with_reducible refine zE ?_); refine zD rfl ?_) | ((with_reducible refine zd ?_); refine zf tbOk rfl rfl rfl rfl rfl rfl rfl (Nat.le_of_ble_eq_true rfl) rfl ?_) | ((with_reducible refine yA ?_); refine yB tbOk rfl rfl ?_) | ((with_reducible refine yN ?_); refine yO rfl rfl ?_) | ((with_reducible refine zM ?_); refine zV rfl rfl rfl ?_)  | refine zJ ?_ | refine zB rfl ?_ | with_reducible refine zC ?_ | with_reducible refine zF ?_ | ((with_reducible refine zA ?_ ?_); kernel_rfl))
      refine zm rfl (fun c => ?_) (fun c => ?_)
      · have c' : (jz N V W).2 ≠ 0 := by rw [← lk1]; simpa using c
        rw [if_pos c'] at hgo
        rw [herr _ _ h0 hgo.symm, ← lk1]
        repeat (first | ((with_reducible refine zI ?_); refine zH rfl ?_) | ((with_reducible refine zE ?_); refine zD rfl ?_) | ((with_reducible refine zd ?_); refine zf tbOk rfl rfl rfl rfl rfl rfl rfl (Nat.le_of_ble_eq_true rfl) rfl ?_) | ((with_reducible refine ye ?_); refine yg tbOk rfl rfl rfl rfl rfl ?_) | ((with_reducible refine zM ?_); refine ze rfl rfl (by omega) ?_)  | refine zJ ?_ | refine zB rfl ?_ | with_reducible refine zC ?_ | with_reducible refine zS ?_ | with_reducible refine zh ?_ | with_reducible refine zF ?_ | with_reducible refine zU ?_ | ((with_reducible refine zA ?_ ?_); kernel_rfl))
        refine jT (by first | exact .inr rfl | exact .inl rfl) rfl rfl rfl rfl rfl rfl rfl ?_
        repeat' (first | exact trivial | exact Ren.v _ | exact Ren.sl _ _ | exact Ren.ep _ | exact Ren.ptr _ _ _ _ rfl | exact Ren.bs _ _ _ _ _ rfl | exact Ren.nil _ | exact Ren.own _ _ _ _ ⟨_, rfl⟩ | refine zO ?_ | refine zQ ?_ | refine zP ?_ | refine ⟨?_, ?_⟩)
      · have c' : (jz N V W).2 = 0 := by rw [← lk1]; simpa using c
        rw [if_neg (by simpa using c')] at hgo
        have hp := lk2 c'
        repeat (first | ((with_reducible refine zK ?_); refine zG tbOk rfl rfl rfl rfl ?_) | ((with_reducible refine zL ?_); refine zN tbOk rfl rfl rfl rfl rfl ?_) | ((with_reducible refine zL ?_); refine zc tbOk rfl rfl rfl rfl (Nat.le_of_ble_eq_true rfl) ?_) | ((with_reducible refine yG ?_); refine yH tbOk rfl rfl rfl rfl rfl (by omega) rfl rfl rfl ?_) | refine zB rfl ?_ | with_reducible refine zC ?_ | with_reducible refine zR ?_ | ((with_reducible refine zA ?_ ?_); kernel_rfl))
        refine yV tbOk rfl rfl rfl rfl rfl (by decide) rfl rfl rfl rfl rfl (fun x hx => by simp at hx; subst hx; rfl) (by simp only [List.length_map, List.length_cons, List.length_nil]; omega) (by simp only [List.length_map, List.length_cons, List.length_nil]; omega) ?_
        repeat (first | ((with_reducible refine zI ?_); refine zH rfl ?_) | ((with_reducible refine zE ?_); refine zD rfl ?_) | ((with_reducible refine zK ?_); refine zG tbOk rfl rfl rfl rfl ?_) | ((with_reducible refine zd ?_); refine zf tbOk rfl rfl rfl rfl rfl rfl rfl (Nat.le_of_ble_eq_true rfl) rfl ?_) | ((with_reducible refine zM ?_); refine ze rfl rfl (by omega) ?_)  | refine zJ ?_ | refine zB rfl ?_ | with_reducible refine zC ?_ | with_reducible refine zk ?_ | ((with_reducible refine zA ?_ ?_); kernel_rfl))
        exact ⟨(k + 1, some n, S ++ [(jz N V W).1]), ⟨by omega, hgo, by simp only [List.length_append, List.length_singleton]; omega, hnm⟩, by dsimp only; omega, ⟨rfl, rfl, rfl, rfl, rfl, rfl, trivial⟩, ⟨rfl, rfl, rfl, jJ (by rw [← hp, List.map_append]; rfl), trivial⟩⟩
    | none =>
      simp only at hgo
      repeat (first | ((with_reducible refine zI ?_); refine zH rfl ?_) | ((with_reducible refine k_un ?_); refine yr rfl ?_) | ((with_reducible refine zu ?_); refine yR tbOk rfl rfl ?_) | ((with_reducible refine zM ?_); refine zV rfl rfl rfl ?_)  | refine zJ ?_ | refine zB rfl ?_ | with_reducible refine zC ?_ | with_reducible refine zF ?_ | with_reducible refine zR ?_ | ((with_reducible refine zA ?_ ?_); kernel_rfl) | refine zg rfl (by first | rfl | assumption) ?_)
      refine yI rfl rfl (fun c => ?_) (fun c => ?_)
      · have c' : W.length ≠ 2 := by simp at c; omega
        rw [if_pos (.inl c')] at hgo
        rw [herr _ _ h0 hgo.symm]
        repeat (first | ((with_reducible refine zI ?_); refine zH rfl ?_) | ((with_reducible refine zE ?_); refine zD rfl ?_) | ((with_reducible refine zd ?_); refine zf tbOk rfl rfl rfl rfl rfl rfl rfl (Nat.le_of_ble_eq_true rfl) rfl ?_) | ((with_reducible refine zb ?_); refine zt rfl (by first | rfl | assumption) rfl ?_) | ((with_reducible refine ye ?_); refine yg tbOk rfl rfl rfl rfl rfl ?_) | ((with_reducible refine zM ?_); refine ze rfl rfl (by omega) ?_)  | refine zJ ?_ | refine zB rfl ?_ | refine yL rfl rfl (by first | rfl | assumption) ?_ | with_reducible refine zC ?_ | with_reducible refine zS ?_ | with_reducible refine zh ?_ | with_reducible refine zF ?_ | with_reducible refine zU ?_ | ((with_reducible refine zA ?_ ?_); kernel_rfl) | refine zg rfl (by first | rfl | assumption) ?_)
        refine jT (by first | exact .inr rfl | exact .inl rfl) rfl rfl rfl rfl rfl rfl rfl ?_
        repeat' (first | exact trivial | exact Ren.v _ | exact Ren.sl _ _ | exact Ren.ep _ | exact Ren.ptr _ _ _ _ rfl | exact Ren.bs _ _ _ _ _ rfl | exact Ren.nil _ | exact Ren.own _ _ _ _ ⟨_, rfl⟩ | refine zO ?_ | refine zQ ?_ | refine zP ?_ | refine ⟨?_, ?_⟩)
      have c' : W.length = 2 := by simp at c; omega
      obtain ⟨w1, hw1⟩ := zl (L := W) (k := 1) (by omega)
      have hwb : wAt W 1 = w1 := by unfold wAt; rw [hw1]; rfl
      have hz1 : (W.map svL)[(1 : Int).toNat]? = some (svL w1) := sv_at hw1
      repeat (first | ((with_reducible refine zI ?_); refine zH rfl ?_) | ((with_reducible refine zL ?_); refine za tbOk rfl rfl rfl ?_) | ((with_reducible refine zb ?_); refine zq rfl (by first | rfl | assumption) rfl ?_) | ((with_reducible refine zT ?_); refine zZ tbOk rfl rfl rfl rfl (by assumption) ?_) | ((with_reducible refine zM ?_); refine yp rfl rfl rfl ?_)  | refine zJ ?_ | refine zB rfl ?_ | refine zv rfl rfl (by first | rfl | assumption) ?_ | with_reducible refine zC ?_ )
      refine zm rfl (fun c2 => ?_) (fun c2 => ?_)
      · have c2' : wAt W 0 ≠ progL := fun e => by
          have c3 : yh (strL w0) (strL progL) = false := (show yh (strL w0) (⟨#[112, 114, 111, 103, 114, 97, 109, 109, 101]⟩ : ByteArray) = false by simpa using c2)
          rw [(strEq_L _ _).2 (by rw [← hwa]; exact e)] at c3; cases c3
        rw [if_pos (.inr c2')] at hgo
        rw [herr _ _ h0 hgo.symm]
        repeat (first | ((with_reducible refine zI ?_); refine zH rfl ?_) | ((with_reducible refine zE ?_); refine zD rfl ?_) | ((with_reducible refine zd ?_); refine zf tbOk rfl rfl rfl rfl rfl rfl rfl (Nat.le_of_ble_eq_true rfl) rfl ?_) | ((with_reducible refine ye ?_); refine yg tbOk rfl rfl rfl rfl rfl ?_) | ((with_reducible refine zM ?_); refine ze rfl rfl (by omega) ?_)  | refine zJ ?_ | refine zB rfl ?_ | with_reducible refine zC ?_ | with_reducible refine zS ?_ | with_reducible refine zh ?_ | with_reducible refine zF ?_ | with_reducible refine zU ?_ | ((with_reducible refine zA ?_ ?_); kernel_rfl))
        refine jT (by first | exact .inr rfl | exact .inl rfl) rfl rfl rfl rfl rfl rfl rfl ?_
        repeat' (first | exact trivial | exact Ren.v _ | exact Ren.sl _ _ | exact Ren.ep _ | exact Ren.ptr _ _ _ _ rfl | exact Ren.bs _ _ _ _ _ rfl | exact Ren.nil _ | exact Ren.own _ _ _ _ ⟨_, rfl⟩ | refine zO ?_ | refine zQ ?_ | refine zP ?_ | refine ⟨?_, ?_⟩)
      · have c2' : wAt W 0 = progL := by
          have c3 : yh (strL w0) (strL progL) = true := (show yh (strL w0) (⟨#[112, 114, 111, 103, 114, 97, 109, 109, 101]⟩ : ByteArray) = true by simpa using c2)
          rw [hwa]; exact (strEq_L _ _).1 c3
        rw [if_neg (by rintro (e | e); · exact e c'
                       · exact e c2'), hwb] at hgo
        repeat (first | ((with_reducible refine zI ?_); refine zH rfl ?_) | ((with_reducible refine zE ?_); refine zD rfl ?_) | ((with_reducible refine zK ?_); refine zG tbOk rfl rfl rfl rfl ?_) | ((with_reducible refine zL ?_); refine za tbOk rfl rfl rfl ?_) | ((with_reducible refine zd ?_); refine zf tbOk rfl rfl rfl rfl rfl rfl rfl (Nat.le_of_ble_eq_true rfl) rfl ?_) | ((with_reducible refine zT ?_); refine zZ tbOk rfl rfl rfl rfl (by assumption) ?_) | ((with_reducible refine zM ?_); refine ze rfl rfl (by omega) ?_)  | refine zJ ?_ | refine zB rfl ?_ | with_reducible refine zC ?_ | with_reducible refine zw ?_ | with_reducible refine zF ?_ | with_reducible refine zR ?_ | with_reducible refine yJ ?_ | ((with_reducible refine zr ?_ ?_); rfl) | ((with_reducible refine zA ?_ ?_); kernel_rfl))
        exact ⟨(k + 1, some w1, S), ⟨by omega, hgo, by dsimp only; omega, fun n hn => by injection hn with hn; rw [← hn]; have hm := List.mem_of_getElem? hw1; rw [hW] at hm; have := wl_len (show w1 ∈ wl [] l from hm); simp at this; omega⟩, by dsimp only; omega, ⟨rfl, rfl, rfl, rfl, rfl, rfl, trivial⟩, ⟨rfl, rfl, rfl, rfl, trivial⟩⟩
  · have hge : L.length ≤ k := by simpa using h
    rw [List.drop_of_length_le hge, goL_nil] at hgo
    have e : jV N V s.data.toList = endG N V (.ok (nm, S)) := by
      unfold jV
      rw [if_neg (by simpa using h0)]
      cases hq : jZ s.data.toList with
      | none => rw [hq] at hokb; rw [hokb] at hb; cases hb
      | some L' =>
        rw [hq, Option.getD_some] at hL
        simp only
        rw [hgo, hL]
    rw [e]
    cases nm with
    | none =>
      repeat (first | ((with_reducible refine zI ?_); refine zH rfl ?_) | ((with_reducible refine zE ?_); refine zD rfl ?_) | ((with_reducible refine zd ?_); refine zf tbOk rfl rfl rfl rfl rfl rfl rfl (Nat.le_of_ble_eq_true rfl) rfl ?_) | ((with_reducible refine k_un ?_); refine yr rfl ?_) | ((with_reducible refine ye ?_); refine yg tbOk rfl rfl rfl rfl rfl ?_)  | refine zJ ?_ | refine zB rfl ?_ | with_reducible refine zC ?_ | with_reducible refine zw ?_ | with_reducible refine zS ?_ | with_reducible refine zF ?_ | with_reducible refine yJ ?_ | with_reducible refine zU ?_ | ((with_reducible refine zr ?_ ?_); rfl) | ((with_reducible refine zA ?_ ?_); kernel_rfl) | refine zg rfl (by first | rfl | assumption) ?_)
      refine jT (by first | exact .inr rfl | exact .inl rfl) rfl rfl rfl rfl rfl rfl rfl ?_
      repeat' (first | exact trivial | exact Ren.v _ | exact Ren.sl _ _ | exact Ren.ep _ | exact Ren.ptr _ _ _ _ rfl | exact Ren.bs _ _ _ _ _ rfl | exact Ren.nil _ | exact Ren.own _ _ _ _ ⟨_, rfl⟩ | refine zO ?_ | refine zQ ?_ | refine zP ?_ | refine ⟨?_, ?_⟩)
    | some n =>
      have hnl := hnm n rfl
      have hck := prcheck_A (G := X.G) N V ⟨strL n, S⟩ hG ok (by show (strL n).size ≤ _; rw [jb]; unfold maxLen; omega) (by show S.length ≤ _; unfold maxLen; omega)
      refine jp (s := 86) [] [(10, [.v (.string (strL n)), .sl 5 (S.map St.av)])] rfl trivial ⟨⟨_, _, rfl, .same (.hit .nil)⟩, trivial⟩ ?_
      repeat (first | ((with_reducible refine zI ?_); refine zH rfl ?_) | ((with_reducible refine zL ?_); refine zc tbOk rfl rfl rfl rfl (Nat.le_of_ble_eq_true rfl) ?_) | ((with_reducible refine k_un ?_); refine yr rfl ?_)  | refine zJ ?_ | refine zB rfl ?_ | with_reducible refine zC ?_ | with_reducible refine zw ?_ | with_reducible refine zF ?_ | with_reducible refine zR ?_ | with_reducible refine yJ ?_ | ((with_reducible refine zr ?_ ?_); rfl) | ((with_reducible refine zA ?_ ?_); kernel_rfl) | refine zp rfl (by first | rfl | assumption) ?_)
      refine zo (hck) (by repeat' (first | exact trivial | exact Ren.v _ | exact Ren.sl _ _ | exact Ren.ep _ | exact Ren.ptr _ _ _ _ rfl | exact Ren.bs _ _ _ _ _ rfl | exact Ren.nil _ | exact Ren.own _ _ _ _ ⟨_, rfl⟩ | refine zO ?_ | refine zQ ?_ | refine zP ?_ | refine ⟨?_, ?_⟩)) (by repeat' (first | exact trivial | exact RenB.v _ | exact RenB.sl _ _ | exact RenB.ep _ | exact RenB.ptr _ _ _ _ rfl | refine zW ?_ | refine zX ?_ | refine ⟨?_, ?_⟩)) ?_
      repeat (first | ((with_reducible refine zI ?_); refine zH rfl ?_) | ((with_reducible refine zE ?_); refine zD rfl ?_) | ((with_reducible refine zM ?_); refine zV rfl rfl rfl ?_)  | refine zJ ?_ | refine zB rfl ?_ | with_reducible refine zC ?_ | with_reducible refine zF ?_ | ((with_reducible refine zA ?_ ?_); kernel_rfl))
      refine zm rfl (fun c2 => ?_) (fun c2 => ?_)
      · have c2' : jv N V ⟨strL n, S⟩ ≠ 0 := by simpa using c2
        have e2 : endG N V (.ok (some n, S)) = (Pg.zer, 0, jv N V ⟨strL n, S⟩) := if_pos c2'
        rw [e2]
        repeat (first | ((with_reducible refine zI ?_); refine zH rfl ?_) | ((with_reducible refine zE ?_); refine zD rfl ?_) | ((with_reducible refine zd ?_); refine zf tbOk rfl rfl rfl rfl rfl rfl rfl (Nat.le_of_ble_eq_true rfl) rfl ?_) | ((with_reducible refine ye ?_); refine yg tbOk rfl rfl rfl rfl rfl ?_)  | refine zJ ?_ | refine zB rfl ?_ | with_reducible refine zC ?_ | with_reducible refine zS ?_ | with_reducible refine zF ?_ | with_reducible refine zU ?_ | ((with_reducible refine zA ?_ ?_); kernel_rfl))
        refine jT (by first | exact .inr rfl | exact .inl rfl) rfl rfl rfl rfl rfl rfl rfl ?_
        repeat' (first | exact trivial | exact Ren.v _ | exact Ren.sl _ _ | exact Ren.ep _ | exact Ren.ptr _ _ _ _ rfl | exact Ren.bs _ _ _ _ _ rfl | exact Ren.nil _ | exact Ren.own _ _ _ _ ⟨_, rfl⟩ | refine zO ?_ | refine zQ ?_ | refine zP ?_ | refine ⟨?_, ?_⟩)
      · have c2' : ¬ jv N V ⟨strL n, S⟩ ≠ 0 := by simpa using c2
        have e2 : endG N V (.ok (some n, S)) = (⟨strL n, S⟩, 0, 0) := if_neg c2'
        rw [e2]
        repeat (first | ((with_reducible refine zE ?_); refine zD rfl ?_) | ((with_reducible refine zL ?_); refine zc tbOk rfl rfl rfl rfl (Nat.le_of_ble_eq_true rfl) ?_) | ((with_reducible refine zd ?_); refine zf tbOk rfl rfl rfl rfl rfl rfl rfl (Nat.le_of_ble_eq_true rfl) rfl ?_)  | refine zJ ?_ | refine zB rfl ?_ | with_reducible refine zC ?_ | with_reducible refine zF ?_ | with_reducible refine zR ?_ | with_reducible refine zU ?_ | ((with_reducible refine zA ?_ ?_); kernel_rfl))
        refine jT (by first | exact .inr rfl | exact .inl rfl) rfl rfl rfl rfl rfl rfl rfl ?_
        repeat' (first | exact trivial | exact Ren.v _ | exact Ren.sl _ _ | exact Ren.ep _ | exact Ren.ptr _ _ _ _ rfl | exact Ren.bs _ _ _ _ _ rfl | exact Ren.nil _ | exact Ren.own _ _ _ _ ⟨_, rfl⟩ | refine zO ?_ | refine zQ ?_ | refine zP ?_ | refine ⟨?_, ?_⟩)
end Go.Proofs.YtggngllfnboehaaGreatDoor
