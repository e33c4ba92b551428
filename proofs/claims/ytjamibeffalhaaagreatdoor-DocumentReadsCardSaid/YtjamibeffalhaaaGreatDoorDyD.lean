/- The reference LockOf, by the abstract machine; conditions: none. -/
import Derived.Test.YtjamibeffalhaaaGreatDoorDyC
import Derived.Test.YtjamibeffalhaaaGreatDoorAbsJ
set_option linter.unusedVariables false
set_option linter.unusedSimpArgs false
namespace Go.Proofs.YtjamibeffalhaaaGreatDoor
open Go Go.RowKit
set_option maxRecDepth 10000
variable {G : Nat → Option (List Value)}
set_option maxHeartbeats 16000000 in
theorem uD (N : List Nd) (V : List Dv) (W : List (List UInt8)) (ok : NwOk N V) (hn : netE N V = 0) (hW0 : 0 < W.length) (h0 : wAt W 0 = bC) (hw : ∀ w ∈ W, w.length ≤ 1000000) :
    ∃ x : Lk × Bool × Bool, (∀ K, xM K x (jU V K [] W)) ∧ ∀ G, zz Tryz.prog G 47 [jo N V, .sl 1 (W.map svL)] [] (.tu [x.1.av, .v (.bool x.2.1), .v (.bool x.2.2)]) [] := by
  by_cases h5 : W.length ≠ 5
  · refine ⟨(⟨0, 0, 0⟩, false, false), fun K => fP (.inl h5) _ _, fun G => ?_⟩
    refine zb tbOk (zc Tryz.func47 (by kernel_rfl) rfl) Tryz.func47 rfl _ Tryz.ntmps47 (Nat.le_of_ble_eq_true rfl) fun X hX => ?_
    subst hX
    repeat (first | ((with_reducible refine zK ?_); refine zJ rfl ?_) | ((with_reducible refine zE ?_); refine zF rfl ?_) | ((with_reducible refine yR ?_); refine yQ tbOk rfl rfl ?_) | ((with_reducible refine yr ?_); refine yu rfl rfl rfl ?_) | ((with_reducible refine zt ?_); refine yH tbOk rfl rfl ?_) | ((with_reducible refine zQ ?_); refine zT rfl rfl rfl ?_)  | refine zL ?_ | refine zB rfl ?_ | with_reducible (first | refine zG ?_ | refine zH ?_) | ((with_reducible refine zA ?_ ?_); kernel_rfl))
    refine zv rfl rfl (fun c => ?_) (fun c => ?_)
    rotate_left
    · exact absurd (by simp at c; omega) h5
    repeat (first | ((with_reducible refine zK ?_); refine zJ rfl ?_) | ((with_reducible refine zE ?_); refine zF rfl ?_) | ((with_reducible refine zp ?_); refine zq tbOk rfl rfl rfl rfl rfl rfl rfl (Nat.le_of_ble_eq_true rfl) rfl ?_) | ((with_reducible refine za ?_); refine zh rfl (by first | rfl | assumption) rfl ?_) | ((with_reducible refine yM ?_); refine yN tbOk rfl rfl rfl rfl rfl ?_)  | refine zL ?_ | refine zB rfl ?_ | refine yA rfl rfl (by first | rfl | assumption) ?_ | refine jT rfl rfl rfl ?_ | with_reducible (first | refine zG ?_ | refine zO ?_ | refine zH ?_ | refine zN ?_) | ((with_reducible refine zA ?_ ?_); kernel_rfl) | refine zn rfl (by first | rfl | assumption) ?_)
    refine yU (by first | exact .inr rfl | exact .inl rfl) rfl rfl rfl rfl rfl rfl rfl ?_
    repeat' (first | exact trivial | exact Ren.v _ | exact Ren.sl _ _ | exact Ren.ep _ | exact Ren.ptr _ _ _ _ rfl | exact Ren.bs _ _ _ _ _ rfl | exact Ren.nil _ | exact Ren.own _ _ _ _ ⟨_, rfl⟩ | refine zi ?_ | refine zj ?_ | refine zl ?_ | refine ⟨?_, ?_⟩)
  have h5 : W.length = 5 := by omega
  have l0 : ((((W.map svL).length : Nat) : Int) != 5) = false := by simp; omega
  have l1 : (!decide ((((W.map svL).length : Nat) : Int) = 5)) = false := by simp; omega
  have z0 : (W.map svL)[(0 : Int).toNat]? = some (svL (wAt W 0)) := yw h5 (by decide)
  have z1 : (W.map svL)[(1 : Int).toNat]? = some (svL (wAt W 1)) := yw h5 (by decide)
  have z2 : (W.map svL)[(2 : Int).toNat]? = some (svL (wAt W 2)) := yw h5 (by decide)
  have z3 : (W.map svL)[(3 : Int).toNat]? = some (svL (wAt W 3)) := yw h5 (by decide)
  have z4 : (W.map svL)[(4 : Int).toNat]? = some (svL (wAt W 4)) := yw h5 (by decide)
  have hl4 : (wAt W 4).length ≤ 1000000 := by
    obtain ⟨x, hx⟩ := zd (L := W) (k := 4) (by omega)
    have : wAt W 4 = x := by unfold wAt; rw [hx]; rfl
    rw [this]; exact hw x (List.mem_of_getElem? hx)
  have e0 : (!yI (strL (wAt W 0)) ⟨#[108, 111, 99, 107]⟩) = false := by rw [qr (b := #[108, 111, 99, 107]) h0]; rfl
  by_cases ho : wAt W 2 = rA
  · have eo : (!yI (strL (wAt W 2)) ⟨#[111, 112, 101, 110]⟩) = false := by rw [qr (b := #[111, 112, 101, 110]) ho]; rfl
    have ec : yI (strL (wAt W 2)) ⟨#[99, 108, 111, 115, 101, 100]⟩ = false := qq (b := #[99, 108, 111, 115, 101, 100]) (by rw [ho]; decide)
    have hpos : posR (wAt W 2) = 1 := by rw [ho]; decide
    by_cases hk : wAt W 3 = keyL
    rotate_left
    · have ek : (!yI (strL (wAt W 3)) ⟨#[107, 101, 121]⟩) = true := by rw [qq (b := #[107, 101, 121]) hk]; rfl
      refine ⟨(⟨0, 0, 0⟩, false, false), fun K => fP (.inr (.inl hk)) _ _, fun G => ?_⟩
      refine zb tbOk (zc Tryz.func47 (by kernel_rfl) rfl) Tryz.func47 rfl _ Tryz.ntmps47 (Nat.le_of_ble_eq_true rfl) fun X hX => ?_
      subst hX
      repeat (first | ((with_reducible refine zK ?_); refine zJ rfl ?_) | ((with_reducible refine zE ?_); refine zF rfl ?_) | ((with_reducible refine zR ?_); refine zW tbOk rfl rfl rfl ?_) | ((with_reducible refine zp ?_); refine zq tbOk rfl rfl rfl rfl rfl rfl rfl (Nat.le_of_ble_eq_true rfl) rfl ?_) | ((with_reducible refine yR ?_); refine yQ tbOk rfl rfl ?_) | ((with_reducible refine yr ?_); refine yu rfl rfl rfl ?_) | ((with_reducible refine za ?_); refine zf rfl (by first | rfl | assumption) rfl ?_) | ((with_reducible refine zU ?_); refine zX tbOk rfl rfl rfl rfl (by assumption) ?_) | ((with_reducible refine yM ?_); refine yN tbOk rfl rfl rfl rfl rfl ?_) | ((with_reducible refine zt ?_); refine yH tbOk rfl rfl ?_) | ((with_reducible refine zQ ?_); (first | refine zT rfl rfl rfl ?_ | refine yh rfl rfl rfl ?_))  | refine zL ?_ | refine zB rfl ?_ | refine yE rfl rfl (by first | rfl | assumption) ?_ | refine zw rfl rfl (by first | rfl | assumption) ?_ | with_reducible (first | refine zG ?_ | refine zO ?_ | refine zH ?_ | refine zN ?_) | ((with_reducible refine zA ?_ ?_); kernel_rfl) | refine zn rfl (by first | rfl | assumption) ?_)
      refine yU (by first | exact .inr rfl | exact .inl rfl) rfl rfl rfl rfl rfl rfl rfl ?_
      repeat' (first | exact trivial | exact Ren.v _ | exact Ren.sl _ _ | exact Ren.ep _ | exact Ren.ptr _ _ _ _ rfl | exact Ren.bs _ _ _ _ _ rfl | exact Ren.nil _ | exact Ren.own _ _ _ _ ⟨_, rfl⟩ | refine zi ?_ | refine zj ?_ | refine zl ?_ | refine ⟨?_, ?_⟩)
    have ek : (!yI (strL (wAt W 3)) ⟨#[107, 101, 121]⟩) = false := by rw [qr (b := #[107, 101, 121]) hk]; rfl
    refine ⟨_, fun K => lI h5 hk (.inl ho), fun G => ?_⟩
    have hn4 := aZ (G := G) (wAt W 4) hl4
    have hdv := rdev_A (G := G) N V (strL (wAt W 1)) ok
    unfold devF at hdv
    rw [if_neg (by simpa using hn), yy] at hdv
    refine zb tbOk (zc Tryz.func47 (by kernel_rfl) rfl) Tryz.func47 rfl _ Tryz.ntmps47 (Nat.le_of_ble_eq_true rfl) fun X hX => ?_
    subst hX
    repeat (first | ((with_reducible refine zK ?_); refine zJ rfl ?_) | ((with_reducible refine zE ?_); refine zF rfl ?_) | ((with_reducible refine zR ?_); refine zW tbOk rfl rfl rfl ?_) | ((with_reducible refine yR ?_); refine yQ tbOk rfl rfl ?_) | ((with_reducible refine yr ?_); refine yu rfl rfl rfl ?_) | ((with_reducible refine za ?_); refine zf rfl (by first | rfl | assumption) rfl ?_) | ((with_reducible refine zU ?_); refine zX tbOk rfl rfl rfl rfl (by assumption) ?_) | ((with_reducible refine zt ?_); refine yH tbOk rfl rfl ?_) | ((with_reducible refine zQ ?_); (first | refine zT rfl rfl rfl ?_ | refine yh rfl rfl rfl ?_))  | refine zL ?_ | refine zB rfl ?_ | refine yE rfl rfl (by first | rfl | assumption) ?_ | refine zw rfl rfl (by first | rfl | assumption) ?_ | with_reducible (first | refine zG ?_ | refine zH ?_ | refine zS ?_) | ((with_reducible refine zA ?_ ?_); kernel_rfl) | refine yF rfl (by first | rfl | assumption) ?_)
    refine zC (hn4) ?_
    repeat (first | ((with_reducible refine zK ?_); refine zJ rfl ?_) | ((with_reducible refine zE ?_); refine zF rfl ?_) | ((with_reducible refine zR ?_); (first | refine zk tbOk rfl rfl rfl rfl (Nat.le_of_ble_eq_true rfl) ?_ | refine zW tbOk rfl rfl rfl ?_)) | ((with_reducible refine ye ?_); refine yd rfl rfl ?_) | ((with_reducible refine zU ?_); refine zX tbOk rfl rfl rfl rfl (by assumption) ?_)  | refine zL ?_ | refine zB rfl ?_ | with_reducible (first | refine zG ?_ | refine zH ?_) | ((with_reducible refine yZ mixd ?_ ?_); kernel_rfl))
    refine zC (hdv) ?_
    repeat (first | ((with_reducible refine zK ?_); refine zJ rfl ?_) | ((with_reducible refine zE ?_); refine zF rfl ?_) | ((with_reducible refine zM ?_); refine zI tbOk rfl rfl rfl rfl ?_) | ((with_reducible refine zR ?_); (first | refine zP tbOk rfl rfl rfl rfl rfl ?_ | refine zk tbOk rfl rfl rfl rfl (Nat.le_of_ble_eq_true rfl) ?_ | refine zW tbOk rfl rfl rfl ?_)) | ((with_reducible refine zp ?_); refine zq tbOk rfl rfl rfl rfl rfl rfl rfl (Nat.le_of_ble_eq_true rfl) rfl ?_) | ((with_reducible refine zU ?_); refine zX tbOk rfl rfl rfl rfl (by assumption) ?_) | ((with_reducible refine yM ?_); refine yN tbOk rfl rfl rfl rfl rfl ?_) | ((with_reducible refine zQ ?_); (first | refine zT rfl rfl rfl ?_ | refine yh rfl rfl rfl ?_))  | refine zL ?_ | refine yf (by kernel_rfl) ?_ | refine zB rfl ?_ | with_reducible (first | refine zG ?_ | refine zH ?_ | refine zS ?_ | refine zN ?_) | ((with_reducible refine zA ?_ ?_); kernel_rfl) | refine yF rfl (by first | rfl | assumption) ?_)
    refine yU (by first | exact .inr rfl | exact .inl rfl) rfl rfl rfl rfl rfl rfl rfl ?_
    rw [show posR (wAt W 2) = _ from hpos]
    repeat' (first | exact trivial | exact Ren.v _ | exact Ren.sl _ _ | exact Ren.ep _ | exact Ren.ptr _ _ _ _ rfl | exact Ren.bs _ _ _ _ _ rfl | exact Ren.nil _ | exact Ren.own _ _ _ _ ⟨_, rfl⟩ | refine zi ?_ | refine zj ?_ | refine zl ?_ | refine ⟨?_, ?_⟩)
  have eo : (!yI (strL (wAt W 2)) ⟨#[111, 112, 101, 110]⟩) = true := by rw [qq (b := #[111, 112, 101, 110]) ho]; rfl
  by_cases hc : wAt W 2 = dT
  · have ec : yI (strL (wAt W 2)) ⟨#[99, 108, 111, 115, 101, 100]⟩ = true := qr (b := #[99, 108, 111, 115, 101, 100]) hc
    have en : (!yI (strL (wAt W 2)) ⟨#[99, 108, 111, 115, 101, 100]⟩) = false := by rw [ec]; rfl
    have hpos : posR (wAt W 2) = 2 := by rw [hc]; decide
    by_cases hk : wAt W 3 = keyL
    rotate_left
    · have ek : (!yI (strL (wAt W 3)) ⟨#[107, 101, 121]⟩) = true := by rw [qq (b := #[107, 101, 121]) hk]; rfl
      refine ⟨(⟨0, 0, 0⟩, false, false), fun K => fP (.inr (.inl hk)) _ _, fun G => ?_⟩
      refine zb tbOk (zc Tryz.func47 (by kernel_rfl) rfl) Tryz.func47 rfl _ Tryz.ntmps47 (Nat.le_of_ble_eq_true rfl) fun X hX => ?_
      subst hX
      repeat (first | ((with_reducible refine zK ?_); refine zJ rfl ?_) | ((with_reducible refine zE ?_); refine zF rfl ?_) | ((with_reducible refine zR ?_); refine zW tbOk rfl rfl rfl ?_) | ((with_reducible refine zp ?_); refine zq tbOk rfl rfl rfl rfl rfl rfl rfl (Nat.le_of_ble_eq_true rfl) rfl ?_) | ((with_reducible refine yR ?_); refine yQ tbOk rfl rfl ?_) | ((with_reducible refine yr ?_); refine yu rfl rfl rfl ?_) | ((with_reducible refine za ?_); (first | refine zh rfl (by first | rfl | assumption) rfl ?_ | refine zf rfl (by first | rfl | assumption) rfl ?_)) | ((with_reducible refine zU ?_); refine zX tbOk rfl rfl rfl rfl (by assumption) ?_) | ((with_reducible refine yM ?_); refine yN tbOk rfl rfl rfl rfl rfl ?_) | ((with_reducible refine zt ?_); refine yH tbOk rfl rfl ?_) | ((with_reducible refine zQ ?_); (first | refine zT rfl rfl rfl ?_ | refine yh rfl rfl rfl ?_))  | refine zL ?_ | refine zB rfl ?_ | refine yC rfl rfl (by first | rfl | assumption) ?_ | refine zw rfl rfl (by first | rfl | assumption) ?_ | with_reducible (first | refine zG ?_ | refine zO ?_ | refine zH ?_ | refine zN ?_) | ((with_reducible refine zA ?_ ?_); kernel_rfl) | refine zn rfl (by first | rfl | assumption) ?_)
      refine yU (by first | exact .inr rfl | exact .inl rfl) rfl rfl rfl rfl rfl rfl rfl ?_
      repeat' (first | exact trivial | exact Ren.v _ | exact Ren.sl _ _ | exact Ren.ep _ | exact Ren.ptr _ _ _ _ rfl | exact Ren.bs _ _ _ _ _ rfl | exact Ren.nil _ | exact Ren.own _ _ _ _ ⟨_, rfl⟩ | refine zi ?_ | refine zj ?_ | refine zl ?_ | refine ⟨?_, ?_⟩)
    have ek : (!yI (strL (wAt W 3)) ⟨#[107, 101, 121]⟩) = false := by rw [qr (b := #[107, 101, 121]) hk]; rfl
    refine ⟨_, fun K => lI h5 hk (.inr hc), fun G => ?_⟩
    have hn4 := aZ (G := G) (wAt W 4) hl4
    have hdv := rdev_A (G := G) N V (strL (wAt W 1)) ok
    unfold devF at hdv
    rw [if_neg (by simpa using hn), yy] at hdv
    refine zb tbOk (zc Tryz.func47 (by kernel_rfl) rfl) Tryz.func47 rfl _ Tryz.ntmps47 (Nat.le_of_ble_eq_true rfl) fun X hX => ?_
    subst hX
    repeat (first | ((with_reducible refine zK ?_); refine zJ rfl ?_) | ((with_reducible refine zE ?_); refine zF rfl ?_) | ((with_reducible refine zR ?_); refine zW tbOk rfl rfl rfl ?_) | ((with_reducible refine yR ?_); refine yQ tbOk rfl rfl ?_) | ((with_reducible refine yr ?_); refine yu rfl rfl rfl ?_) | ((with_reducible refine za ?_); (first | refine zh rfl (by first | rfl | assumption) rfl ?_ | refine zf rfl (by first | rfl | assumption) rfl ?_)) | ((with_reducible refine zU ?_); refine zX tbOk rfl rfl rfl rfl (by assumption) ?_) | ((with_reducible refine zt ?_); refine yH tbOk rfl rfl ?_) | ((with_reducible refine zQ ?_); (first | refine zT rfl rfl rfl ?_ | refine yh rfl rfl rfl ?_))  | refine zL ?_ | refine zB rfl ?_ | refine yC rfl rfl (by first | rfl | assumption) ?_ | refine zw rfl rfl (by first | rfl | assumption) ?_ | with_reducible (first | refine zG ?_ | refine zH ?_ | refine zS ?_) | ((with_reducible refine zA ?_ ?_); kernel_rfl) | refine yF rfl (by first | rfl | assumption) ?_)
    refine zC (hn4) ?_
    repeat (first | ((with_reducible refine zK ?_); refine zJ rfl ?_) | ((with_reducible refine zE ?_); refine zF rfl ?_) | ((with_reducible refine zR ?_); (first | refine zk tbOk rfl rfl rfl rfl (Nat.le_of_ble_eq_true rfl) ?_ | refine zW tbOk rfl rfl rfl ?_)) | ((with_reducible refine ye ?_); refine yd rfl rfl ?_) | ((with_reducible refine zU ?_); refine zX tbOk rfl rfl rfl rfl (by assumption) ?_)  | refine zL ?_ | refine zB rfl ?_ | with_reducible (first | refine zG ?_ | refine zH ?_) | ((with_reducible refine yZ mixd ?_ ?_); kernel_rfl))
    refine zC (hdv) ?_
    repeat (first | ((with_reducible refine zK ?_); refine zJ rfl ?_) | ((with_reducible refine zE ?_); refine zF rfl ?_) | ((with_reducible refine zM ?_); refine zI tbOk rfl rfl rfl rfl ?_) | ((with_reducible refine zR ?_); (first | refine zP tbOk rfl rfl rfl rfl rfl ?_ | refine zk tbOk rfl rfl rfl rfl (Nat.le_of_ble_eq_true rfl) ?_ | refine zW tbOk rfl rfl rfl ?_)) | ((with_reducible refine zp ?_); refine zq tbOk rfl rfl rfl rfl rfl rfl rfl (Nat.le_of_ble_eq_true rfl) rfl ?_) | ((with_reducible refine zU ?_); refine zX tbOk rfl rfl rfl rfl (by assumption) ?_) | ((with_reducible refine yM ?_); refine yN tbOk rfl rfl rfl rfl rfl ?_) | ((with_reducible refine zQ ?_); (first | refine zT rfl rfl rfl ?_ | refine yh rfl rfl rfl ?_))  | refine zL ?_ | refine yf (by kernel_rfl) ?_ | refine zB rfl ?_ | with_reducible (first | refine zG ?_ | refine zH ?_ | refine zN ?_) | ((with_reducible refine zA ?_ ?_); kernel_rfl) | refine zn rfl (by first | rfl | assumption) ?_)
    refine yU (by first | exact .inr rfl | exact .inl rfl) rfl rfl rfl rfl rfl rfl rfl ?_
    rw [show posR (wAt W 2) = _ from hpos]
    repeat' (first | exact trivial | exact Ren.v _ | exact Ren.sl _ _ | exact Ren.ep _ | exact Ren.ptr _ _ _ _ rfl | exact Ren.bs _ _ _ _ _ rfl | exact Ren.nil _ | exact Ren.own _ _ _ _ ⟨_, rfl⟩ | refine zi ?_ | refine zj ?_ | refine zl ?_ | refine ⟨?_, ?_⟩)
  have en : (!yI (strL (wAt W 2)) ⟨#[99, 108, 111, 115, 101, 100]⟩) = true := by rw [qq (b := #[99, 108, 111, 115, 101, 100]) hc]; rfl
  refine ⟨(⟨0, 0, 0⟩, false, false), fun K => fP (.inr (.inr ⟨ho, hc⟩)) _ _, fun G => ?_⟩
  refine zb tbOk (zc Tryz.func47 (by kernel_rfl) rfl) Tryz.func47 rfl _ Tryz.ntmps47 (Nat.le_of_ble_eq_true rfl) fun X hX => ?_
  subst hX
  repeat (first | ((with_reducible refine zK ?_); refine zJ rfl ?_) | ((with_reducible refine zE ?_); refine zF rfl ?_) | ((with_reducible refine zR ?_); refine zW tbOk rfl rfl rfl ?_) | ((with_reducible refine zp ?_); refine zq tbOk rfl rfl rfl rfl rfl rfl rfl (Nat.le_of_ble_eq_true rfl) rfl ?_) | ((with_reducible refine yR ?_); refine yQ tbOk rfl rfl ?_) | ((with_reducible refine yr ?_); refine yu rfl rfl rfl ?_) | ((with_reducible refine za ?_); (first | refine zh rfl (by first | rfl | assumption) rfl ?_ | refine zf rfl (by first | rfl | assumption) rfl ?_)) | ((with_reducible refine zU ?_); refine zX tbOk rfl rfl rfl rfl (by assumption) ?_) | ((with_reducible refine yM ?_); refine yN tbOk rfl rfl rfl rfl rfl ?_) | ((with_reducible refine zt ?_); refine yH tbOk rfl rfl ?_) | ((with_reducible refine zQ ?_); (first | refine zT rfl rfl rfl ?_ | refine yh rfl rfl rfl ?_))  | refine zL ?_ | refine zB rfl ?_ | refine yC rfl rfl (by first | rfl | assumption) ?_ | refine zw rfl rfl (by first | rfl | assumption) ?_ | refine yA rfl rfl (by first | rfl | assumption) ?_ | with_reducible (first | refine zG ?_ | refine zO ?_ | refine zH ?_ | refine zN ?_) | ((with_reducible refine zA ?_ ?_); kernel_rfl) | refine zn rfl (by first | rfl | assumption) ?_)
  refine yU (by first | exact .inr rfl | exact .inl rfl) rfl rfl rfl rfl rfl rfl rfl ?_
  repeat' (first | exact trivial | exact Ren.v _ | exact Ren.sl _ _ | exact Ren.ep _ | exact Ren.ptr _ _ _ _ rfl | exact Ren.bs _ _ _ _ _ rfl | exact Ren.nil _ | exact Ren.own _ _ _ _ ⟨_, rfl⟩ | refine zi ?_ | refine zj ?_ | refine zl ?_ | refine ⟨?_, ?_⟩)
end Go.Proofs.YtjamibeffalhaaaGreatDoor
