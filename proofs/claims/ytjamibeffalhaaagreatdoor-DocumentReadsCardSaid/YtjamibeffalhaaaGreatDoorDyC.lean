/- The references first and LockOf, by the abstract machine; conditions: none. -/
import Derived.Test.YtjamibeffalhaaaGreatDoorDyP
set_option linter.unusedVariables false
set_option linter.unusedSimpArgs false
namespace Go.Proofs.YtjamibeffalhaaaGreatDoor
open Go Go.RowKit
set_option maxRecDepth 10000
variable {G : Nat → Option (List Value)}
section
variable {P : Program} {X : Ctx} {n : Nat} {σ : AS} {Q : Exit → AS → Prop}
/-- A state is cut down to what is named. -/
theorem fU (lT : (Nat → Nat) → List (Nat × AV)) (lH : (Nat → Nat) → List (Nat × Cont)) {c : Code} (h1 : allT σ (lT fun s => (σ.H s).k)) (h2 : allH σ (lH fun s => (σ.H s).k)) (h : ∀ v, AWp P X n c Q (st v (lT v) (lH v))) : AWp P X n c Q σ := AWp.weak (oL h1 h2) (h _)
end
theorem yw {W : List (List UInt8)} {k n : Nat} (h : W.length = n) (hk : k < n) : (W.map svL)[((k : Nat) : Int).toNat]? = some (svL (wAt W k)) := jH (by omega)
theorem qU {W : List (List UInt8)} {k : Nat} (h : k < W.length) (P A : List (List UInt8)) : valR ([] :: P) (W.drop k) A = valR P (W.drop (k + 1)) (A ++ [wAt W k]) := by
  obtain ⟨x, hx⟩ := zd h
  rw [yT hx, wJ]
  unfold wAt
  rw [hx]; rfl
theorem eO {W : List (List UInt8)} {k : Nat} (h : k < W.length) {p : List UInt8} (hp : p ≠ []) (e : wAt W k = p) (P A : List (List UInt8)) : valR (p :: P) (W.drop k) A = valR P (W.drop (k + 1)) A := by
  obtain ⟨x, hx⟩ := zd h
  have : x = p := by rw [← e]; unfold wAt; rw [hx]; rfl
  rw [yT hx, this, valR_eq hp]
theorem eM {W : List (List UInt8)} {k : Nat} (h : k < W.length) {p : List UInt8} (hp : p ≠ []) (e : ¬ wAt W k = p) (P A : List (List UInt8)) : valR (p :: P) (W.drop k) A = none := by
  obtain ⟨x, hx⟩ := zd h
  have : x ≠ p := fun q => e (by rw [← q]; unfold wAt; rw [hx]; rfl)
  rw [yT hx, valR_ne hp this]
theorem uU {W A : List (List UInt8)} (h : W.length = 16) (hA : valR yS W [] = some A) : sX (docR A, docB A) (jI W) := by rw [qL h, hA]; exact wZ A
set_option maxHeartbeats 16000000 in
theorem rC (W : List (List UInt8)) (h16 : W.length = 16) (hl : ∀ k, k < 16 → (wAt W k).length ≤ 1000000)
    (e2 : (!yI (strL (wAt W 2)) ⟨#[115, 116, 97, 116, 101]⟩) = false) (e4 : (!yI (strL (wAt W 4)) ⟨#[114, 111, 117, 110, 100]⟩) = false) (e6 : (!yI (strL (wAt W 6)) ⟨#[115, 97, 102, 101]⟩) = false) (e8 : (!yI (strL (wAt W 8)) ⟨#[105, 115, 115, 117, 101, 114]⟩) = false)
    (e10 : (!yI (strL (wAt W 10)) ⟨#[104, 111, 108, 100, 101, 114]⟩) = false) (e12 : (!yI (strL (wAt W 12)) ⟨#[102, 114, 111, 109]⟩) = false) (e14 : (!yI (strL (wAt W 14)) ⟨#[117, 110, 116, 105, 108]⟩) = false) :
    zz Tryz.prog G 45 [.sl 1 (W.map svL)] [] (.tu [.ag (ncD (docR [wAt W 0, wAt W 1, wAt W 3, wAt W 5, wAt W 7, wAt W 9, wAt W 11, wAt W 13, wAt W 15]) nilA nilA nilA), .v (.bool (docB [wAt W 0, wAt W 1, wAt W 3, wAt W 5, wAt W 7, wAt W 9, wAt W 11, wAt W 13, wAt W 15]))]) [] := by
  have l0 : ((((W.map svL).length : Nat) : Int) != 16) = false := by simp; omega
  have l1 : (!decide ((((W.map svL).length : Nat) : Int) = 16)) = false := by simp; omega
  have z0' : (W.map svL)[(0 : Int).toNat]? = some (svL (wAt W 0)) := yw h16 (by decide)
  have z1' : (W.map svL)[(1 : Int).toNat]? = some (svL (wAt W 1)) := yw h16 (by decide)
  have z2' : (W.map svL)[(2 : Int).toNat]? = some (svL (wAt W 2)) := yw h16 (by decide)
  have z3' : (W.map svL)[(3 : Int).toNat]? = some (svL (wAt W 3)) := yw h16 (by decide)
  have z4' : (W.map svL)[(4 : Int).toNat]? = some (svL (wAt W 4)) := yw h16 (by decide)
  have z5' : (W.map svL)[(5 : Int).toNat]? = some (svL (wAt W 5)) := yw h16 (by decide)
  have z6' : (W.map svL)[(6 : Int).toNat]? = some (svL (wAt W 6)) := yw h16 (by decide)
  have z7' : (W.map svL)[(7 : Int).toNat]? = some (svL (wAt W 7)) := yw h16 (by decide)
  have z8' : (W.map svL)[(8 : Int).toNat]? = some (svL (wAt W 8)) := yw h16 (by decide)
  have z9' : (W.map svL)[(9 : Int).toNat]? = some (svL (wAt W 9)) := yw h16 (by decide)
  have z10' : (W.map svL)[(10 : Int).toNat]? = some (svL (wAt W 10)) := yw h16 (by decide)
  have z11' : (W.map svL)[(11 : Int).toNat]? = some (svL (wAt W 11)) := yw h16 (by decide)
  have z12' : (W.map svL)[(12 : Int).toNat]? = some (svL (wAt W 12)) := yw h16 (by decide)
  have z13' : (W.map svL)[(13 : Int).toNat]? = some (svL (wAt W 13)) := yw h16 (by decide)
  have z14' : (W.map svL)[(14 : Int).toNat]? = some (svL (wAt W 14)) := yw h16 (by decide)
  have z15' : (W.map svL)[(15 : Int).toNat]? = some (svL (wAt W 15)) := yw h16 (by decide)
  have hk1 := hl 1 (by decide)
  have hk5 := hl 5 (by decide)
  have hk7 := hl 7 (by decide)
  have hk13 := hl 13 (by decide)
  have hk15 := hl 15 (by decide)
  have hx1 := pG (G := G) [] bM (wAt W 0) (by decide)
  have hx2 := pG (G := G) [] qx (wAt W 3) (by decide)
  have n1 := aZ (G := G) (wAt W 1) hk1
  have n2 := aZ (G := G) (wAt W 5) hk5
  have n3 := aZ (G := G) (wAt W 7) hk7
  have n4 := aZ (G := G) (wAt W 13) hk13
  have n5 := aZ (G := G) (wAt W 15) hk15
  obtain ⟨B, hB⟩ : ∃ B, B = docB [wAt W 0, wAt W 1, wAt W 3, wAt W 5, wAt W 7, wAt W 9, wAt W 11, wAt W 13, wAt W 15] := ⟨_, rfl⟩
  rw [← hB]
  replace hB : B = (decide (0 < idxR (wAt W 0) 1 bM) && decide (0 < idxR (wAt W 3) 1 qx) && (numT (wAt W 1)).isSome && (numT (wAt W 5)).isSome && (numT (wAt W 7)).isSome && (numT (wAt W 13)).isSome && (numT (wAt W 15)).isSome) := hB
  obtain ⟨D, hD⟩ : ∃ D, D = docR [wAt W 0, wAt W 1, wAt W 3, wAt W 5, wAt W 7, wAt W 9, wAt W 11, wAt W 13, wAt W 15] := ⟨_, rfl⟩
  rw [← hD]
  replace hD : D = ⟨(numT (wAt W 1)).getD 0, idxR (wAt W 0) 1 bM, idxR (wAt W 3) 1 qx, (numT (wAt W 5)).getD 0, [], (numT (wAt W 7)).getD 0, [], strL (wAt W 9), strL (wAt W 11), (numT (wAt W 13)).getD 0, (numT (wAt W 15)).getD 0, []⟩ := hD
  generalize idxR (wAt W 0) 1 bM = kI at *
  generalize idxR (wAt W 3) 1 qx = sI at *
  generalize (numT (wAt W 1)).isSome = b1 at *
  generalize (numT (wAt W 5)).isSome = b2 at *
  generalize (numT (wAt W 7)).isSome = b3 at *
  generalize (numT (wAt W 13)).isSome = b4 at *
  generalize (numT (wAt W 15)).isSome = b5 at *
  generalize (numT (wAt W 1)).getD 0 = m1 at *
  generalize (numT (wAt W 5)).getD 0 = m2 at *
  generalize (numT (wAt W 7)).getD 0 = m3 at *
  generalize (numT (wAt W 13)).getD 0 = m4 at *
  generalize (numT (wAt W 15)).getD 0 = m5 at *
  refine zb tbOk (zc Tryz.func45 (by kernel_rfl) rfl) Tryz.func45 rfl _ Tryz.ntmps45 (Nat.le_of_ble_eq_true rfl) fun X hX => ?_
  subst hX
  repeat (first | ((with_reducible refine zK ?_); refine zJ rfl ?_) | ((with_reducible refine zE ?_); refine zF rfl ?_) | ((with_reducible refine zR ?_); refine zW tbOk rfl rfl rfl ?_) | ((with_reducible refine yR ?_); refine yQ tbOk rfl rfl ?_) | ((with_reducible refine za ?_); refine zf rfl (by first | rfl | assumption) rfl ?_) | ((with_reducible refine zU ?_); refine zX tbOk rfl rfl rfl rfl (by assumption) ?_) | ((with_reducible refine zt ?_); refine yH tbOk rfl rfl ?_) | ((with_reducible refine zQ ?_); (first | refine zT rfl rfl rfl ?_ | refine yh rfl rfl rfl ?_))  | refine zL ?_ | refine zB rfl ?_ | refine zw rfl rfl (by first | rfl | assumption) ?_ | with_reducible (first | refine zG ?_ | refine zH ?_ | refine zS ?_) | ((with_reducible refine zA ?_ ?_); kernel_rfl) | ((with_reducible refine yZ mixd ?_ ?_); kernel_rfl) | refine yF rfl (by first | rfl | assumption) ?_)
  refine zC (rB) ?_
  repeat (first | ((with_reducible refine zK ?_); refine zJ rfl ?_) | ((with_reducible refine zR ?_); refine zW tbOk rfl rfl rfl ?_) | ((with_reducible refine zU ?_); refine zX tbOk rfl rfl rfl rfl (by assumption) ?_)  | refine zB rfl ?_  )
  refine zC (hx1) ?_
  repeat (first   | refine zB rfl ?_  )
  refine zC (mI) ?_
  repeat (first | ((with_reducible refine zK ?_); refine zJ rfl ?_) | ((with_reducible refine zR ?_); refine zW tbOk rfl rfl rfl ?_) | ((with_reducible refine zU ?_); refine zX tbOk rfl rfl rfl rfl (by assumption) ?_)  | refine zB rfl ?_  )
  refine zC (hx2) ?_
  repeat (first | ((with_reducible refine zK ?_); refine zJ rfl ?_) | ((with_reducible refine zR ?_); refine zW tbOk rfl rfl rfl ?_) | ((with_reducible refine zp ?_); refine zq tbOk rfl rfl rfl rfl rfl rfl rfl (Nat.le_of_ble_eq_true rfl) rfl ?_) | ((with_reducible refine yR ?_); refine yQ tbOk rfl rfl ?_) | ((with_reducible refine zU ?_); refine zX tbOk rfl rfl rfl rfl (by assumption) ?_) | ((with_reducible refine yM ?_); refine yN tbOk rfl rfl rfl rfl rfl ?_)  | refine zL ?_ | refine yf (by kernel_rfl) ?_ | refine zB rfl ?_ | with_reducible (first | refine zG ?_ | refine zH ?_) | ((with_reducible refine zA ?_ ?_); kernel_rfl))
  refine zC (n1) ?_
  repeat (first | ((with_reducible refine zK ?_); refine zJ rfl ?_) | ((with_reducible refine zM ?_); refine zI tbOk rfl rfl rfl rfl ?_) | ((with_reducible refine zp ?_); refine zq tbOk rfl rfl rfl rfl rfl rfl rfl (Nat.le_of_ble_eq_true rfl) rfl ?_) | ((with_reducible refine ye ?_); refine yd rfl rfl ?_)  | refine zL ?_ | refine zB rfl ?_ | with_reducible (first | refine zG ?_ | refine zH ?_) | ((with_reducible refine zU ?_); refine yK tbOk Tryz.underlying111 rfl rfl rfl (by decide) ?_))
  refine fU (fun v => [(0, .sl 1 (W.map svL)), (2, .ptr 2 (v 2) 0), (3, .v (.bool false)), (4, .ptr 4 (v 4) 0), (5, .ptr 5 (v 5) 0)]) (fun v => [(2, .box z12), (4, .box [.v (.int .i64 (m1)), .v (.int .i64 kI), .v (.int .i64 sI), .v (.int .i64 (0)), .v (.slice none 0 0), .v (.int .i64 (0)), .v (.slice none 0 0), svL (wAt W 9), svL (wAt W 11), .v (.int .i64 (0)), .v (.int .i64 (0)), .v (.slice none 0 0)]), (5, .box [.v (.bool (b1)), .v (.bool (false)), .v (.bool (false)), .v (.bool (false)), .v (.bool false)])]) ⟨rfl, rfl, rfl, rfl, rfl, trivial⟩ ⟨rfl, rfl, rfl, trivial⟩ fun v => ?_
  repeat (first | ((with_reducible refine zK ?_); refine zJ rfl ?_) | ((with_reducible refine zR ?_); refine zW tbOk rfl rfl rfl ?_) | ((with_reducible refine zU ?_); refine zX tbOk rfl rfl rfl rfl (by assumption) ?_)  | refine zB rfl ?_  | ((with_reducible refine zA ?_ ?_); kernel_rfl) | ((with_reducible refine zU ?_); refine yK tbOk Tryz.underlying111 rfl rfl rfl (by decide) ?_))
  refine zC (n2) ?_
  repeat (first | ((with_reducible refine zK ?_); refine zJ rfl ?_) | ((with_reducible refine zM ?_); refine zI tbOk rfl rfl rfl rfl ?_) | ((with_reducible refine zp ?_); refine zq tbOk rfl rfl rfl rfl rfl rfl rfl (Nat.le_of_ble_eq_true rfl) rfl ?_) | ((with_reducible refine ye ?_); refine yd rfl rfl ?_)  | refine zL ?_ | refine zB rfl ?_ | with_reducible (first | refine zG ?_ | refine zH ?_) | ((with_reducible refine zU ?_); refine yK tbOk Tryz.underlying111 rfl rfl rfl (by decide) ?_))
  refine fU (fun v => [(0, .sl 1 (W.map svL)), (2, .ptr 2 (v 2) 0), (3, .v (.bool false)), (4, .ptr 4 (v 4) 0), (5, .ptr 5 (v 5) 0)]) (fun v => [(2, .box z12), (4, .box [.v (.int .i64 (m1)), .v (.int .i64 kI), .v (.int .i64 sI), .v (.int .i64 (m2)), .v (.slice none 0 0), .v (.int .i64 (0)), .v (.slice none 0 0), svL (wAt W 9), svL (wAt W 11), .v (.int .i64 (0)), .v (.int .i64 (0)), .v (.slice none 0 0)]), (5, .box [.v (.bool (b1)), .v (.bool (b2)), .v (.bool (false)), .v (.bool (false)), .v (.bool false)])]) ⟨rfl, rfl, rfl, rfl, rfl, trivial⟩ ⟨rfl, rfl, rfl, trivial⟩ fun v => ?_
  repeat (first | ((with_reducible refine zK ?_); refine zJ rfl ?_) | ((with_reducible refine zR ?_); refine zW tbOk rfl rfl rfl ?_) | ((with_reducible refine zU ?_); refine zX tbOk rfl rfl rfl rfl (by assumption) ?_)  | refine zB rfl ?_  | ((with_reducible refine zA ?_ ?_); kernel_rfl) | ((with_reducible refine zU ?_); refine yK tbOk Tryz.underlying111 rfl rfl rfl (by decide) ?_))
  refine zC (n3) ?_
  repeat (first | ((with_reducible refine zK ?_); refine zJ rfl ?_) | ((with_reducible refine zM ?_); refine zI tbOk rfl rfl rfl rfl ?_) | ((with_reducible refine zp ?_); refine zq tbOk rfl rfl rfl rfl rfl rfl rfl (Nat.le_of_ble_eq_true rfl) rfl ?_) | ((with_reducible refine ye ?_); refine yd rfl rfl ?_)  | refine zL ?_ | refine zB rfl ?_ | with_reducible (first | refine zG ?_ | refine zH ?_) | ((with_reducible refine zU ?_); refine yK tbOk Tryz.underlying111 rfl rfl rfl (by decide) ?_))
  refine fU (fun v => [(0, .sl 1 (W.map svL)), (2, .ptr 2 (v 2) 0), (3, .v (.bool false)), (4, .ptr 4 (v 4) 0), (5, .ptr 5 (v 5) 0)]) (fun v => [(2, .box z12), (4, .box [.v (.int .i64 (m1)), .v (.int .i64 kI), .v (.int .i64 sI), .v (.int .i64 (m2)), .v (.slice none 0 0), .v (.int .i64 (m3)), .v (.slice none 0 0), svL (wAt W 9), svL (wAt W 11), .v (.int .i64 (0)), .v (.int .i64 (0)), .v (.slice none 0 0)]), (5, .box [.v (.bool (b1)), .v (.bool (b2)), .v (.bool (b3)), .v (.bool (false)), .v (.bool false)])]) ⟨rfl, rfl, rfl, rfl, rfl, trivial⟩ ⟨rfl, rfl, rfl, trivial⟩ fun v => ?_
  repeat (first | ((with_reducible refine zK ?_); refine zJ rfl ?_) | ((with_reducible refine zR ?_); refine zW tbOk rfl rfl rfl ?_) | ((with_reducible refine zU ?_); refine zX tbOk rfl rfl rfl rfl (by assumption) ?_)  | refine zB rfl ?_  | ((with_reducible refine zA ?_ ?_); kernel_rfl) | ((with_reducible refine zU ?_); refine yK tbOk Tryz.underlying111 rfl rfl rfl (by decide) ?_))
  refine zC (n4) ?_
  repeat (first | ((with_reducible refine zK ?_); refine zJ rfl ?_) | ((with_reducible refine zM ?_); refine zI tbOk rfl rfl rfl rfl ?_) | ((with_reducible refine zp ?_); refine zq tbOk rfl rfl rfl rfl rfl rfl rfl (Nat.le_of_ble_eq_true rfl) rfl ?_) | ((with_reducible refine ye ?_); refine yd rfl rfl ?_)  | refine zL ?_ | refine zB rfl ?_ | with_reducible (first | refine zG ?_ | refine zH ?_) | ((with_reducible refine zU ?_); refine yK tbOk Tryz.underlying111 rfl rfl rfl (by decide) ?_))
  refine fU (fun v => [(0, .sl 1 (W.map svL)), (2, .ptr 2 (v 2) 0), (3, .v (.bool false)), (4, .ptr 4 (v 4) 0), (5, .ptr 5 (v 5) 0)]) (fun v => [(2, .box z12), (4, .box [.v (.int .i64 (m1)), .v (.int .i64 kI), .v (.int .i64 sI), .v (.int .i64 (m2)), .v (.slice none 0 0), .v (.int .i64 (m3)), .v (.slice none 0 0), svL (wAt W 9), svL (wAt W 11), .v (.int .i64 (m4)), .v (.int .i64 (0)), .v (.slice none 0 0)]), (5, .box [.v (.bool (b1)), .v (.bool (b2)), .v (.bool (b3)), .v (.bool (b4)), .v (.bool false)])]) ⟨rfl, rfl, rfl, rfl, rfl, trivial⟩ ⟨rfl, rfl, rfl, trivial⟩ fun v => ?_
  repeat (first | ((with_reducible refine zK ?_); refine zJ rfl ?_) | ((with_reducible refine zR ?_); refine zW tbOk rfl rfl rfl ?_) | ((with_reducible refine zU ?_); refine zX tbOk rfl rfl rfl rfl (by assumption) ?_)  | refine zB rfl ?_  | ((with_reducible refine zA ?_ ?_); kernel_rfl) | ((with_reducible refine zU ?_); refine yK tbOk Tryz.underlying111 rfl rfl rfl (by decide) ?_))
  refine zC (n5) ?_
  repeat (first | ((with_reducible refine zK ?_); refine zJ rfl ?_) | ((with_reducible refine zM ?_); refine zI tbOk rfl rfl rfl rfl ?_) | ((with_reducible refine zp ?_); refine zq tbOk rfl rfl rfl rfl rfl rfl rfl (Nat.le_of_ble_eq_true rfl) rfl ?_) | ((with_reducible refine ye ?_); refine yd rfl rfl ?_)  | refine zL ?_ | refine zB rfl ?_ | with_reducible (first | refine zG ?_ | refine zH ?_) | ((with_reducible refine zU ?_); refine yK tbOk Tryz.underlying111 rfl rfl rfl (by decide) ?_))
  refine fU (fun v => [(2, .ptr 2 (v 2) 0), (4, .ptr 4 (v 4) 0), (5, .ptr 5 (v 5) 0)]) (fun v => [(2, .box z12), (4, .box [.v (.int .i64 m1), .v (.int .i64 kI), .v (.int .i64 sI), .v (.int .i64 m2), .v (.slice none 0 0), .v (.int .i64 m3), .v (.slice none 0 0), svL (wAt W 9), svL (wAt W 11), .v (.int .i64 m4), .v (.int .i64 m5), .v (.slice none 0 0)]), (5, .box [.v (.bool b1), .v (.bool b2), .v (.bool b3), .v (.bool b4), .v (.bool b5)])]) ⟨rfl, rfl, rfl, trivial⟩ ⟨rfl, rfl, rfl, trivial⟩ fun v => ?_
  repeat (first | ((with_reducible refine zK ?_); refine zJ rfl ?_) | ((with_reducible refine zM ?_); refine zI tbOk rfl rfl rfl rfl ?_) | ((with_reducible refine zR ?_); (first | refine zP tbOk rfl rfl rfl rfl rfl ?_ | refine zk tbOk rfl rfl rfl rfl (Nat.le_of_ble_eq_true rfl) ?_)) | ((with_reducible refine zQ ?_); refine zT rfl rfl rfl ?_)  | refine zB rfl ?_  | ((with_reducible refine yZ mixd ?_ ?_); kernel_rfl) | ((with_reducible refine zU ?_); refine yK tbOk Tryz.underlying111 rfl rfl rfl (by decide) ?_))
  refine zv rfl rfl (fun c => ?_) (fun c => ?_)
  rotate_left
  · replace c : decide (0 < kI) = false := c
    rw [c] at hB
    simp only [Bool.false_and] at hB
    rw [hB, hD]
    repeat (first | ((with_reducible refine zK ?_); refine zJ rfl ?_) | ((with_reducible refine zE ?_); refine zF rfl ?_) | ((with_reducible refine zp ?_); refine zq tbOk rfl rfl rfl rfl rfl rfl rfl (Nat.le_of_ble_eq_true rfl) rfl ?_) | ((with_reducible refine za ?_); refine zf rfl (by first | rfl | assumption) rfl ?_)  | refine yf (by kernel_rfl) ?_ | refine zB rfl ?_ | refine yE rfl rfl (by first | rfl | assumption) ?_ | with_reducible (first | refine zG ?_ | refine zN ?_)  | ((with_reducible refine zU ?_); refine yK tbOk Tryz.underlying111 rfl rfl rfl (by decide) ?_))
    refine jl (by first | exact .inr rfl | exact .inl rfl) rfl rfl rfl rfl rfl rfl ?_
    repeat' (first | exact trivial | exact Ren.v _ | exact Ren.sl _ _ | exact Ren.ep _ | exact Ren.ptr _ _ _ _ rfl | exact Ren.bs _ _ _ _ _ rfl | exact Ren.nil _ | exact Ren.own _ _ _ _ ⟨_, rfl⟩ | refine zi ?_ | refine zj ?_ | refine zl ?_ | refine ⟨?_, ?_⟩)
  replace c : decide (0 < kI) = true := c
  rw [c, Bool.true_and] at hB
  repeat (first | ((with_reducible refine zK ?_); refine zJ rfl ?_) | ((with_reducible refine zM ?_); refine zI tbOk rfl rfl rfl rfl ?_) | ((with_reducible refine zR ?_); refine zP tbOk rfl rfl rfl rfl rfl ?_) | ((with_reducible refine za ?_); refine zh rfl (by first | rfl | assumption) rfl ?_) | ((with_reducible refine zQ ?_); refine zT rfl rfl rfl ?_)  | refine zB rfl ?_ | refine yC rfl rfl (by first | rfl | assumption) ?_   | ((with_reducible refine zU ?_); refine yK tbOk Tryz.underlying111 rfl rfl rfl (by decide) ?_))
  refine zv rfl rfl (fun c => ?_) (fun c => ?_)
  rotate_left
  · replace c : decide (0 < sI) = false := c
    rw [c] at hB
    simp only [Bool.false_and] at hB
    rw [hB, hD]
    repeat (first | ((with_reducible refine zK ?_); refine zJ rfl ?_) | ((with_reducible refine zE ?_); refine zF rfl ?_) | ((with_reducible refine zp ?_); refine zq tbOk rfl rfl rfl rfl rfl rfl rfl (Nat.le_of_ble_eq_true rfl) rfl ?_) | ((with_reducible refine za ?_); refine zf rfl (by first | rfl | assumption) rfl ?_)  | refine yf (by kernel_rfl) ?_ | refine zB rfl ?_ | refine yE rfl rfl (by first | rfl | assumption) ?_ | with_reducible (first | refine zG ?_ | refine zN ?_)  | ((with_reducible refine zU ?_); refine yK tbOk Tryz.underlying111 rfl rfl rfl (by decide) ?_))
    refine jl (by first | exact .inr rfl | exact .inl rfl) rfl rfl rfl rfl rfl rfl ?_
    repeat' (first | exact trivial | exact Ren.v _ | exact Ren.sl _ _ | exact Ren.ep _ | exact Ren.ptr _ _ _ _ rfl | exact Ren.bs _ _ _ _ _ rfl | exact Ren.nil _ | exact Ren.own _ _ _ _ ⟨_, rfl⟩ | refine zi ?_ | refine zj ?_ | refine zl ?_ | refine ⟨?_, ?_⟩)
  replace c : decide (0 < sI) = true := c
  rw [c, Bool.true_and] at hB
  repeat (first | ((with_reducible refine zK ?_); refine zJ rfl ?_) | ((with_reducible refine zR ?_); refine zP tbOk rfl rfl rfl rfl rfl ?_) | ((with_reducible refine za ?_); refine zh rfl (by first | rfl | assumption) rfl ?_)  | refine zB rfl ?_ | refine yC rfl rfl (by first | rfl | assumption) ?_   | ((with_reducible refine zU ?_); refine yK tbOk Tryz.underlying111 rfl rfl rfl (by decide) ?_))
  refine zv rfl rfl (fun c => ?_) (fun c => ?_)
  rotate_left
  · replace c : b1 = false := c
    rw [c] at hB
    simp only [Bool.false_and] at hB
    rw [hB, hD]
    repeat (first | ((with_reducible refine zK ?_); refine zJ rfl ?_) | ((with_reducible refine zE ?_); refine zF rfl ?_) | ((with_reducible refine zp ?_); refine zq tbOk rfl rfl rfl rfl rfl rfl rfl (Nat.le_of_ble_eq_true rfl) rfl ?_) | ((with_reducible refine za ?_); refine zf rfl (by first | rfl | assumption) rfl ?_)  | refine yf (by kernel_rfl) ?_ | refine zB rfl ?_ | refine yE rfl rfl (by first | rfl | assumption) ?_ | with_reducible (first | refine zG ?_ | refine zN ?_)  | ((with_reducible refine zU ?_); refine yK tbOk Tryz.underlying111 rfl rfl rfl (by decide) ?_))
    refine jl (by first | exact .inr rfl | exact .inl rfl) rfl rfl rfl rfl rfl rfl ?_
    repeat' (first | exact trivial | exact Ren.v _ | exact Ren.sl _ _ | exact Ren.ep _ | exact Ren.ptr _ _ _ _ rfl | exact Ren.bs _ _ _ _ _ rfl | exact Ren.nil _ | exact Ren.own _ _ _ _ ⟨_, rfl⟩ | refine zi ?_ | refine zj ?_ | refine zl ?_ | refine ⟨?_, ?_⟩)
  replace c : b1 = true := c
  rw [c, Bool.true_and] at hB
  repeat (first | ((with_reducible refine zK ?_); refine zJ rfl ?_) | ((with_reducible refine zR ?_); refine zP tbOk rfl rfl rfl rfl rfl ?_) | ((with_reducible refine za ?_); refine zh rfl (by first | rfl | assumption) rfl ?_)  | refine zB rfl ?_ | refine yC rfl rfl (by first | rfl | assumption) ?_   | ((with_reducible refine zU ?_); refine yK tbOk Tryz.underlying111 rfl rfl rfl (by decide) ?_))
  refine zv rfl rfl (fun c => ?_) (fun c => ?_)
  rotate_left
  · replace c : b2 = false := c
    rw [c] at hB
    simp only [Bool.false_and] at hB
    rw [hB, hD]
    repeat (first | ((with_reducible refine zK ?_); refine zJ rfl ?_) | ((with_reducible refine zE ?_); refine zF rfl ?_) | ((with_reducible refine zp ?_); refine zq tbOk rfl rfl rfl rfl rfl rfl rfl (Nat.le_of_ble_eq_true rfl) rfl ?_) | ((with_reducible refine za ?_); refine zf rfl (by first | rfl | assumption) rfl ?_)  | refine yf (by kernel_rfl) ?_ | refine zB rfl ?_ | refine yE rfl rfl (by first | rfl | assumption) ?_ | with_reducible (first | refine zG ?_ | refine zN ?_)  | ((with_reducible refine zU ?_); refine yK tbOk Tryz.underlying111 rfl rfl rfl (by decide) ?_))
    refine jl (by first | exact .inr rfl | exact .inl rfl) rfl rfl rfl rfl rfl rfl ?_
    repeat' (first | exact trivial | exact Ren.v _ | exact Ren.sl _ _ | exact Ren.ep _ | exact Ren.ptr _ _ _ _ rfl | exact Ren.bs _ _ _ _ _ rfl | exact Ren.nil _ | exact Ren.own _ _ _ _ ⟨_, rfl⟩ | refine zi ?_ | refine zj ?_ | refine zl ?_ | refine ⟨?_, ?_⟩)
  replace c : b2 = true := c
  rw [c, Bool.true_and] at hB
  repeat (first | ((with_reducible refine zK ?_); refine zJ rfl ?_) | ((with_reducible refine zR ?_); refine zP tbOk rfl rfl rfl rfl rfl ?_) | ((with_reducible refine za ?_); refine zh rfl (by first | rfl | assumption) rfl ?_)  | refine zB rfl ?_ | refine yC rfl rfl (by first | rfl | assumption) ?_   | ((with_reducible refine zU ?_); refine yK tbOk Tryz.underlying111 rfl rfl rfl (by decide) ?_))
  refine zv rfl rfl (fun c => ?_) (fun c => ?_)
  rotate_left
  · replace c : b3 = false := c
    rw [c] at hB
    simp only [Bool.false_and] at hB
    rw [hB, hD]
    repeat (first | ((with_reducible refine zK ?_); refine zJ rfl ?_) | ((with_reducible refine zE ?_); refine zF rfl ?_) | ((with_reducible refine zp ?_); refine zq tbOk rfl rfl rfl rfl rfl rfl rfl (Nat.le_of_ble_eq_true rfl) rfl ?_) | ((with_reducible refine za ?_); refine zf rfl (by first | rfl | assumption) rfl ?_)  | refine yf (by kernel_rfl) ?_ | refine zB rfl ?_ | refine yE rfl rfl (by first | rfl | assumption) ?_ | with_reducible (first | refine zG ?_ | refine zN ?_)  | ((with_reducible refine zU ?_); refine yK tbOk Tryz.underlying111 rfl rfl rfl (by decide) ?_))
    refine jl (by first | exact .inr rfl | exact .inl rfl) rfl rfl rfl rfl rfl rfl ?_
    repeat' (first | exact trivial | exact Ren.v _ | exact Ren.sl _ _ | exact Ren.ep _ | exact Ren.ptr _ _ _ _ rfl | exact Ren.bs _ _ _ _ _ rfl | exact Ren.nil _ | exact Ren.own _ _ _ _ ⟨_, rfl⟩ | refine zi ?_ | refine zj ?_ | refine zl ?_ | refine ⟨?_, ?_⟩)
  replace c : b3 = true := c
  rw [c, Bool.true_and] at hB
  repeat (first | ((with_reducible refine zK ?_); refine zJ rfl ?_) | ((with_reducible refine zR ?_); refine zP tbOk rfl rfl rfl rfl rfl ?_) | ((with_reducible refine za ?_); refine zh rfl (by first | rfl | assumption) rfl ?_)  | refine zB rfl ?_ | refine yC rfl rfl (by first | rfl | assumption) ?_   | ((with_reducible refine zU ?_); refine yK tbOk Tryz.underlying111 rfl rfl rfl (by decide) ?_))
  refine zv rfl rfl (fun c => ?_) (fun c => ?_)
  rotate_left
  · replace c : b4 = false := c
    rw [c] at hB
    simp only [Bool.false_and] at hB
    rw [hB, hD]
    repeat (first | ((with_reducible refine zE ?_); refine zF rfl ?_) | ((with_reducible refine zp ?_); refine zq tbOk rfl rfl rfl rfl rfl rfl rfl (Nat.le_of_ble_eq_true rfl) rfl ?_) | ((with_reducible refine za ?_); refine zf rfl (by first | rfl | assumption) rfl ?_)  | refine yf (by kernel_rfl) ?_ | refine zB rfl ?_ | refine yE rfl rfl (by first | rfl | assumption) ?_ | with_reducible (first | refine zG ?_ | refine zN ?_)  | ((with_reducible refine zU ?_); refine yK tbOk Tryz.underlying111 rfl rfl rfl (by decide) ?_))
    refine jl (by first | exact .inr rfl | exact .inl rfl) rfl rfl rfl rfl rfl rfl ?_
    repeat' (first | exact trivial | exact Ren.v _ | exact Ren.sl _ _ | exact Ren.ep _ | exact Ren.ptr _ _ _ _ rfl | exact Ren.bs _ _ _ _ _ rfl | exact Ren.nil _ | exact Ren.own _ _ _ _ ⟨_, rfl⟩ | refine zi ?_ | refine zj ?_ | refine zl ?_ | refine ⟨?_, ?_⟩)
  replace c : b4 = true := c
  rw [c, Bool.true_and] at hB
  repeat (first | ((with_reducible refine zE ?_); refine zF rfl ?_) | ((with_reducible refine zR ?_); refine zP tbOk rfl rfl rfl rfl rfl ?_) | ((with_reducible refine zp ?_); refine zq tbOk rfl rfl rfl rfl rfl rfl rfl (Nat.le_of_ble_eq_true rfl) rfl ?_) | ((with_reducible refine za ?_); refine zh rfl (by first | rfl | assumption) rfl ?_)  | refine yf (by kernel_rfl) ?_ | refine zB rfl ?_ | refine yC rfl rfl (by first | rfl | assumption) ?_ | with_reducible (first | refine zG ?_ | refine zN ?_)  | ((with_reducible refine zU ?_); refine yK tbOk Tryz.underlying111 rfl rfl rfl (by decide) ?_))
  rw [hB, hD]
  refine jl (by first | exact .inr rfl | exact .inl rfl) rfl rfl rfl rfl rfl rfl ?_
  repeat' (first | exact trivial | exact Ren.v _ | exact Ren.sl _ _ | exact Ren.ep _ | exact Ren.ptr _ _ _ _ rfl | exact Ren.bs _ _ _ _ _ rfl | exact Ren.nil _ | exact Ren.own _ _ _ _ ⟨_, rfl⟩ | refine zi ?_ | refine zj ?_ | refine zl ?_ | refine ⟨?_, ?_⟩)
set_option maxHeartbeats 16000000 in
theorem xP (W : List (List UInt8)) (hw : ∀ w ∈ W, w.length ≤ 1000000) :
    ∃ x : Dc × Bool, sX x (jI W) ∧ ∀ G, zz Tryz.prog G 45 [.sl 1 (W.map svL)] [] (.tu [.ag (ncD x.1 nilA nilA nilA), .v (.bool x.2)]) [] := by
  by_cases h16 : W.length ≠ 16
  · refine ⟨(Dc.zer, false), qo (uF h16), fun G => ?_⟩
    refine zb tbOk (zc Tryz.func45 (by kernel_rfl) rfl) Tryz.func45 rfl _ Tryz.ntmps45 (Nat.le_of_ble_eq_true rfl) fun X hX => ?_
    subst hX
    repeat (first | ((with_reducible refine zK ?_); refine zJ rfl ?_) | ((with_reducible refine zE ?_); refine zF rfl ?_) | ((with_reducible refine yR ?_); refine yQ tbOk rfl rfl ?_) | ((with_reducible refine zt ?_); refine yH tbOk rfl rfl ?_) | ((with_reducible refine zQ ?_); refine zT rfl rfl rfl ?_)  | refine zL ?_ | refine zB rfl ?_ | with_reducible (first | refine zG ?_ | refine zH ?_) | ((with_reducible refine zA ?_ ?_); kernel_rfl))
    refine zv rfl rfl (fun c => ?_) (fun c => ?_)
    rotate_left
    · exact absurd (by simp at c; omega) h16
    repeat (first | ((with_reducible refine zK ?_); refine zJ rfl ?_) | ((with_reducible refine zE ?_); refine zF rfl ?_) | ((with_reducible refine zp ?_); refine zq tbOk rfl rfl rfl rfl rfl rfl rfl (Nat.le_of_ble_eq_true rfl) rfl ?_) | ((with_reducible refine za ?_); refine zh rfl (by first | rfl | assumption) rfl ?_) | ((with_reducible refine yM ?_); refine yN tbOk rfl rfl rfl rfl rfl ?_)  | refine zL ?_ | refine zB rfl ?_ | refine yA rfl rfl (by first | rfl | assumption) ?_ | with_reducible (first | refine zG ?_ | refine zO ?_ | refine zH ?_ | refine zN ?_) | ((with_reducible refine zA ?_ ?_); kernel_rfl) | refine zn rfl (by first | rfl | assumption) ?_)
    refine jl (by first | exact .inr rfl | exact .inl rfl) rfl rfl rfl rfl rfl rfl ?_
    repeat' (first | exact trivial | exact Ren.v _ | exact Ren.sl _ _ | exact Ren.ep _ | exact Ren.ptr _ _ _ _ rfl | exact Ren.bs _ _ _ _ _ rfl | exact Ren.nil _ | exact Ren.own _ _ _ _ ⟨_, rfl⟩ | refine zi ?_ | refine zj ?_ | refine zl ?_ | refine ⟨?_, ?_⟩)
  have h16 : W.length = 16 := by omega
  have hl : ∀ k, k < 16 → (wAt W k).length ≤ 1000000 := fun k hk => by
    obtain ⟨x, hx⟩ := zd (L := W) (k := k) (by omega)
    have : wAt W k = x := by unfold wAt; rw [hx]; rfl
    rw [this]; exact hw x (List.mem_of_getElem? hx)
  have l0 : ((((W.map svL).length : Nat) : Int) != 16) = false := by simp; omega
  have l1 : (!decide ((((W.map svL).length : Nat) : Int) = 16)) = false := by simp; omega
  have z0' : (W.map svL)[(0 : Int).toNat]? = some (svL (wAt W 0)) := yw h16 (by decide)
  have z1' : (W.map svL)[(1 : Int).toNat]? = some (svL (wAt W 1)) := yw h16 (by decide)
  have z2' : (W.map svL)[(2 : Int).toNat]? = some (svL (wAt W 2)) := yw h16 (by decide)
  have z3' : (W.map svL)[(3 : Int).toNat]? = some (svL (wAt W 3)) := yw h16 (by decide)
  have z4' : (W.map svL)[(4 : Int).toNat]? = some (svL (wAt W 4)) := yw h16 (by decide)
  have z5' : (W.map svL)[(5 : Int).toNat]? = some (svL (wAt W 5)) := yw h16 (by decide)
  have z6' : (W.map svL)[(6 : Int).toNat]? = some (svL (wAt W 6)) := yw h16 (by decide)
  have z7' : (W.map svL)[(7 : Int).toNat]? = some (svL (wAt W 7)) := yw h16 (by decide)
  have z8' : (W.map svL)[(8 : Int).toNat]? = some (svL (wAt W 8)) := yw h16 (by decide)
  have z9' : (W.map svL)[(9 : Int).toNat]? = some (svL (wAt W 9)) := yw h16 (by decide)
  have z10' : (W.map svL)[(10 : Int).toNat]? = some (svL (wAt W 10)) := yw h16 (by decide)
  have z11' : (W.map svL)[(11 : Int).toNat]? = some (svL (wAt W 11)) := yw h16 (by decide)
  have z12' : (W.map svL)[(12 : Int).toNat]? = some (svL (wAt W 12)) := yw h16 (by decide)
  have z13' : (W.map svL)[(13 : Int).toNat]? = some (svL (wAt W 13)) := yw h16 (by decide)
  have z14' : (W.map svL)[(14 : Int).toNat]? = some (svL (wAt W 14)) := yw h16 (by decide)
  have z15' : (W.map svL)[(15 : Int).toNat]? = some (svL (wAt W 15)) := yw h16 (by decide)
  have hA : valR yS W [] = valR (yS.drop 2) (W.drop 2) [wAt W 0, wAt W 1] := by
    have e : W = W.drop 0 := rfl
    conv => lhs; rw [e]
    unfold yS
    rw [qU (by omega), qU (by omega)]; rfl
  by_cases q2 : ¬ wAt W 2 = cN
  · have hA : valR yS W [] = none := by
      rw [hA]
      exact eM (k := 2) (p := cN) (by omega) (by decide) q2 _ _
    have e2 : (!yI (strL (wAt W 2)) ⟨#[115, 116, 97, 116, 101]⟩) = true := by rw [qq (b := #[115, 116, 97, 116, 101]) q2]; rfl
    refine ⟨(Dc.zer, false), qo (by rw [qL h16, hA]), fun G => ?_⟩
    refine zb tbOk (zc Tryz.func45 (by kernel_rfl) rfl) Tryz.func45 rfl _ Tryz.ntmps45 (Nat.le_of_ble_eq_true rfl) fun X hX => ?_
    subst hX
    repeat (first | ((with_reducible refine zK ?_); refine zJ rfl ?_) | ((with_reducible refine zE ?_); refine zF rfl ?_) | ((with_reducible refine zR ?_); refine zW tbOk rfl rfl rfl ?_) | ((with_reducible refine zp ?_); refine zq tbOk rfl rfl rfl rfl rfl rfl rfl (Nat.le_of_ble_eq_true rfl) rfl ?_) | ((with_reducible refine yR ?_); refine yQ tbOk rfl rfl ?_) | ((with_reducible refine za ?_); (first | refine zh rfl (by first | rfl | assumption) rfl ?_ | refine zf rfl (by first | rfl | assumption) rfl ?_)) | ((with_reducible refine zU ?_); refine zX tbOk rfl rfl rfl rfl (by assumption) ?_) | ((with_reducible refine yM ?_); refine yN tbOk rfl rfl rfl rfl rfl ?_) | ((with_reducible refine zt ?_); refine yH tbOk rfl rfl ?_) | ((with_reducible refine zQ ?_); (first | refine zT rfl rfl rfl ?_ | refine yh rfl rfl rfl ?_))  | refine zL ?_ | refine zB rfl ?_ | refine zw rfl rfl (by first | rfl | assumption) ?_ | refine yA rfl rfl (by first | rfl | assumption) ?_ | with_reducible (first | refine zG ?_ | refine zO ?_ | refine zH ?_ | refine zN ?_) | ((with_reducible refine zA ?_ ?_); kernel_rfl) | refine zn rfl (by first | rfl | assumption) ?_)
    refine jl (by first | exact .inr rfl | exact .inl rfl) rfl rfl rfl rfl rfl rfl ?_
    repeat' (first | exact trivial | exact Ren.v _ | exact Ren.sl _ _ | exact Ren.ep _ | exact Ren.ptr _ _ _ _ rfl | exact Ren.bs _ _ _ _ _ rfl | exact Ren.nil _ | exact Ren.own _ _ _ _ ⟨_, rfl⟩ | refine zi ?_ | refine zj ?_ | refine zl ?_ | refine ⟨?_, ?_⟩)
  have q2 : wAt W 2 = cN := Classical.not_not.1 q2
  have e2 : (!yI (strL (wAt W 2)) ⟨#[115, 116, 97, 116, 101]⟩) = false := by rw [qr (b := #[115, 116, 97, 116, 101]) q2]; rfl
  have hA : valR yS W [] = valR (yS.drop 4) (W.drop 4) ([wAt W 0, wAt W 1] ++ [wAt W 3]) := by
    rw [hA]
    refine (eO (k := 2) (p := cN) (by omega) (by decide) q2 _ _).trans ?_
    exact qU (k := 3) (by omega) _ _
  by_cases q4 : ¬ wAt W 4 = cV
  · have hA : valR yS W [] = none := by
      rw [hA]
      exact eM (k := 4) (p := cV) (by omega) (by decide) q4 _ _
    have e4 : (!yI (strL (wAt W 4)) ⟨#[114, 111, 117, 110, 100]⟩) = true := by rw [qq (b := #[114, 111, 117, 110, 100]) q4]; rfl
    refine ⟨(Dc.zer, false), qo (by rw [qL h16, hA]), fun G => ?_⟩
    refine zb tbOk (zc Tryz.func45 (by kernel_rfl) rfl) Tryz.func45 rfl _ Tryz.ntmps45 (Nat.le_of_ble_eq_true rfl) fun X hX => ?_
    subst hX
    repeat (first | ((with_reducible refine zK ?_); refine zJ rfl ?_) | ((with_reducible refine zE ?_); refine zF rfl ?_) | ((with_reducible refine zR ?_); refine zW tbOk rfl rfl rfl ?_) | ((with_reducible refine zp ?_); refine zq tbOk rfl rfl rfl rfl rfl rfl rfl (Nat.le_of_ble_eq_true rfl) rfl ?_) | ((with_reducible refine yR ?_); refine yQ tbOk rfl rfl ?_) | ((with_reducible refine za ?_); (first | refine zh rfl (by first | rfl | assumption) rfl ?_ | refine zf rfl (by first | rfl | assumption) rfl ?_)) | ((with_reducible refine zU ?_); refine zX tbOk rfl rfl rfl rfl (by assumption) ?_) | ((with_reducible refine yM ?_); refine yN tbOk rfl rfl rfl rfl rfl ?_) | ((with_reducible refine zt ?_); refine yH tbOk rfl rfl ?_) | ((with_reducible refine zQ ?_); (first | refine zT rfl rfl rfl ?_ | refine yh rfl rfl rfl ?_))  | refine zL ?_ | refine zB rfl ?_ | refine zw rfl rfl (by first | rfl | assumption) ?_ | refine yA rfl rfl (by first | rfl | assumption) ?_ | with_reducible (first | refine zG ?_ | refine zO ?_ | refine zH ?_ | refine zN ?_) | ((with_reducible refine zA ?_ ?_); kernel_rfl) | refine zn rfl (by first | rfl | assumption) ?_)
    refine jl (by first | exact .inr rfl | exact .inl rfl) rfl rfl rfl rfl rfl rfl ?_
    repeat' (first | exact trivial | exact Ren.v _ | exact Ren.sl _ _ | exact Ren.ep _ | exact Ren.ptr _ _ _ _ rfl | exact Ren.bs _ _ _ _ _ rfl | exact Ren.nil _ | exact Ren.own _ _ _ _ ⟨_, rfl⟩ | refine zi ?_ | refine zj ?_ | refine zl ?_ | refine ⟨?_, ?_⟩)
  have q4 : wAt W 4 = cV := Classical.not_not.1 q4
  have e4 : (!yI (strL (wAt W 4)) ⟨#[114, 111, 117, 110, 100]⟩) = false := by rw [qr (b := #[114, 111, 117, 110, 100]) q4]; rfl
  have hA : valR yS W [] = valR (yS.drop 6) (W.drop 6) ([wAt W 0, wAt W 1, wAt W 3] ++ [wAt W 5]) := by
    rw [hA]
    refine (eO (k := 4) (p := cV) (by omega) (by decide) q4 _ _).trans ?_
    exact qU (k := 5) (by omega) _ _
  by_cases q6 : ¬ wAt W 6 = gV
  · have hA : valR yS W [] = none := by
      rw [hA]
      exact eM (k := 6) (p := gV) (by omega) (by decide) q6 _ _
    have e6 : (!yI (strL (wAt W 6)) ⟨#[115, 97, 102, 101]⟩) = true := by rw [qq (b := #[115, 97, 102, 101]) q6]; rfl
    refine ⟨(Dc.zer, false), qo (by rw [qL h16, hA]), fun G => ?_⟩
    refine zb tbOk (zc Tryz.func45 (by kernel_rfl) rfl) Tryz.func45 rfl _ Tryz.ntmps45 (Nat.le_of_ble_eq_true rfl) fun X hX => ?_
    subst hX
    repeat (first | ((with_reducible refine zK ?_); refine zJ rfl ?_) | ((with_reducible refine zE ?_); refine zF rfl ?_) | ((with_reducible refine zR ?_); refine zW tbOk rfl rfl rfl ?_) | ((with_reducible refine zp ?_); refine zq tbOk rfl rfl rfl rfl rfl rfl rfl (Nat.le_of_ble_eq_true rfl) rfl ?_) | ((with_reducible refine yR ?_); refine yQ tbOk rfl rfl ?_) | ((with_reducible refine za ?_); (first | refine zh rfl (by first | rfl | assumption) rfl ?_ | refine zf rfl (by first | rfl | assumption) rfl ?_)) | ((with_reducible refine zU ?_); refine zX tbOk rfl rfl rfl rfl (by assumption) ?_) | ((with_reducible refine yM ?_); refine yN tbOk rfl rfl rfl rfl rfl ?_) | ((with_reducible refine zt ?_); refine yH tbOk rfl rfl ?_) | ((with_reducible refine zQ ?_); (first | refine zT rfl rfl rfl ?_ | refine yh rfl rfl rfl ?_))  | refine zL ?_ | refine zB rfl ?_ | refine zw rfl rfl (by first | rfl | assumption) ?_ | refine yA rfl rfl (by first | rfl | assumption) ?_ | with_reducible (first | refine zG ?_ | refine zO ?_ | refine zH ?_ | refine zN ?_) | ((with_reducible refine zA ?_ ?_); kernel_rfl) | refine zn rfl (by first | rfl | assumption) ?_)
    refine jl (by first | exact .inr rfl | exact .inl rfl) rfl rfl rfl rfl rfl rfl ?_
    repeat' (first | exact trivial | exact Ren.v _ | exact Ren.sl _ _ | exact Ren.ep _ | exact Ren.ptr _ _ _ _ rfl | exact Ren.bs _ _ _ _ _ rfl | exact Ren.nil _ | exact Ren.own _ _ _ _ ⟨_, rfl⟩ | refine zi ?_ | refine zj ?_ | refine zl ?_ | refine ⟨?_, ?_⟩)
  have q6 : wAt W 6 = gV := Classical.not_not.1 q6
  have e6 : (!yI (strL (wAt W 6)) ⟨#[115, 97, 102, 101]⟩) = false := by rw [qr (b := #[115, 97, 102, 101]) q6]; rfl
  have hA : valR yS W [] = valR (yS.drop 8) (W.drop 8) ([wAt W 0, wAt W 1, wAt W 3, wAt W 5] ++ [wAt W 7]) := by
    rw [hA]
    refine (eO (k := 6) (p := gV) (by omega) (by decide) q6 _ _).trans ?_
    exact qU (k := 7) (by omega) _ _
  by_cases q8 : ¬ wAt W 8 = aU
  · have hA : valR yS W [] = none := by
      rw [hA]
      exact eM (k := 8) (p := aU) (by omega) (by decide) q8 _ _
    have e8 : (!yI (strL (wAt W 8)) ⟨#[105, 115, 115, 117, 101, 114]⟩) = true := by rw [qq (b := #[105, 115, 115, 117, 101, 114]) q8]; rfl
    refine ⟨(Dc.zer, false), qo (by rw [qL h16, hA]), fun G => ?_⟩
    refine zb tbOk (zc Tryz.func45 (by kernel_rfl) rfl) Tryz.func45 rfl _ Tryz.ntmps45 (Nat.le_of_ble_eq_true rfl) fun X hX => ?_
    subst hX
    repeat (first | ((with_reducible refine zK ?_); refine zJ rfl ?_) | ((with_reducible refine zE ?_); refine zF rfl ?_) | ((with_reducible refine zR ?_); refine zW tbOk rfl rfl rfl ?_) | ((with_reducible refine zp ?_); refine zq tbOk rfl rfl rfl rfl rfl rfl rfl (Nat.le_of_ble_eq_true rfl) rfl ?_) | ((with_reducible refine yR ?_); refine yQ tbOk rfl rfl ?_) | ((with_reducible refine za ?_); (first | refine zh rfl (by first | rfl | assumption) rfl ?_ | refine zf rfl (by first | rfl | assumption) rfl ?_)) | ((with_reducible refine zU ?_); refine zX tbOk rfl rfl rfl rfl (by assumption) ?_) | ((with_reducible refine yM ?_); refine yN tbOk rfl rfl rfl rfl rfl ?_) | ((with_reducible refine zt ?_); refine yH tbOk rfl rfl ?_) | ((with_reducible refine zQ ?_); (first | refine zT rfl rfl rfl ?_ | refine yh rfl rfl rfl ?_))  | refine zL ?_ | refine zB rfl ?_ | refine zw rfl rfl (by first | rfl | assumption) ?_ | refine yA rfl rfl (by first | rfl | assumption) ?_ | with_reducible (first | refine zG ?_ | refine zO ?_ | refine zH ?_ | refine zN ?_) | ((with_reducible refine zA ?_ ?_); kernel_rfl) | refine zn rfl (by first | rfl | assumption) ?_)
    refine jl (by first | exact .inr rfl | exact .inl rfl) rfl rfl rfl rfl rfl rfl ?_
    repeat' (first | exact trivial | exact Ren.v _ | exact Ren.sl _ _ | exact Ren.ep _ | exact Ren.ptr _ _ _ _ rfl | exact Ren.bs _ _ _ _ _ rfl | exact Ren.nil _ | exact Ren.own _ _ _ _ ⟨_, rfl⟩ | refine zi ?_ | refine zj ?_ | refine zl ?_ | refine ⟨?_, ?_⟩)
  have q8 : wAt W 8 = aU := Classical.not_not.1 q8
  have e8 : (!yI (strL (wAt W 8)) ⟨#[105, 115, 115, 117, 101, 114]⟩) = false := by rw [qr (b := #[105, 115, 115, 117, 101, 114]) q8]; rfl
  have hA : valR yS W [] = valR (yS.drop 10) (W.drop 10) ([wAt W 0, wAt W 1, wAt W 3, wAt W 5, wAt W 7] ++ [wAt W 9]) := by
    rw [hA]
    refine (eO (k := 8) (p := aU) (by omega) (by decide) q8 _ _).trans ?_
    exact qU (k := 9) (by omega) _ _
  by_cases q10 : ¬ wAt W 10 = aW
  · have hA : valR yS W [] = none := by
      rw [hA]
      exact eM (k := 10) (p := aW) (by omega) (by decide) q10 _ _
    have e10 : (!yI (strL (wAt W 10)) ⟨#[104, 111, 108, 100, 101, 114]⟩) = true := by rw [qq (b := #[104, 111, 108, 100, 101, 114]) q10]; rfl
    refine ⟨(Dc.zer, false), qo (by rw [qL h16, hA]), fun G => ?_⟩
    refine zb tbOk (zc Tryz.func45 (by kernel_rfl) rfl) Tryz.func45 rfl _ Tryz.ntmps45 (Nat.le_of_ble_eq_true rfl) fun X hX => ?_
    subst hX
    repeat (first | ((with_reducible refine zK ?_); refine zJ rfl ?_) | ((with_reducible refine zE ?_); refine zF rfl ?_) | ((with_reducible refine zR ?_); refine zW tbOk rfl rfl rfl ?_) | ((with_reducible refine zp ?_); refine zq tbOk rfl rfl rfl rfl rfl rfl rfl (Nat.le_of_ble_eq_true rfl) rfl ?_) | ((with_reducible refine yR ?_); refine yQ tbOk rfl rfl ?_) | ((with_reducible refine za ?_); (first | refine zh rfl (by first | rfl | assumption) rfl ?_ | refine zf rfl (by first | rfl | assumption) rfl ?_)) | ((with_reducible refine zU ?_); refine zX tbOk rfl rfl rfl rfl (by assumption) ?_) | ((with_reducible refine yM ?_); refine yN tbOk rfl rfl rfl rfl rfl ?_) | ((with_reducible refine zt ?_); refine yH tbOk rfl rfl ?_) | ((with_reducible refine zQ ?_); (first | refine zT rfl rfl rfl ?_ | refine yh rfl rfl rfl ?_))  | refine zL ?_ | refine zB rfl ?_ | refine zw rfl rfl (by first | rfl | assumption) ?_ | refine yA rfl rfl (by first | rfl | assumption) ?_ | with_reducible (first | refine zG ?_ | refine zO ?_ | refine zH ?_ | refine zN ?_) | ((with_reducible refine zA ?_ ?_); kernel_rfl) | refine zn rfl (by first | rfl | assumption) ?_)
    refine jl (by first | exact .inr rfl | exact .inl rfl) rfl rfl rfl rfl rfl rfl ?_
    repeat' (first | exact trivial | exact Ren.v _ | exact Ren.sl _ _ | exact Ren.ep _ | exact Ren.ptr _ _ _ _ rfl | exact Ren.bs _ _ _ _ _ rfl | exact Ren.nil _ | exact Ren.own _ _ _ _ ⟨_, rfl⟩ | refine zi ?_ | refine zj ?_ | refine zl ?_ | refine ⟨?_, ?_⟩)
  have q10 : wAt W 10 = aW := Classical.not_not.1 q10
  have e10 : (!yI (strL (wAt W 10)) ⟨#[104, 111, 108, 100, 101, 114]⟩) = false := by rw [qr (b := #[104, 111, 108, 100, 101, 114]) q10]; rfl
  have hA : valR yS W [] = valR (yS.drop 12) (W.drop 12) ([wAt W 0, wAt W 1, wAt W 3, wAt W 5, wAt W 7, wAt W 9] ++ [wAt W 11]) := by
    rw [hA]
    refine (eO (k := 10) (p := aW) (by omega) (by decide) q10 _ _).trans ?_
    exact qU (k := 11) (by omega) _ _
  by_cases q12 : ¬ wAt W 12 = gZ
  · have hA : valR yS W [] = none := by
      rw [hA]
      exact eM (k := 12) (p := gZ) (by omega) (by decide) q12 _ _
    have e12 : (!yI (strL (wAt W 12)) ⟨#[102, 114, 111, 109]⟩) = true := by rw [qq (b := #[102, 114, 111, 109]) q12]; rfl
    refine ⟨(Dc.zer, false), qo (by rw [qL h16, hA]), fun G => ?_⟩
    refine zb tbOk (zc Tryz.func45 (by kernel_rfl) rfl) Tryz.func45 rfl _ Tryz.ntmps45 (Nat.le_of_ble_eq_true rfl) fun X hX => ?_
    subst hX
    repeat (first | ((with_reducible refine zK ?_); refine zJ rfl ?_) | ((with_reducible refine zE ?_); refine zF rfl ?_) | ((with_reducible refine zR ?_); refine zW tbOk rfl rfl rfl ?_) | ((with_reducible refine zp ?_); refine zq tbOk rfl rfl rfl rfl rfl rfl rfl (Nat.le_of_ble_eq_true rfl) rfl ?_) | ((with_reducible refine yR ?_); refine yQ tbOk rfl rfl ?_) | ((with_reducible refine za ?_); (first | refine zh rfl (by first | rfl | assumption) rfl ?_ | refine zf rfl (by first | rfl | assumption) rfl ?_)) | ((with_reducible refine zU ?_); refine zX tbOk rfl rfl rfl rfl (by assumption) ?_) | ((with_reducible refine yM ?_); refine yN tbOk rfl rfl rfl rfl rfl ?_) | ((with_reducible refine zt ?_); refine yH tbOk rfl rfl ?_) | ((with_reducible refine zQ ?_); (first | refine zT rfl rfl rfl ?_ | refine yh rfl rfl rfl ?_))  | refine zL ?_ | refine zB rfl ?_ | refine zw rfl rfl (by first | rfl | assumption) ?_ | refine yA rfl rfl (by first | rfl | assumption) ?_ | with_reducible (first | refine zG ?_ | refine zO ?_ | refine zH ?_ | refine zN ?_) | ((with_reducible refine zA ?_ ?_); kernel_rfl) | refine zn rfl (by first | rfl | assumption) ?_)
    refine jl (by first | exact .inr rfl | exact .inl rfl) rfl rfl rfl rfl rfl rfl ?_
    repeat' (first | exact trivial | exact Ren.v _ | exact Ren.sl _ _ | exact Ren.ep _ | exact Ren.ptr _ _ _ _ rfl | exact Ren.bs _ _ _ _ _ rfl | exact Ren.nil _ | exact Ren.own _ _ _ _ ⟨_, rfl⟩ | refine zi ?_ | refine zj ?_ | refine zl ?_ | refine ⟨?_, ?_⟩)
  have q12 : wAt W 12 = gZ := Classical.not_not.1 q12
  have e12 : (!yI (strL (wAt W 12)) ⟨#[102, 114, 111, 109]⟩) = false := by rw [qr (b := #[102, 114, 111, 109]) q12]; rfl
  have hA : valR yS W [] = valR (yS.drop 14) (W.drop 14) ([wAt W 0, wAt W 1, wAt W 3, wAt W 5, wAt W 7, wAt W 9, wAt W 11] ++ [wAt W 13]) := by
    rw [hA]
    refine (eO (k := 12) (p := gZ) (by omega) (by decide) q12 _ _).trans ?_
    exact qU (k := 13) (by omega) _ _
  by_cases q14 : ¬ wAt W 14 = cM
  · have hA : valR yS W [] = none := by
      rw [hA]
      exact eM (k := 14) (p := cM) (by omega) (by decide) q14 _ _
    have e14 : (!yI (strL (wAt W 14)) ⟨#[117, 110, 116, 105, 108]⟩) = true := by rw [qq (b := #[117, 110, 116, 105, 108]) q14]; rfl
    refine ⟨(Dc.zer, false), qo (by rw [qL h16, hA]), fun G => ?_⟩
    refine zb tbOk (zc Tryz.func45 (by kernel_rfl) rfl) Tryz.func45 rfl _ Tryz.ntmps45 (Nat.le_of_ble_eq_true rfl) fun X hX => ?_
    subst hX
    repeat (first | ((with_reducible refine zK ?_); refine zJ rfl ?_) | ((with_reducible refine zE ?_); refine zF rfl ?_) | ((with_reducible refine zR ?_); refine zW tbOk rfl rfl rfl ?_) | ((with_reducible refine zp ?_); refine zq tbOk rfl rfl rfl rfl rfl rfl rfl (Nat.le_of_ble_eq_true rfl) rfl ?_) | ((with_reducible refine yR ?_); refine yQ tbOk rfl rfl ?_) | ((with_reducible refine za ?_); refine zf rfl (by first | rfl | assumption) rfl ?_) | ((with_reducible refine zU ?_); refine zX tbOk rfl rfl rfl rfl (by assumption) ?_) | ((with_reducible refine yM ?_); refine yN tbOk rfl rfl rfl rfl rfl ?_) | ((with_reducible refine zt ?_); refine yH tbOk rfl rfl ?_) | ((with_reducible refine zQ ?_); (first | refine zT rfl rfl rfl ?_ | refine yh rfl rfl rfl ?_))  | refine zL ?_ | refine zB rfl ?_ | refine zw rfl rfl (by first | rfl | assumption) ?_ | with_reducible (first | refine zG ?_ | refine zO ?_ | refine zH ?_ | refine zN ?_) | ((with_reducible refine zA ?_ ?_); kernel_rfl) | refine zn rfl (by first | rfl | assumption) ?_)
    refine jl (by first | exact .inr rfl | exact .inl rfl) rfl rfl rfl rfl rfl rfl ?_
    repeat' (first | exact trivial | exact Ren.v _ | exact Ren.sl _ _ | exact Ren.ep _ | exact Ren.ptr _ _ _ _ rfl | exact Ren.bs _ _ _ _ _ rfl | exact Ren.nil _ | exact Ren.own _ _ _ _ ⟨_, rfl⟩ | refine zi ?_ | refine zj ?_ | refine zl ?_ | refine ⟨?_, ?_⟩)
  have q14 : wAt W 14 = cM := Classical.not_not.1 q14
  have e14 : (!yI (strL (wAt W 14)) ⟨#[117, 110, 116, 105, 108]⟩) = false := by rw [qr (b := #[117, 110, 116, 105, 108]) q14]; rfl
  have hA : valR yS W [] = valR (yS.drop 16) (W.drop 16) ([wAt W 0, wAt W 1, wAt W 3, wAt W 5, wAt W 7, wAt W 9, wAt W 11, wAt W 13] ++ [wAt W 15]) := by
    rw [hA]
    refine (eO (k := 14) (p := cM) (by omega) (by decide) q14 _ _).trans ?_
    exact qU (k := 15) (by omega) _ _
  have hA : valR yS W [] = some [wAt W 0, wAt W 1, wAt W 3, wAt W 5, wAt W 7, wAt W 9, wAt W 11, wAt W 13, wAt W 15] := by rw [hA]; rfl
  exact ⟨_, uU h16 hA, fun G => rC W h16 hl e2 e4 e6 e8 e10 e12 e14⟩
end Go.Proofs.YtjamibeffalhaaaGreatDoor
