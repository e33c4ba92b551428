/- The reference of Print, and LockText, by the abstract machine; conditions: none. -/
import Derived.Test.YtjamibeffalhaaaGreatDoorDyA
set_option linter.unusedVariables false
set_option linter.unusedSimpArgs false
namespace Go.Proofs.YtjamibeffalhaaaGreatDoor
open Go Go.RowKit
set_option maxRecDepth 10000
variable {G : Nat → Option (List Value)}
theorem vO (N : List Nd) (V : List Dv) (k : Lk) (hv : ∀ x ∈ V, x.n.data.toList.length ≤ 12) (h1 : 0 ≤ k.d ∧ k.d < V.length) (h2 : k.p = 1 ∨ k.p = 2) (h3 : 0 ≤ k.k ∧ k.k ≤ 65536) : zy Tryz.prog G 35 [jW N V, k.av] [] (svL (yW (jm V k))) [] := by
  obtain ⟨x, hx, hxe⟩ := mU h1
  have hy := rL hx
  have hsl := hv x (List.mem_of_getElem? hx)
  have hp : (wAt posL k.p.toNat).length ≤ 6 := by rcases h2 with e | e <;> rw [e] <;> decide
  have hi := qG (n := k.k) (by omega) (by omega)
  refine zd tbOk (zf Tryz.func35 (by kernel_rfl) rfl) Tryz.func35 rfl _ Tryz.ntmps35 (Nat.le_of_ble_eq_true rfl) fun X hX => ?_
  subst hX
  repeat (first | ((with_reducible refine zF ?_); refine zE rfl ?_) | ((with_reducible refine zM ?_); (first | refine zI tbOk rfl rfl rfl rfl ?_ | refine yN tbOk rfl rfl rfl rfl ?_)) | ((with_reducible refine zQ ?_); (first | refine zO tbOk rfl rfl rfl rfl rfl ?_ | refine zb tbOk rfl rfl rfl ?_)) | ((with_reducible refine yl ?_); refine yj rfl rfl rfl ?_) | ((with_reducible refine zY ?_); refine yQ tbOk rfl rfl rfl rfl (by omega) (by assumption) ?_)  | refine zL ?_ | refine zB rfl ?_ | with_reducible (first | refine zG ?_ | refine zH ?_) | ((with_reducible refine zA ?_ ?_); kernel_rfl) | ((with_reducible refine yO mixd ?_ ?_); kernel_rfl))
  with_reducible refine zR ?_
  refine yY (a := strL ([108, 111, 99, 107, 32])) (b := strL (x.n.data.toList)) rfl rfl (by rw [zt, zt]; simp only [List.length_append, List.length_cons, List.length_nil]; omega) ?_
  rw [yZ]
  repeat (first   | refine zB rfl ?_  )
  with_reducible refine zR ?_
  refine yY (a := strL ([108, 111, 99, 107, 32] ++ x.n.data.toList)) (b := strL ([32])) rfl rfl (by rw [zt, zt]; simp only [List.length_append, List.length_cons, List.length_nil]; omega) ?_
  rw [yZ]
  repeat (first | ((with_reducible refine zM ?_); refine zI tbOk rfl rfl rfl rfl ?_) | ((with_reducible refine zQ ?_); refine zO tbOk rfl rfl rfl rfl rfl ?_)  | refine zB rfl ?_  )
  refine zC (rpos_A k.p h2) ?_
  repeat (first   | refine zB rfl ?_  )
  with_reducible refine zR ?_
  refine yY (a := strL ([108, 111, 99, 107, 32] ++ x.n.data.toList ++ [32])) (b := strL (wAt posL k.p.toNat)) rfl rfl (by rw [zt, zt]; simp only [List.length_append, List.length_cons, List.length_nil]; omega) ?_
  rw [yZ]
  repeat (first   | refine zB rfl ?_  )
  with_reducible refine zR ?_
  refine yY (a := strL ([108, 111, 99, 107, 32] ++ x.n.data.toList ++ [32] ++ wAt posL k.p.toNat)) (b := strL ([32, 107, 101, 121, 32])) rfl rfl (by rw [zt, zt]; simp only [List.length_append, List.length_cons, List.length_nil]; omega) ?_
  rw [yZ]
  repeat (first | ((with_reducible refine zM ?_); refine zI tbOk rfl rfl rfl rfl ?_) | ((with_reducible refine zQ ?_); refine zO tbOk rfl rfl rfl rfl rfl ?_)  | refine zB rfl ?_  )
  refine zC (bV k.k (by omega) (by omega)) ?_
  repeat (first   | refine zB rfl ?_  )
  with_reducible refine zR ?_
  refine yY (a := strL ([108, 111, 99, 107, 32] ++ x.n.data.toList ++ [32] ++ wAt posL k.p.toNat ++ [32, 107, 101, 121, 32])) (b := strL (Lib.itoa k.k)) rfl rfl (by rw [zt, zt]; simp only [List.length_append, List.length_cons, List.length_nil]; omega) ?_
  rw [yZ]
  repeat (first | ((with_reducible refine zF ?_); refine zE rfl ?_)  | refine yS (by kernel_rfl) ?_ | refine zB rfl ?_ | with_reducible (first | refine zG ?_ | refine zN ?_) )
  refine ze (by first | exact .inr rfl | exact .inl rfl) rfl rfl ?_
  refine congrArg svL ?_
  unfold jm
  rw [yR, yR, yR, yR, jd, hxe]
  simp [lU, keyL]
theorem xJ (d : Dc) (T : List UInt8) : wAt yn d.kind.toNat ++ [32] ++ Lib.itoa d.num ++ [32, 115, 116, 97, 116, 101, 32] ++ wAt yb d.st.toNat ++ [32, 114, 111, 117, 110, 100, 32] ++ Lib.itoa d.rd ++ [32, 115, 97, 102, 101, 32] ++ Lib.itoa d.safe ++ [32, 105, 115, 115, 117, 101, 114, 32] ++ d.iss.data.toList ++ [32, 104, 111, 108, 100, 101, 114, 32] ++ d.hol.data.toList ++ [32, 102, 114, 111, 109, 32] ++ Lib.itoa d.f ++ [32, 117, 110, 116, 105, 108, 32] ++ Lib.itoa d.u ++ [10, 122, 111, 110, 101] = yW (aK d) ++ 10 :: qi := by
  unfold aK
  rw [yR, yR, yR, yR, yR, yR, yR, yR, yR, yR, yR, yR, yR, yR, yR, jd]
  simp [mI, mD, sQ, gI, gJ, sT, mT, qi]
set_option maxHeartbeats 8000000 in
theorem xA (N : List Nd) (V : List Dv) (d : Dc) (hG : GCls G) (ok : NwOk N V) (od : DcSz d) : zy Tryz.prog G 12 [jW N V, d.av] [] (.tu [.v (.string (qI N V d).1), .v (.int .i64 (qI N V d).2)]) [] := by
  by_cases hd0 : docE N V d ≠ 0
  · have e : qI N V d = (⟨#[]⟩, docE N V d) := by unfold qI; rw [if_pos hd0]
    rw [e]
    refine zd tbOk (zf Tryz.func12 (by kernel_rfl) rfl) Tryz.func12 rfl _ Tryz.ntmps12 (Nat.le_of_ble_eq_true rfl) fun X hX => ?_
    subst hX
    repeat (first | ((with_reducible refine zF ?_); refine zE rfl ?_) | ((with_reducible refine zQ ?_); refine za tbOk rfl rfl rfl rfl (Nat.le_of_ble_eq_true rfl) ?_) | ((with_reducible refine yl ?_); refine yj rfl rfl rfl ?_)  | refine zL ?_ | refine zB rfl ?_ | with_reducible (first | refine zG ?_ | refine zH ?_) | ((with_reducible refine zA ?_ ?_); kernel_rfl))
    refine zC (dA N V d hG ok od) ?_
    repeat (first | ((with_reducible refine zJ ?_); refine zK rfl ?_) | ((with_reducible refine zF ?_); refine zE rfl ?_) | ((with_reducible refine zR ?_); refine zS rfl rfl rfl ?_)  | refine zL ?_ | refine zB rfl ?_ | with_reducible (first | refine zG ?_ | refine zH ?_) | ((with_reducible refine zA ?_ ?_); kernel_rfl))
    refine zX rfl (fun h => ?_) (fun h => ?_)
    · repeat (first | ((with_reducible refine zJ ?_); refine zK rfl ?_) | ((with_reducible refine zF ?_); refine zE rfl ?_)  | refine zL ?_ | refine zB rfl ?_ | with_reducible (first | refine zG ?_ | refine zP ?_ | refine zH ?_ | refine zN ?_) | ((with_reducible refine zA ?_ ?_); kernel_rfl))
      refine jD (by first | exact .inr rfl | exact .inl rfl) rfl rfl rfl ?_
      repeat' (first | exact trivial | exact Ren.v _ | exact Ren.sl _ _ | exact Ren.ep _ | exact Ren.ptr _ _ _ _ rfl | exact Ren.bs _ _ _ _ _ rfl | exact Ren.nil _ | exact Ren.own _ _ _ _ ⟨_, rfl⟩ | refine zv ?_ | refine zx ?_ | refine zw ?_ | refine ⟨?_, ?_⟩)
    · exact absurd (by simpa using h) hd0
  have e : qI N V d = (strL (jQ (qL N V d)), 0) := by unfold qI; rw [if_neg hd0]
  have hd : DcOk N V d := pE.1 (by simpa using hd0)
  have hk := hd.kind
  have hst := hd.st
  have hnum := hd.num
  have hrd := hd.rd
  have hsf := hd.safe
  have hsp := mK hd.span
  have hzo := gR hd.zone
  have hlo := mY hd.lk
  have hco := nD hd.ce
  have hNl : N.length ≤ 32 := (gM hd.net).1
  have hy1 : (yn.map svL)[d.kind.toNat]? = some (svL (wAt yn d.kind.toNat)) := jV (by show d.kind.toNat < 4; omega)
  have hy2 : (yb.map svL)[d.st.toNat]? = some (svL (wAt yb d.st.toNat)) := jV (by show d.st.toNat < 6; omega)
  have s1 := (tF hd.kind).1.2.2.2
  have s2 := (oI hd.st).1.2.2.2
  have s3 := (bT hd.iss).2.2
  have s4 := (bT hd.hol).2.2
  have i1 := qG (n := d.num) (by omega) (by omega)
  have i2 := qG (n := d.rd) (by omega) (by omega)
  have i3 := qG (n := d.safe) (by omega) (by omega)
  have i4 := qG (n := d.f) (by omega) (by omega)
  have i5 := qG (n := d.u) (by omega) (by omega)
  rw [e]
  refine zd tbOk (zf Tryz.func12 (by kernel_rfl) rfl) Tryz.func12 rfl _ Tryz.ntmps12 (Nat.le_of_ble_eq_true rfl) fun X hX => ?_
  subst hX
  repeat (first | ((with_reducible refine zF ?_); refine zE rfl ?_) | ((with_reducible refine zQ ?_); refine za tbOk rfl rfl rfl rfl (Nat.le_of_ble_eq_true rfl) ?_) | ((with_reducible refine yl ?_); refine yj rfl rfl rfl ?_)  | refine zL ?_ | refine zB rfl ?_ | with_reducible (first | refine zG ?_ | refine zH ?_) | ((with_reducible refine zA ?_ ?_); kernel_rfl))
  refine zC (dA N V d hG ok od) ?_
  repeat (first | ((with_reducible refine zJ ?_); refine zK rfl ?_) | ((with_reducible refine zF ?_); refine zE rfl ?_) | ((with_reducible refine zR ?_); refine zS rfl rfl rfl ?_)  | refine zL ?_ | refine zB rfl ?_ | with_reducible (first | refine zG ?_ | refine zH ?_) | ((with_reducible refine zA ?_ ?_); kernel_rfl))
  refine zX rfl (fun h => ?_) (fun h => ?_)
  · exact absurd (by simpa using h) hd0
  repeat (first   | refine zB rfl ?_ | with_reducible (first | refine zG ?_ | refine zH ?_ | refine zT ?_) | ((with_reducible refine yO mixd ?_ ?_); kernel_rfl))
  refine zC (vH) ?_
  repeat (first | ((with_reducible refine zM ?_); refine zI tbOk rfl rfl rfl rfl ?_) | ((with_reducible refine zQ ?_); (first | refine zO tbOk rfl rfl rfl rfl rfl ?_ | refine zb tbOk rfl rfl rfl ?_)) | ((with_reducible refine zY ?_); refine yQ tbOk rfl rfl rfl rfl (by omega) (by assumption) ?_)  | refine zB rfl ?_  )
  with_reducible refine zR ?_
  refine yY (a := strL (wAt yn d.kind.toNat)) (b := strL ([32])) rfl rfl (by rw [zt, zt]; simp only [List.length_append, List.length_cons, List.length_nil]; omega) ?_
  rw [yZ]
  repeat (first | ((with_reducible refine zM ?_); refine zI tbOk rfl rfl rfl rfl ?_) | ((with_reducible refine zQ ?_); refine zO tbOk rfl rfl rfl rfl rfl ?_)  | refine zB rfl ?_  )
  refine zC (bV d.num (by omega) (by omega)) ?_
  repeat (first   | refine zB rfl ?_  )
  with_reducible refine zR ?_
  refine yY (a := strL (wAt yn d.kind.toNat ++ [32])) (b := strL (Lib.itoa d.num)) rfl rfl (by rw [zt, zt]; simp only [List.length_append, List.length_cons, List.length_nil]; omega) ?_
  rw [yZ]
  repeat (first   | refine zB rfl ?_  )
  with_reducible refine zR ?_
  refine yY (a := strL (wAt yn d.kind.toNat ++ [32] ++ Lib.itoa d.num)) (b := strL ([32, 115, 116, 97, 116, 101, 32])) rfl rfl (by rw [zt, zt]; simp only [List.length_append, List.length_cons, List.length_nil]; omega) ?_
  rw [yZ]
  repeat (first   | refine zB rfl ?_  )
  refine zC (uT) ?_
  repeat (first | ((with_reducible refine zM ?_); refine zI tbOk rfl rfl rfl rfl ?_) | ((with_reducible refine zQ ?_); (first | refine zO tbOk rfl rfl rfl rfl rfl ?_ | refine zb tbOk rfl rfl rfl ?_)) | ((with_reducible refine zY ?_); refine yQ tbOk rfl rfl rfl rfl (by omega) (by assumption) ?_)  | refine zB rfl ?_  )
  with_reducible refine zR ?_
  refine yY (a := strL (wAt yn d.kind.toNat ++ [32] ++ Lib.itoa d.num ++ [32, 115, 116, 97, 116, 101, 32])) (b := strL (wAt yb d.st.toNat)) rfl rfl (by rw [zt, zt]; simp only [List.length_append, List.length_cons, List.length_nil]; omega) ?_
  rw [yZ]
  repeat (first   | refine zB rfl ?_  )
  with_reducible refine zR ?_
  refine yY (a := strL (wAt yn d.kind.toNat ++ [32] ++ Lib.itoa d.num ++ [32, 115, 116, 97, 116, 101, 32] ++ wAt yb d.st.toNat)) (b := strL ([32, 114, 111, 117, 110, 100, 32])) rfl rfl (by rw [zt, zt]; simp only [List.length_append, List.length_cons, List.length_nil]; omega) ?_
  rw [yZ]
  repeat (first | ((with_reducible refine zM ?_); refine zI tbOk rfl rfl rfl rfl ?_) | ((with_reducible refine zQ ?_); refine zO tbOk rfl rfl rfl rfl rfl ?_)  | refine zB rfl ?_  )
  refine zC (bV d.rd (by omega) (by omega)) ?_
  repeat (first   | refine zB rfl ?_  )
  with_reducible refine zR ?_
  refine yY (a := strL (wAt yn d.kind.toNat ++ [32] ++ Lib.itoa d.num ++ [32, 115, 116, 97, 116, 101, 32] ++ wAt yb d.st.toNat ++ [32, 114, 111, 117, 110, 100, 32])) (b := strL (Lib.itoa d.rd)) rfl rfl (by rw [zt, zt]; simp only [List.length_append, List.length_cons, List.length_nil]; omega) ?_
  rw [yZ]
  repeat (first   | refine zB rfl ?_  )
  with_reducible refine zR ?_
  refine yY (a := strL (wAt yn d.kind.toNat ++ [32] ++ Lib.itoa d.num ++ [32, 115, 116, 97, 116, 101, 32] ++ wAt yb d.st.toNat ++ [32, 114, 111, 117, 110, 100, 32] ++ Lib.itoa d.rd)) (b := strL ([32, 115, 97, 102, 101, 32])) rfl rfl (by rw [zt, zt]; simp only [List.length_append, List.length_cons, List.length_nil]; omega) ?_
  rw [yZ]
  repeat (first | ((with_reducible refine zM ?_); refine zI tbOk rfl rfl rfl rfl ?_) | ((with_reducible refine zQ ?_); refine zO tbOk rfl rfl rfl rfl rfl ?_)  | refine zB rfl ?_  )
  refine zC (bV d.safe (by omega) (by omega)) ?_
  repeat (first   | refine zB rfl ?_  )
  with_reducible refine zR ?_
  refine yY (a := strL (wAt yn d.kind.toNat ++ [32] ++ Lib.itoa d.num ++ [32, 115, 116, 97, 116, 101, 32] ++ wAt yb d.st.toNat ++ [32, 114, 111, 117, 110, 100, 32] ++ Lib.itoa d.rd ++ [32, 115, 97, 102, 101, 32])) (b := strL (Lib.itoa d.safe)) rfl rfl (by rw [zt, zt]; simp only [List.length_append, List.length_cons, List.length_nil]; omega) ?_
  rw [yZ]
  repeat (first   | refine zB rfl ?_  )
  with_reducible refine zR ?_
  refine yY (a := strL (wAt yn d.kind.toNat ++ [32] ++ Lib.itoa d.num ++ [32, 115, 116, 97, 116, 101, 32] ++ wAt yb d.st.toNat ++ [32, 114, 111, 117, 110, 100, 32] ++ Lib.itoa d.rd ++ [32, 115, 97, 102, 101, 32] ++ Lib.itoa d.safe)) (b := strL ([32, 105, 115, 115, 117, 101, 114, 32])) rfl rfl (by rw [zt, zt]; simp only [List.length_append, List.length_cons, List.length_nil]; omega) ?_
  rw [yZ]
  repeat (first | ((with_reducible refine zM ?_); refine zI tbOk rfl rfl rfl rfl ?_) | ((with_reducible refine zQ ?_); refine zO tbOk rfl rfl rfl rfl rfl ?_)  | refine zB rfl ?_  )
  with_reducible refine zR ?_
  refine yY (a := strL (wAt yn d.kind.toNat ++ [32] ++ Lib.itoa d.num ++ [32, 115, 116, 97, 116, 101, 32] ++ wAt yb d.st.toNat ++ [32, 114, 111, 117, 110, 100, 32] ++ Lib.itoa d.rd ++ [32, 115, 97, 102, 101, 32] ++ Lib.itoa d.safe ++ [32, 105, 115, 115, 117, 101, 114, 32])) (b := strL (d.iss.data.toList)) rfl rfl (by rw [zt, zt]; simp only [List.length_append, List.length_cons, List.length_nil]; omega) ?_
  rw [yZ]
  repeat (first   | refine zB rfl ?_  )
  with_reducible refine zR ?_
  refine yY (a := strL (wAt yn d.kind.toNat ++ [32] ++ Lib.itoa d.num ++ [32, 115, 116, 97, 116, 101, 32] ++ wAt yb d.st.toNat ++ [32, 114, 111, 117, 110, 100, 32] ++ Lib.itoa d.rd ++ [32, 115, 97, 102, 101, 32] ++ Lib.itoa d.safe ++ [32, 105, 115, 115, 117, 101, 114, 32] ++ d.iss.data.toList)) (b := strL ([32, 104, 111, 108, 100, 101, 114, 32])) rfl rfl (by rw [zt, zt]; simp only [List.length_append, List.length_cons, List.length_nil]; omega) ?_
  rw [yZ]
  repeat (first | ((with_reducible refine zM ?_); refine zI tbOk rfl rfl rfl rfl ?_) | ((with_reducible refine zQ ?_); refine zO tbOk rfl rfl rfl rfl rfl ?_)  | refine zB rfl ?_  )
  with_reducible refine zR ?_
  refine yY (a := strL (wAt yn d.kind.toNat ++ [32] ++ Lib.itoa d.num ++ [32, 115, 116, 97, 116, 101, 32] ++ wAt yb d.st.toNat ++ [32, 114, 111, 117, 110, 100, 32] ++ Lib.itoa d.rd ++ [32, 115, 97, 102, 101, 32] ++ Lib.itoa d.safe ++ [32, 105, 115, 115, 117, 101, 114, 32] ++ d.iss.data.toList ++ [32, 104, 111, 108, 100, 101, 114, 32])) (b := strL (d.hol.data.toList)) rfl rfl (by rw [zt, zt]; simp only [List.length_append, List.length_cons, List.length_nil]; omega) ?_
  rw [yZ]
  repeat (first   | refine zB rfl ?_  )
  with_reducible refine zR ?_
  refine yY (a := strL (wAt yn d.kind.toNat ++ [32] ++ Lib.itoa d.num ++ [32, 115, 116, 97, 116, 101, 32] ++ wAt yb d.st.toNat ++ [32, 114, 111, 117, 110, 100, 32] ++ Lib.itoa d.rd ++ [32, 115, 97, 102, 101, 32] ++ Lib.itoa d.safe ++ [32, 105, 115, 115, 117, 101, 114, 32] ++ d.iss.data.toList ++ [32, 104, 111, 108, 100, 101, 114, 32] ++ d.hol.data.toList)) (b := strL ([32, 102, 114, 111, 109, 32])) rfl rfl (by rw [zt, zt]; simp only [List.length_append, List.length_cons, List.length_nil]; omega) ?_
  rw [yZ]
  repeat (first | ((with_reducible refine zM ?_); refine zI tbOk rfl rfl rfl rfl ?_) | ((with_reducible refine zQ ?_); refine zO tbOk rfl rfl rfl rfl rfl ?_)  | refine zB rfl ?_  )
  refine zC (bV d.f (by omega) (by omega)) ?_
  repeat (first   | refine zB rfl ?_  )
  with_reducible refine zR ?_
  refine yY (a := strL (wAt yn d.kind.toNat ++ [32] ++ Lib.itoa d.num ++ [32, 115, 116, 97, 116, 101, 32] ++ wAt yb d.st.toNat ++ [32, 114, 111, 117, 110, 100, 32] ++ Lib.itoa d.rd ++ [32, 115, 97, 102, 101, 32] ++ Lib.itoa d.safe ++ [32, 105, 115, 115, 117, 101, 114, 32] ++ d.iss.data.toList ++ [32, 104, 111, 108, 100, 101, 114, 32] ++ d.hol.data.toList ++ [32, 102, 114, 111, 109, 32])) (b := strL (Lib.itoa d.f)) rfl rfl (by rw [zt, zt]; simp only [List.length_append, List.length_cons, List.length_nil]; omega) ?_
  rw [yZ]
  repeat (first   | refine zB rfl ?_  )
  with_reducible refine zR ?_
  refine yY (a := strL (wAt yn d.kind.toNat ++ [32] ++ Lib.itoa d.num ++ [32, 115, 116, 97, 116, 101, 32] ++ wAt yb d.st.toNat ++ [32, 114, 111, 117, 110, 100, 32] ++ Lib.itoa d.rd ++ [32, 115, 97, 102, 101, 32] ++ Lib.itoa d.safe ++ [32, 105, 115, 115, 117, 101, 114, 32] ++ d.iss.data.toList ++ [32, 104, 111, 108, 100, 101, 114, 32] ++ d.hol.data.toList ++ [32, 102, 114, 111, 109, 32] ++ Lib.itoa d.f)) (b := strL ([32, 117, 110, 116, 105, 108, 32])) rfl rfl (by rw [zt, zt]; simp only [List.length_append, List.length_cons, List.length_nil]; omega) ?_
  rw [yZ]
  repeat (first | ((with_reducible refine zM ?_); refine zI tbOk rfl rfl rfl rfl ?_) | ((with_reducible refine zQ ?_); refine zO tbOk rfl rfl rfl rfl rfl ?_)  | refine zB rfl ?_  )
  refine zC (bV d.u (by omega) (by omega)) ?_
  repeat (first   | refine zB rfl ?_  )
  with_reducible refine zR ?_
  refine yY (a := strL (wAt yn d.kind.toNat ++ [32] ++ Lib.itoa d.num ++ [32, 115, 116, 97, 116, 101, 32] ++ wAt yb d.st.toNat ++ [32, 114, 111, 117, 110, 100, 32] ++ Lib.itoa d.rd ++ [32, 115, 97, 102, 101, 32] ++ Lib.itoa d.safe ++ [32, 105, 115, 115, 117, 101, 114, 32] ++ d.iss.data.toList ++ [32, 104, 111, 108, 100, 101, 114, 32] ++ d.hol.data.toList ++ [32, 102, 114, 111, 109, 32] ++ Lib.itoa d.f ++ [32, 117, 110, 116, 105, 108, 32])) (b := strL (Lib.itoa d.u)) rfl rfl (by rw [zt, zt]; simp only [List.length_append, List.length_cons, List.length_nil]; omega) ?_
  rw [yZ]
  repeat (first   | refine zB rfl ?_  )
  with_reducible refine zR ?_
  refine yY (a := strL (wAt yn d.kind.toNat ++ [32] ++ Lib.itoa d.num ++ [32, 115, 116, 97, 116, 101, 32] ++ wAt yb d.st.toNat ++ [32, 114, 111, 117, 110, 100, 32] ++ Lib.itoa d.rd ++ [32, 115, 97, 102, 101, 32] ++ Lib.itoa d.safe ++ [32, 105, 115, 115, 117, 101, 114, 32] ++ d.iss.data.toList ++ [32, 104, 111, 108, 100, 101, 114, 32] ++ d.hol.data.toList ++ [32, 102, 114, 111, 109, 32] ++ Lib.itoa d.f ++ [32, 117, 110, 116, 105, 108, 32] ++ Lib.itoa d.u)) (b := strL ([10, 122, 111, 110, 101])) rfl rfl (by rw [zt, zt]; simp only [List.length_append, List.length_cons, List.length_nil]; omega) ?_
  rw [yZ]
  repeat (first | ((with_reducible refine zF ?_); refine zE rfl ?_)  | refine zL ?_ | refine yS (by kernel_rfl) ?_ | refine zB rfl ?_ | with_reducible (first | refine zG ?_ | refine zH ?_ | refine zV ?_) | ((with_reducible refine zA ?_ ?_); kernel_rfl))
  rw [xJ d []]
  obtain ⟨A, hA⟩ : ∃ A, A = yW (aK d) := ⟨_, rfl⟩
  have hAl : A.length ≤ 400 := by have h2 := (qe (mE hd)).2; have h3 : (aK d).length = 16 := rfl; rw [hA]; omega
  rw [← hA]
  refine yJ (ι := Nat) (fun k => k ≤ d.zone.length ∧ (yW (qi :: (d.zone.take k).map (nodN N))).length ≤ 4 + 21 * k) (fun k => d.zone.length - k) (fun v k => [(2, .ptr 2 (v 2) 0), (3, .ptr 3 (v 3) 0), (7, svL (A ++ 10 :: yW (qi :: (d.zone.take k).map (nodN N)))), (8, .v (.int .i64 (k : Nat)))]) (fun v k => [(2, .box [.sl 3 (N.map Nd.av), .sl 5 (V.map Dv.av)]), (3, .box d.cells)]) ?_ ?_
  · exact ⟨0, ⟨Nat.zero_le _, by rw [List.take_zero, List.map_nil, jd]; decide⟩, trivial, ⟨rfl, rfl, by rw [List.take_zero, List.map_nil, jd]; rfl, rfl, trivial⟩, ⟨rfl, rfl, trivial⟩⟩
  clear h
  rintro v k ⟨hkz, hkl⟩
  repeat (first | ((with_reducible refine zJ ?_); refine zK rfl ?_) | ((with_reducible refine zM ?_); refine zI tbOk rfl rfl rfl rfl ?_) | ((with_reducible refine zQ ?_); refine zO tbOk rfl rfl rfl rfl rfl ?_) | ((with_reducible refine zq ?_); refine yI tbOk rfl rfl ?_) | ((with_reducible refine zR ?_); refine zS rfl rfl rfl ?_)  | refine zL ?_ | refine zB rfl ?_ | with_reducible (first | refine zG ?_ | refine zH ?_) | ((with_reducible refine zA ?_ ?_); kernel_rfl))
  refine zX rfl (fun h => ?_) (fun h => ?_)
  · have hlt : k < d.zone.length := by simpa using h
    obtain ⟨z, hz⟩ := zc hlt
    have hy := aM hz
    obtain ⟨hz0, hz1⟩ := hzo.2.1 z (List.mem_of_getElem? hz)
    obtain ⟨x, hx, hxe⟩ := lY ⟨hz0, hz1⟩
    have hyn := rO hx
    have hxl : x.n.data.toList.length ≤ 12 := (bT ((kI hd.net).1 x (List.mem_of_getElem? hx))).2.2
    have hj : yW (qi :: (d.zone.take (k + 1)).map (nodN N)) = yW (qi :: (d.zone.take k).map (nodN N)) ++ 32 :: x.n.data.toList := by
      rw [jg hz, List.map_append, ← List.cons_append, List.map_cons, List.map_nil, iM, if_neg (by simp), hxe]
    obtain ⟨J, hJ⟩ : ∃ J, J = yW (qi :: (d.zone.take k).map (nodN N)) := ⟨_, rfl⟩
    have hzN : d.zone.length ≤ 32 := by have := hzo.2.2; omega
    rw [← hJ] at hkl hj ⊢
    repeat (first | ((with_reducible refine zJ ?_); refine zK rfl ?_) | ((with_reducible refine zM ?_); (first | refine zI tbOk rfl rfl rfl rfl ?_ | refine yN tbOk rfl rfl rfl rfl ?_)) | ((with_reducible refine zQ ?_); (first | refine zO tbOk rfl rfl rfl rfl rfl ?_ | refine zb tbOk rfl rfl rfl ?_)) | ((with_reducible refine zY ?_); (first | refine zZ tbOk rfl rfl rfl rfl (by assumption) ?_ | refine yQ tbOk rfl rfl rfl rfl (by omega) (by assumption) ?_))  | refine zB rfl ?_ | with_reducible (first | refine zG ?_ | refine zH ?_ | refine zV ?_ | refine zT ?_) | ((with_reducible refine yO mixd ?_ ?_); kernel_rfl))
    with_reducible refine zR ?_
    refine yY (a := strL ([32])) (b := strL (x.n.data.toList)) rfl rfl (by rw [zt, zt]; simp only [List.length_append, List.length_cons, List.length_nil]; omega) ?_
    rw [yZ]
    repeat (first   | refine zB rfl ?_  )
    with_reducible refine zR ?_
    refine yY (a := strL (A ++ 10 :: J)) (b := strL ([32] ++ x.n.data.toList)) rfl rfl (by rw [zt, zt]; simp only [List.length_append, List.length_cons, List.length_nil]; omega) ?_
    rw [yZ]
    repeat (first | ((with_reducible refine zJ ?_); refine zK rfl ?_) | ((with_reducible refine zF ?_); refine zE rfl ?_) | ((with_reducible refine zR ?_); refine zk rfl rfl (by omega) ?_)  | refine zL ?_ | refine yS (by kernel_rfl) ?_ | refine zB rfl ?_ | with_reducible (first | refine zG ?_ | refine zo ?_) | ((with_reducible refine zA ?_ ?_); kernel_rfl))
    exact ⟨k + 1, ⟨by omega, by rw [hj]; simp only [List.length_append, List.length_cons]; omega⟩, by omega, ⟨rfl, rfl, by rw [hj]; exact congrArg svL (by simp), rfl, trivial⟩, ⟨rfl, rfl, trivial⟩⟩
  have hge : k = d.zone.length := by simp at h; omega
  subst hge
  rw [List.take_length] at hkl ⊢
  have ez : qi :: d.zone.map (nodN N) = qr N d := rfl
  rw [ez] at hkl ⊢
  have hzN : d.zone.length ≤ 32 := by have := hzo.2.2; omega
  obtain ⟨B, hB⟩ : ∃ B, B = yW (qr N d) := ⟨_, rfl⟩
  rw [← hB] at hkl ⊢
  have eT : A ++ 10 :: B ++ [10] = jQ [A, B] := by simp [jQ]
  repeat (first | ((with_reducible refine zJ ?_); refine zK rfl ?_)  | refine zB rfl ?_ | with_reducible (first | refine zG ?_ | refine zj ?_ | refine zH ?_ | refine zz ?_) | ((with_reducible refine zg ?_ ?_); rfl) | ((with_reducible refine zA ?_ ?_); kernel_rfl))
  with_reducible refine zR ?_
  refine yY (a := strL (A ++ 10 :: B)) (b := strL ([10])) rfl rfl (by rw [zt, zt]; simp only [List.length_append, List.length_cons, List.length_nil]; omega) ?_
  rw [yZ, eT]
  repeat (first | ((with_reducible refine zF ?_); refine zE rfl ?_)  | refine zL ?_ | refine zB rfl ?_ | with_reducible (first | refine zG ?_ | refine zH ?_ | refine zV ?_) | ((with_reducible refine zA ?_ ?_); kernel_rfl))
  have hT2 : (jQ [A, B]).length ≤ 1200 := by rw [← eT]; simp only [List.length_append, List.length_cons, List.length_nil]; omega
  refine yJ (ι := Nat) (fun k => k ≤ d.lk.length ∧ (jQ (A :: B :: (d.lk.take k).map (fun k => yW (jm V k)))).length ≤ 1200 + 120 * k) (fun k => d.lk.length - k) (fun v k => [(2, .ptr 2 (v 2) 0), (3, .ptr 3 (v 3) 0), (7, svL (jQ (A :: B :: (d.lk.take k).map (fun k => yW (jm V k))))), (9, .v (.int .i64 (k : Nat)))]) (fun v k => [(2, .box [.sl 3 (N.map Nd.av), .sl 5 (V.map Dv.av)]), (3, .box d.cells)]) ?_ ?_
  · exact ⟨0, ⟨Nat.zero_le _, hT2⟩, trivial, ⟨rfl, rfl, rfl, rfl, trivial⟩, ⟨rfl, rfl, trivial⟩⟩
  clear h v
  rintro v k ⟨hkl2, hkt⟩
  repeat (first | ((with_reducible refine zJ ?_); refine zK rfl ?_) | ((with_reducible refine zM ?_); refine zI tbOk rfl rfl rfl rfl ?_) | ((with_reducible refine zQ ?_); refine zO tbOk rfl rfl rfl rfl rfl ?_) | ((with_reducible refine zq ?_); refine yI tbOk rfl rfl ?_) | ((with_reducible refine zR ?_); refine zS rfl rfl rfl ?_)  | refine zL ?_ | refine zB rfl ?_ | with_reducible (first | refine zG ?_ | refine zH ?_) | ((with_reducible refine zA ?_ ?_); kernel_rfl))
  refine zX rfl (fun h => ?_) (fun h => ?_)
  · have hlt : k < d.lk.length := by simpa using h
    obtain ⟨q, hq⟩ := zc hlt
    have hy := vG hq
    have hqm := List.mem_of_getElem? hq
    obtain ⟨q1, q2, q3⟩ := hlo.2 q hqm
    have hwl := (qe (nF hd hqm)).2
    have hwl5 : (jm V q).length = 5 := rfl
    have h128 := hlo.1
    obtain ⟨T, hT⟩ : ∃ T, T = jQ (A :: B :: (d.lk.take k).map (fun k => yW (jm V k))) := ⟨_, rfl⟩
    have hTn : jQ (A :: B :: (d.lk.take (k + 1)).map (fun k => yW (jm V k))) = T ++ (yW (jm V q) ++ [10]) := by
      rw [jg hq, List.map_append, ← List.cons_append, ← List.cons_append, dD, hT]; simp [jQ]
    rw [← hT] at hkt ⊢
    repeat (first | ((with_reducible refine zJ ?_); refine zK rfl ?_) | ((with_reducible refine zM ?_); refine zI tbOk rfl rfl rfl rfl ?_) | ((with_reducible refine zQ ?_); (first | refine zO tbOk rfl rfl rfl rfl rfl ?_ | refine za tbOk rfl rfl rfl rfl (Nat.le_of_ble_eq_true rfl) ?_ | refine yK tbOk rfl rfl (Nat.le_of_ble_eq_true rfl) ?_)) | ((with_reducible refine zY ?_); refine zZ tbOk rfl rfl rfl rfl (by assumption) ?_)  | refine zB rfl ?_ | with_reducible (first | refine zG ?_ | refine zH ?_ | refine zV ?_ | refine zT ?_) | ((with_reducible refine yO mixd ?_ ?_); kernel_rfl))
    refine zC (vO N V q (fun x hx => (bT ((lM hd.net).1 x hx)).2.2) q1 q2 q3) ?_
    repeat (first   | refine zB rfl ?_  )
    with_reducible refine zR ?_
    refine yY (a := strL (yW (jm V q))) (b := strL ([10])) rfl rfl (by rw [zt, zt]; simp only [List.length_append, List.length_cons, List.length_nil]; omega) ?_
    rw [yZ]
    repeat (first   | refine zB rfl ?_  )
    with_reducible refine zR ?_
    refine yY (a := strL (T)) (b := strL (yW (jm V q) ++ [10])) rfl rfl (by rw [zt, zt]; simp only [List.length_append, List.length_cons, List.length_nil]; omega) ?_
    rw [yZ]
    repeat (first | ((with_reducible refine zJ ?_); refine zK rfl ?_) | ((with_reducible refine zF ?_); refine zE rfl ?_) | ((with_reducible refine zR ?_); refine zk rfl rfl (by omega) ?_)  | refine zL ?_ | refine yS (by kernel_rfl) ?_ | refine zB rfl ?_ | with_reducible (first | refine zG ?_ | refine zo ?_) | ((with_reducible refine zA ?_ ?_); kernel_rfl))
    exact ⟨k + 1, ⟨by omega, by rw [hTn]; simp only [List.length_append, List.length_cons, List.length_nil]; omega⟩, by omega, ⟨rfl, rfl, by rw [hTn]; rfl, rfl, trivial⟩, ⟨rfl, rfl, trivial⟩⟩
  have hge : k = d.lk.length := by simp at h; omega
  subst hge
  rw [List.take_length] at hkt ⊢
  obtain ⟨M, hM⟩ : ∃ M, M = A :: B :: d.lk.map (fun k => yW (jm V k)) := ⟨_, rfl⟩
  rw [← hM] at hkt ⊢
  have h128 := hlo.1
  repeat (first | ((with_reducible refine zF ?_); refine zE rfl ?_)  | refine zL ?_ | refine zB rfl ?_ | with_reducible (first | refine zG ?_ | refine zj ?_ | refine zH ?_ | refine zV ?_ | refine zz ?_) | ((with_reducible refine zg ?_ ?_); rfl) | ((with_reducible refine zA ?_ ?_); kernel_rfl))
  refine yJ (ι := Nat) (fun k => k ≤ d.ce.length ∧ (jQ (M ++ (d.ce.take k).map (fun c => yW (qg c)))).length ≤ 20000 + 120 * k) (fun k => d.ce.length - k) (fun v k => [(2, .ptr 2 (v 2) 0), (3, .ptr 3 (v 3) 0), (7, svL (jQ (M ++ (d.ce.take k).map (fun c => yW (qg c))))), (10, .v (.int .i64 (k : Nat)))]) (fun v k => [(2, .box [.sl 3 (N.map Nd.av), .sl 5 (V.map Dv.av)]), (3, .box d.cells)]) ?_ ?_
  · exact ⟨0, ⟨Nat.zero_le _, by rw [List.take_zero, List.map_nil, List.append_nil]; omega⟩, trivial, ⟨rfl, rfl, by rw [List.take_zero, List.map_nil, List.append_nil]; rfl, rfl, trivial⟩, ⟨rfl, rfl, trivial⟩⟩
  clear h v
  rintro v k ⟨hkc, hkt2⟩
  repeat (first | ((with_reducible refine zJ ?_); refine zK rfl ?_) | ((with_reducible refine zM ?_); refine zI tbOk rfl rfl rfl rfl ?_) | ((with_reducible refine zQ ?_); refine zO tbOk rfl rfl rfl rfl rfl ?_) | ((with_reducible refine zq ?_); refine yI tbOk rfl rfl ?_) | ((with_reducible refine zR ?_); refine zS rfl rfl rfl ?_)  | refine zL ?_ | refine zB rfl ?_ | with_reducible (first | refine zG ?_ | refine zH ?_) | ((with_reducible refine zA ?_ ?_); kernel_rfl))
  refine zX rfl (fun h => ?_) (fun h => ?_)
  · have hlt : k < d.ce.length := by simpa using h
    obtain ⟨c, hc⟩ := zc hlt
    have hy := aM hc
    have hcm := List.mem_of_getElem? hc
    have hc1 := hco.2 c hcm
    have h16 := hco.1
    have hil := qG (n := c) (by omega) (by omega)
    obtain ⟨T, hT⟩ : ∃ T, T = jQ (M ++ (d.ce.take k).map (fun c => yW (qg c))) := ⟨_, rfl⟩
    have ec : yW (qg c) = [99, 101, 114, 116, 105, 102, 105, 99, 97, 116, 101, 32] ++ Lib.itoa c := by unfold qg; rw [yR, jd]; rfl
    have hTn : jQ (M ++ (d.ce.take (k + 1)).map (fun c => yW (qg c))) = T ++ ([99, 101, 114, 116, 105, 102, 105, 99, 97, 116, 101, 32] ++ Lib.itoa c ++ [10]) := by
      rw [jg hc, List.map_append, ← List.append_assoc, dD, hT, ← ec]; simp [jQ]
    rw [← hT] at hkt2 ⊢
    repeat (first | ((with_reducible refine zJ ?_); refine zK rfl ?_) | ((with_reducible refine zM ?_); refine zI tbOk rfl rfl rfl rfl ?_) | ((with_reducible refine zQ ?_); (first | refine zO tbOk rfl rfl rfl rfl rfl ?_ | refine zb tbOk rfl rfl rfl ?_)) | ((with_reducible refine zY ?_); refine zZ tbOk rfl rfl rfl rfl (by assumption) ?_)  | refine zB rfl ?_ | with_reducible (first | refine zG ?_ | refine zH ?_ | refine zV ?_ | refine zT ?_) | ((with_reducible refine zA ?_ ?_); kernel_rfl))
    refine zC (bV c (by omega) (by omega)) ?_
    repeat (first   | refine zB rfl ?_  )
    with_reducible refine zR ?_
    refine yY (a := strL ([99, 101, 114, 116, 105, 102, 105, 99, 97, 116, 101, 32])) (b := strL (Lib.itoa c)) rfl rfl (by rw [zt, zt]; simp only [List.length_append, List.length_cons, List.length_nil]; omega) ?_
    rw [yZ]
    repeat (first   | refine zB rfl ?_  )
    with_reducible refine zR ?_
    refine yY (a := strL ([99, 101, 114, 116, 105, 102, 105, 99, 97, 116, 101, 32] ++ Lib.itoa c)) (b := strL ([10])) rfl rfl (by rw [zt, zt]; simp only [List.length_append, List.length_cons, List.length_nil]; omega) ?_
    rw [yZ]
    repeat (first   | refine zB rfl ?_  )
    with_reducible refine zR ?_
    refine yY (a := strL (T)) (b := strL ([99, 101, 114, 116, 105, 102, 105, 99, 97, 116, 101, 32] ++ Lib.itoa c ++ [10])) rfl rfl (by rw [zt, zt]; simp only [List.length_append, List.length_cons, List.length_nil]; omega) ?_
    rw [yZ]
    repeat (first | ((with_reducible refine zJ ?_); refine zK rfl ?_) | ((with_reducible refine zF ?_); refine zE rfl ?_) | ((with_reducible refine zR ?_); refine zk rfl rfl (by omega) ?_)  | refine zL ?_ | refine zB rfl ?_ | with_reducible (first | refine zG ?_ | refine zo ?_) | ((with_reducible refine zA ?_ ?_); kernel_rfl))
    exact ⟨k + 1, ⟨by omega, by rw [hTn]; simp only [List.length_append, List.length_cons, List.length_nil]; omega⟩, by omega, ⟨rfl, rfl, by rw [hTn]; rfl, rfl, trivial⟩, ⟨rfl, rfl, trivial⟩⟩
  have hge : k = d.ce.length := by simp at h; omega
  subst hge
  rw [List.take_length]
  have eL : M ++ d.ce.map (fun c => yW (qg c)) = qL N V d := by rw [hM, hA, hB]; rfl
  rw [eL]
  repeat (first | ((with_reducible refine zJ ?_); refine zK rfl ?_) | ((with_reducible refine zF ?_); refine zE rfl ?_)  | refine zL ?_ | refine zB rfl ?_ | with_reducible (first | refine zG ?_ | refine zj ?_ | refine zH ?_ | refine zz ?_ | refine zN ?_) | ((with_reducible refine zg ?_ ?_); rfl) | ((with_reducible refine zA ?_ ?_); kernel_rfl))
  refine jD (by first | exact .inr rfl | exact .inl rfl) rfl rfl rfl ?_
  repeat' (first | exact trivial | exact Ren.v _ | exact Ren.sl _ _ | exact Ren.ep _ | exact Ren.ptr _ _ _ _ rfl | exact Ren.bs _ _ _ _ _ rfl | exact Ren.nil _ | exact Ren.own _ _ _ _ ⟨_, rfl⟩ | refine zv ?_ | refine zx ?_ | refine zw ?_ | refine ⟨?_, ?_⟩)
end Go.Proofs.YtjamibeffalhaaaGreatDoor
