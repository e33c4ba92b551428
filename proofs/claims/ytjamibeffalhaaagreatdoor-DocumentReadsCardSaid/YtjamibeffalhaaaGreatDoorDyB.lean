/- The reference of Print, and LockText, by the abstract machine; conditions: none. -/
import Derived.Test.YtjamibeffalhaaaGreatDoorDyA
set_option linter.unusedVariables false
set_option linter.unusedSimpArgs false
namespace Go.Proofs.YtjamibeffalhaaaGreatDoor
open Go Go.RowKit
set_option maxRecDepth 10000
variable {G : Nat → Option (List Value)}
theorem wU (N : List Nd) (V : List Dv) (k : Lk) (hv : ∀ x ∈ V, x.n.data.toList.length ≤ 12) (h1 : 0 ≤ k.d ∧ k.d < V.length) (h2 : k.p = 1 ∨ k.p = 2) (h3 : 0 ≤ k.k ∧ k.k ≤ 65536) : zz Tryz.prog G 35 [jo N V, k.av] [] (svL (yl (jw V k))) [] := by
  obtain ⟨x, hx, hxe⟩ := nK h1
  have hy := nH hx
  have hsl := hv x (List.mem_of_getElem? hx)
  have hp : (wAt posL k.p.toNat).length ≤ 6 := by rcases h2 with e | e <;> rw [e] <;> decide
  have hi := qY (n := k.k) (by omega) (by omega)
  refine zb tbOk (zc Tryz.func35 (by kernel_rfl) rfl) Tryz.func35 rfl _ Tryz.ntmps35 (Nat.le_of_ble_eq_true rfl) fun X hX => ?_
  subst hX
  repeat (first | ((with_reducible refine zE ?_); refine zF rfl ?_) | ((with_reducible refine zM ?_); (first | refine zI tbOk rfl rfl rfl rfl ?_ | refine yW tbOk rfl rfl rfl rfl ?_)) | ((with_reducible refine zR ?_); (first | refine zP tbOk rfl rfl rfl rfl rfl ?_ | refine zW tbOk rfl rfl rfl ?_)) | ((with_reducible refine yr ?_); refine yu rfl rfl rfl ?_) | ((with_reducible refine zU ?_); refine yY tbOk rfl rfl rfl rfl (by omega) (by assumption) ?_)  | refine zL ?_ | refine zB rfl ?_ | with_reducible (first | refine zG ?_ | refine zH ?_) | ((with_reducible refine zA ?_ ?_); kernel_rfl) | ((with_reducible refine yZ mixd ?_ ?_); kernel_rfl))
  with_reducible refine zQ ?_
  refine yc (a := strL ([108, 111, 99, 107, 32])) (b := strL (x.n.data.toList)) rfl rfl (by rw [zy, zy]; simp only [List.length_append, List.length_cons, List.length_nil]; omega) ?_
  rw [yq]
  repeat (first   | refine zB rfl ?_  )
  with_reducible refine zQ ?_
  refine yc (a := strL ([108, 111, 99, 107, 32] ++ x.n.data.toList)) (b := strL ([32])) rfl rfl (by rw [zy, zy]; simp only [List.length_append, List.length_cons, List.length_nil]; omega) ?_
  rw [yq]
  repeat (first | ((with_reducible refine zM ?_); refine zI tbOk rfl rfl rfl rfl ?_) | ((with_reducible refine zR ?_); refine zP tbOk rfl rfl rfl rfl rfl ?_)  | refine zB rfl ?_  )
  refine zC (rpos_A k.p h2) ?_
  repeat (first   | refine zB rfl ?_  )
  with_reducible refine zQ ?_
  refine yc (a := strL ([108, 111, 99, 107, 32] ++ x.n.data.toList ++ [32])) (b := strL (wAt posL k.p.toNat)) rfl rfl (by rw [zy, zy]; simp only [List.length_append, List.length_cons, List.length_nil]; omega) ?_
  rw [yq]
  repeat (first   | refine zB rfl ?_  )
  with_reducible refine zQ ?_
  refine yc (a := strL ([108, 111, 99, 107, 32] ++ x.n.data.toList ++ [32] ++ wAt posL k.p.toNat)) (b := strL ([32, 107, 101, 121, 32])) rfl rfl (by rw [zy, zy]; simp only [List.length_append, List.length_cons, List.length_nil]; omega) ?_
  rw [yq]
  repeat (first | ((with_reducible refine zM ?_); refine zI tbOk rfl rfl rfl rfl ?_) | ((with_reducible refine zR ?_); refine zP tbOk rfl rfl rfl rfl rfl ?_)  | refine zB rfl ?_  )
  refine zC (cA k.k (by omega) (by omega)) ?_
  repeat (first   | refine zB rfl ?_  )
  with_reducible refine zQ ?_
  refine yc (a := strL ([108, 111, 99, 107, 32] ++ x.n.data.toList ++ [32] ++ wAt posL k.p.toNat ++ [32, 107, 101, 121, 32])) (b := strL (Lib.itoa k.k)) rfl rfl (by rw [zy, zy]; simp only [List.length_append, List.length_cons, List.length_nil]; omega) ?_
  rw [yq]
  repeat (first | ((with_reducible refine zE ?_); refine zF rfl ?_)  | refine yf (by kernel_rfl) ?_ | refine zB rfl ?_ | with_reducible (first | refine zG ?_ | refine zN ?_) )
  refine zm (by first | exact .inr rfl | exact .inl rfl) rfl rfl ?_
  refine congrArg svL ?_
  unfold jw
  rw [yX, yX, yX, yX, jq, hxe]
  simp [bC, keyL]
theorem vL (d : Dc) (T : List UInt8) : wAt yx d.kind.toNat ++ [32] ++ Lib.itoa d.num ++ [32, 115, 116, 97, 116, 101, 32] ++ wAt yn d.st.toNat ++ [32, 114, 111, 117, 110, 100, 32] ++ Lib.itoa d.rd ++ [32, 115, 97, 102, 101, 32] ++ Lib.itoa d.safe ++ [32, 105, 115, 115, 117, 101, 114, 32] ++ d.iss.data.toList ++ [32, 104, 111, 108, 100, 101, 114, 32] ++ d.hol.data.toList ++ [32, 102, 114, 111, 109, 32] ++ Lib.itoa d.f ++ [32, 117, 110, 116, 105, 108, 32] ++ Lib.itoa d.u ++ [10, 122, 111, 110, 101] = yl (aH d) ++ 10 :: qW := by
  unfold aH
  rw [yX, yX, yX, yX, yX, yX, yX, yX, yX, yX, yX, yX, yX, yX, yX, jq]
  simp [cN, cV, gV, aU, aW, gZ, cM, qW]
set_option maxHeartbeats 8000000 in
theorem xN (N : List Nd) (V : List Dv) (d : Dc) (hG : GCls G) (ok : NwOk N V) (od : DcSz d) : zz Tryz.prog G 12 [jo N V, d.av] [] (.tu [.v (.string (qA N V d).1), .v (.int .i64 (qA N V d).2)]) [] := by
  by_cases hd0 : docE N V d ≠ 0
  · have e : qA N V d = (⟨#[]⟩, docE N V d) := by unfold qA; rw [if_pos hd0]
    rw [e]
    refine zb tbOk (zc Tryz.func12 (by kernel_rfl) rfl) Tryz.func12 rfl _ Tryz.ntmps12 (Nat.le_of_ble_eq_true rfl) fun X hX => ?_
    subst hX
    repeat (first | ((with_reducible refine zE ?_); refine zF rfl ?_) | ((with_reducible refine zR ?_); refine zk tbOk rfl rfl rfl rfl (Nat.le_of_ble_eq_true rfl) ?_) | ((with_reducible refine yr ?_); refine yu rfl rfl rfl ?_)  | refine zL ?_ | refine zB rfl ?_ | with_reducible (first | refine zG ?_ | refine zH ?_) | ((with_reducible refine zA ?_ ?_); kernel_rfl))
    refine zC (gN N V d hG ok od) ?_
    repeat (first | ((with_reducible refine zK ?_); refine zJ rfl ?_) | ((with_reducible refine zE ?_); refine zF rfl ?_) | ((with_reducible refine zQ ?_); refine zT rfl rfl rfl ?_)  | refine zL ?_ | refine zB rfl ?_ | with_reducible (first | refine zG ?_ | refine zH ?_) | ((with_reducible refine zA ?_ ?_); kernel_rfl))
    refine zZ rfl (fun h => ?_) (fun h => ?_)
    · repeat (first | ((with_reducible refine zK ?_); refine zJ rfl ?_) | ((with_reducible refine zE ?_); refine zF rfl ?_)  | refine zL ?_ | refine zB rfl ?_ | with_reducible (first | refine zG ?_ | refine zO ?_ | refine zH ?_ | refine zN ?_) | ((with_reducible refine zA ?_ ?_); kernel_rfl))
      refine yp (by first | exact .inr rfl | exact .inl rfl) rfl rfl rfl ?_
      repeat' (first | exact trivial | exact Ren.v _ | exact Ren.sl _ _ | exact Ren.ep _ | exact Ren.ptr _ _ _ _ rfl | exact Ren.bs _ _ _ _ _ rfl | exact Ren.nil _ | exact Ren.own _ _ _ _ ⟨_, rfl⟩ | refine zi ?_ | refine zj ?_ | refine zl ?_ | refine ⟨?_, ?_⟩)
    · exact absurd (by simpa using h) hd0
  have e : qA N V d = (strL (jY (qO N V d)), 0) := by unfold qA; rw [if_neg hd0]
  have hd : DcOk N V d := fE.1 (by simpa using hd0)
  have hk := hd.kind
  have hst := hd.st
  have hnum := hd.num
  have hrd := hd.rd
  have hsf := hd.safe
  have hsp := nS hd.span
  have hzo := fL hd.zone
  have hlo := kJ hd.lk
  have hco := iK hd.ce
  have hNl : N.length ≤ 32 := (bN hd.net).1
  have hy1 : (yx.map svL)[d.kind.toNat]? = some (svL (wAt yx d.kind.toNat)) := jH (by show d.kind.toNat < 4; omega)
  have hy2 : (yn.map svL)[d.st.toNat]? = some (svL (wAt yn d.st.toNat)) := jH (by show d.st.toNat < 6; omega)
  have s1 := (tB hd.kind).1.2.2.2
  have s2 := (oQ hd.st).1.2.2.2
  have s3 := (aA hd.iss).2.2
  have s4 := (aA hd.hol).2.2
  have i1 := qY (n := d.num) (by omega) (by omega)
  have i2 := qY (n := d.rd) (by omega) (by omega)
  have i3 := qY (n := d.safe) (by omega) (by omega)
  have i4 := qY (n := d.f) (by omega) (by omega)
  have i5 := qY (n := d.u) (by omega) (by omega)
  rw [e]
  refine zb tbOk (zc Tryz.func12 (by kernel_rfl) rfl) Tryz.func12 rfl _ Tryz.ntmps12 (Nat.le_of_ble_eq_true rfl) fun X hX => ?_
  subst hX
  repeat (first | ((with_reducible refine zE ?_); refine zF rfl ?_) | ((with_reducible refine zR ?_); refine zk tbOk rfl rfl rfl rfl (Nat.le_of_ble_eq_true rfl) ?_) | ((with_reducible refine yr ?_); refine yu rfl rfl rfl ?_)  | refine zL ?_ | refine zB rfl ?_ | with_reducible (first | refine zG ?_ | refine zH ?_) | ((with_reducible refine zA ?_ ?_); kernel_rfl))
  refine zC (gN N V d hG ok od) ?_
  repeat (first | ((with_reducible refine zK ?_); refine zJ rfl ?_) | ((with_reducible refine zE ?_); refine zF rfl ?_) | ((with_reducible refine zQ ?_); refine zT rfl rfl rfl ?_)  | refine zL ?_ | refine zB rfl ?_ | with_reducible (first | refine zG ?_ | refine zH ?_) | ((with_reducible refine zA ?_ ?_); kernel_rfl))
  refine zZ rfl (fun h => ?_) (fun h => ?_)
  · exact absurd (by simpa using h) hd0
  repeat (first   | refine zB rfl ?_ | with_reducible (first | refine zG ?_ | refine zH ?_ | refine zS ?_) | ((with_reducible refine yZ mixd ?_ ?_); kernel_rfl))
  refine zC (rB) ?_
  repeat (first | ((with_reducible refine zM ?_); refine zI tbOk rfl rfl rfl rfl ?_) | ((with_reducible refine zR ?_); (first | refine zP tbOk rfl rfl rfl rfl rfl ?_ | refine zW tbOk rfl rfl rfl ?_)) | ((with_reducible refine zU ?_); refine yY tbOk rfl rfl rfl rfl (by omega) (by assumption) ?_)  | refine zB rfl ?_  )
  with_reducible refine zQ ?_
  refine yc (a := strL (wAt yx d.kind.toNat)) (b := strL ([32])) rfl rfl (by rw [zy, zy]; simp only [List.length_append, List.length_cons, List.length_nil]; omega) ?_
  rw [yq]
  repeat (first | ((with_reducible refine zM ?_); refine zI tbOk rfl rfl rfl rfl ?_) | ((with_reducible refine zR ?_); refine zP tbOk rfl rfl rfl rfl rfl ?_)  | refine zB rfl ?_  )
  refine zC (cA d.num (by omega) (by omega)) ?_
  repeat (first   | refine zB rfl ?_  )
  with_reducible refine zQ ?_
  refine yc (a := strL (wAt yx d.kind.toNat ++ [32])) (b := strL (Lib.itoa d.num)) rfl rfl (by rw [zy, zy]; simp only [List.length_append, List.length_cons, List.length_nil]; omega) ?_
  rw [yq]
  repeat (first   | refine zB rfl ?_  )
  with_reducible refine zQ ?_
  refine yc (a := strL (wAt yx d.kind.toNat ++ [32] ++ Lib.itoa d.num)) (b := strL ([32, 115, 116, 97, 116, 101, 32])) rfl rfl (by rw [zy, zy]; simp only [List.length_append, List.length_cons, List.length_nil]; omega) ?_
  rw [yq]
  repeat (first   | refine zB rfl ?_  )
  refine zC (mI) ?_
  repeat (first | ((with_reducible refine zM ?_); refine zI tbOk rfl rfl rfl rfl ?_) | ((with_reducible refine zR ?_); (first | refine zP tbOk rfl rfl rfl rfl rfl ?_ | refine zW tbOk rfl rfl rfl ?_)) | ((with_reducible refine zU ?_); refine yY tbOk rfl rfl rfl rfl (by omega) (by assumption) ?_)  | refine zB rfl ?_  )
  with_reducible refine zQ ?_
  refine yc (a := strL (wAt yx d.kind.toNat ++ [32] ++ Lib.itoa d.num ++ [32, 115, 116, 97, 116, 101, 32])) (b := strL (wAt yn d.st.toNat)) rfl rfl (by rw [zy, zy]; simp only [List.length_append, List.length_cons, List.length_nil]; omega) ?_
  rw [yq]
  repeat (first   | refine zB rfl ?_  )
  with_reducible refine zQ ?_
  refine yc (a := strL (wAt yx d.kind.toNat ++ [32] ++ Lib.itoa d.num ++ [32, 115, 116, 97, 116, 101, 32] ++ wAt yn d.st.toNat)) (b := strL ([32, 114, 111, 117, 110, 100, 32])) rfl rfl (by rw [zy, zy]; simp only [List.length_append, List.length_cons, List.length_nil]; omega) ?_
  rw [yq]
  repeat (first | ((with_reducible refine zM ?_); refine zI tbOk rfl rfl rfl rfl ?_) | ((with_reducible refine zR ?_); refine zP tbOk rfl rfl rfl rfl rfl ?_)  | refine zB rfl ?_  )
  refine zC (cA d.rd (by omega) (by omega)) ?_
  repeat (first   | refine zB rfl ?_  )
  with_reducible refine zQ ?_
  refine yc (a := strL (wAt yx d.kind.toNat ++ [32] ++ Lib.itoa d.num ++ [32, 115, 116, 97, 116, 101, 32] ++ wAt yn d.st.toNat ++ [32, 114, 111, 117, 110, 100, 32])) (b := strL (Lib.itoa d.rd)) rfl rfl (by rw [zy, zy]; simp only [List.length_append, List.length_cons, List.length_nil]; omega) ?_
  rw [yq]
  repeat (first   | refine zB rfl ?_  )
  with_reducible refine zQ ?_
  refine yc (a := strL (wAt yx d.kind.toNat ++ [32] ++ Lib.itoa d.num ++ [32, 115, 116, 97, 116, 101, 32] ++ wAt yn d.st.toNat ++ [32, 114, 111, 117, 110, 100, 32] ++ Lib.itoa d.rd)) (b := strL ([32, 115, 97, 102, 101, 32])) rfl rfl (by rw [zy, zy]; simp only [List.length_append, List.length_cons, List.length_nil]; omega) ?_
  rw [yq]
  repeat (first | ((with_reducible refine zM ?_); refine zI tbOk rfl rfl rfl rfl ?_) | ((with_reducible refine zR ?_); refine zP tbOk rfl rfl rfl rfl rfl ?_)  | refine zB rfl ?_  )
  refine zC (cA d.safe (by omega) (by omega)) ?_
  repeat (first   | refine zB rfl ?_  )
  with_reducible refine zQ ?_
  refine yc (a := strL (wAt yx d.kind.toNat ++ [32] ++ Lib.itoa d.num ++ [32, 115, 116, 97, 116, 101, 32] ++ wAt yn d.st.toNat ++ [32, 114, 111, 117, 110, 100, 32] ++ Lib.itoa d.rd ++ [32, 115, 97, 102, 101, 32])) (b := strL (Lib.itoa d.safe)) rfl rfl (by rw [zy, zy]; simp only [List.length_append, List.length_cons, List.length_nil]; omega) ?_
  rw [yq]
  repeat (first   | refine zB rfl ?_  )
  with_reducible refine zQ ?_
  refine yc (a := strL (wAt yx d.kind.toNat ++ [32] ++ Lib.itoa d.num ++ [32, 115, 116, 97, 116, 101, 32] ++ wAt yn d.st.toNat ++ [32, 114, 111, 117, 110, 100, 32] ++ Lib.itoa d.rd ++ [32, 115, 97, 102, 101, 32] ++ Lib.itoa d.safe)) (b := strL ([32, 105, 115, 115, 117, 101, 114, 32])) rfl rfl (by rw [zy, zy]; simp only [List.length_append, List.length_cons, List.length_nil]; omega) ?_
  rw [yq]
  repeat (first | ((with_reducible refine zM ?_); refine zI tbOk rfl rfl rfl rfl ?_) | ((with_reducible refine zR ?_); refine zP tbOk rfl rfl rfl rfl rfl ?_)  | refine zB rfl ?_  )
  with_reducible refine zQ ?_
  refine yc (a := strL (wAt yx d.kind.toNat ++ [32] ++ Lib.itoa d.num ++ [32, 115, 116, 97, 116, 101, 32] ++ wAt yn d.st.toNat ++ [32, 114, 111, 117, 110, 100, 32] ++ Lib.itoa d.rd ++ [32, 115, 97, 102, 101, 32] ++ Lib.itoa d.safe ++ [32, 105, 115, 115, 117, 101, 114, 32])) (b := strL (d.iss.data.toList)) rfl rfl (by rw [zy, zy]; simp only [List.length_append, List.length_cons, List.length_nil]; omega) ?_
  rw [yq]
  repeat (first   | refine zB rfl ?_  )
  with_reducible refine zQ ?_
  refine yc (a := strL (wAt yx d.kind.toNat ++ [32] ++ Lib.itoa d.num ++ [32, 115, 116, 97, 116, 101, 32] ++ wAt yn d.st.toNat ++ [32, 114, 111, 117, 110, 100, 32] ++ Lib.itoa d.rd ++ [32, 115, 97, 102, 101, 32] ++ Lib.itoa d.safe ++ [32, 105, 115, 115, 117, 101, 114, 32] ++ d.iss.data.toList)) (b := strL ([32, 104, 111, 108, 100, 101, 114, 32])) rfl rfl (by rw [zy, zy]; simp only [List.length_append, List.length_cons, List.length_nil]; omega) ?_
  rw [yq]
  repeat (first | ((with_reducible refine zM ?_); refine zI tbOk rfl rfl rfl rfl ?_) | ((with_reducible refine zR ?_); refine zP tbOk rfl rfl rfl rfl rfl ?_)  | refine zB rfl ?_  )
  with_reducible refine zQ ?_
  refine yc (a := strL (wAt yx d.kind.toNat ++ [32] ++ Lib.itoa d.num ++ [32, 115, 116, 97, 116, 101, 32] ++ wAt yn d.st.toNat ++ [32, 114, 111, 117, 110, 100, 32] ++ Lib.itoa d.rd ++ [32, 115, 97, 102, 101, 32] ++ Lib.itoa d.safe ++ [32, 105, 115, 115, 117, 101, 114, 32] ++ d.iss.data.toList ++ [32, 104, 111, 108, 100, 101, 114, 32])) (b := strL (d.hol.data.toList)) rfl rfl (by rw [zy, zy]; simp only [List.length_append, List.length_cons, List.length_nil]; omega) ?_
  rw [yq]
  repeat (first   | refine zB rfl ?_  )
  with_reducible refine zQ ?_
  refine yc (a := strL (wAt yx d.kind.toNat ++ [32] ++ Lib.itoa d.num ++ [32, 115, 116, 97, 116, 101, 32] ++ wAt yn d.st.toNat ++ [32, 114, 111, 117, 110, 100, 32] ++ Lib.itoa d.rd ++ [32, 115, 97, 102, 101, 32] ++ Lib.itoa d.safe ++ [32, 105, 115, 115, 117, 101, 114, 32] ++ d.iss.data.toList ++ [32, 104, 111, 108, 100, 101, 114, 32] ++ d.hol.data.toList)) (b := strL ([32, 102, 114, 111, 109, 32])) rfl rfl (by rw [zy, zy]; simp only [List.length_append, List.length_cons, List.length_nil]; omega) ?_
  rw [yq]
  repeat (first | ((with_reducible refine zM ?_); refine zI tbOk rfl rfl rfl rfl ?_) | ((with_reducible refine zR ?_); refine zP tbOk rfl rfl rfl rfl rfl ?_)  | refine zB rfl ?_  )
  refine zC (cA d.f (by omega) (by omega)) ?_
  repeat (first   | refine zB rfl ?_  )
  with_reducible refine zQ ?_
  refine yc (a := strL (wAt yx d.kind.toNat ++ [32] ++ Lib.itoa d.num ++ [32, 115, 116, 97, 116, 101, 32] ++ wAt yn d.st.toNat ++ [32, 114, 111, 117, 110, 100, 32] ++ Lib.itoa d.rd ++ [32, 115, 97, 102, 101, 32] ++ Lib.itoa d.safe ++ [32, 105, 115, 115, 117, 101, 114, 32] ++ d.iss.data.toList ++ [32, 104, 111, 108, 100, 101, 114, 32] ++ d.hol.data.toList ++ [32, 102, 114, 111, 109, 32])) (b := strL (Lib.itoa d.f)) rfl rfl (by rw [zy, zy]; simp only [List.length_append, List.length_cons, List.length_nil]; omega) ?_
  rw [yq]
  repeat (first   | refine zB rfl ?_  )
  with_reducible refine zQ ?_
  refine yc (a := strL (wAt yx d.kind.toNat ++ [32] ++ Lib.itoa d.num ++ [32, 115, 116, 97, 116, 101, 32] ++ wAt yn d.st.toNat ++ [32, 114, 111, 117, 110, 100, 32] ++ Lib.itoa d.rd ++ [32, 115, 97, 102, 101, 32] ++ Lib.itoa d.safe ++ [32, 105, 115, 115, 117, 101, 114, 32] ++ d.iss.data.toList ++ [32, 104, 111, 108, 100, 101, 114, 32] ++ d.hol.data.toList ++ [32, 102, 114, 111, 109, 32] ++ Lib.itoa d.f)) (b := strL ([32, 117, 110, 116, 105, 108, 32])) rfl rfl (by rw [zy, zy]; simp only [List.length_append, List.length_cons, List.length_nil]; omega) ?_
  rw [yq]
  repeat (first | ((with_reducible refine zM ?_); refine zI tbOk rfl rfl rfl rfl ?_) | ((with_reducible refine zR ?_); refine zP tbOk rfl rfl rfl rfl rfl ?_)  | refine zB rfl ?_  )
  refine zC (cA d.u (by omega) (by omega)) ?_
  repeat (first   | refine zB rfl ?_  )
  with_reducible refine zQ ?_
  refine yc (a := strL (wAt yx d.kind.toNat ++ [32] ++ Lib.itoa d.num ++ [32, 115, 116, 97, 116, 101, 32] ++ wAt yn d.st.toNat ++ [32, 114, 111, 117, 110, 100, 32] ++ Lib.itoa d.rd ++ [32, 115, 97, 102, 101, 32] ++ Lib.itoa d.safe ++ [32, 105, 115, 115, 117, 101, 114, 32] ++ d.iss.data.toList ++ [32, 104, 111, 108, 100, 101, 114, 32] ++ d.hol.data.toList ++ [32, 102, 114, 111, 109, 32] ++ Lib.itoa d.f ++ [32, 117, 110, 116, 105, 108, 32])) (b := strL (Lib.itoa d.u)) rfl rfl (by rw [zy, zy]; simp only [List.length_append, List.length_cons, List.length_nil]; omega) ?_
  rw [yq]
  repeat (first   | refine zB rfl ?_  )
  with_reducible refine zQ ?_
  refine yc (a := strL (wAt yx d.kind.toNat ++ [32] ++ Lib.itoa d.num ++ [32, 115, 116, 97, 116, 101, 32] ++ wAt yn d.st.toNat ++ [32, 114, 111, 117, 110, 100, 32] ++ Lib.itoa d.rd ++ [32, 115, 97, 102, 101, 32] ++ Lib.itoa d.safe ++ [32, 105, 115, 115, 117, 101, 114, 32] ++ d.iss.data.toList ++ [32, 104, 111, 108, 100, 101, 114, 32] ++ d.hol.data.toList ++ [32, 102, 114, 111, 109, 32] ++ Lib.itoa d.f ++ [32, 117, 110, 116, 105, 108, 32] ++ Lib.itoa d.u)) (b := strL ([10, 122, 111, 110, 101])) rfl rfl (by rw [zy, zy]; simp only [List.length_append, List.length_cons, List.length_nil]; omega) ?_
  rw [yq]
  repeat (first | ((with_reducible refine zE ?_); refine zF rfl ?_)  | refine zL ?_ | refine yf (by kernel_rfl) ?_ | refine zB rfl ?_ | with_reducible (first | refine zG ?_ | refine zH ?_ | refine zY ?_) | ((with_reducible refine zA ?_ ?_); kernel_rfl))
  rw [vL d []]
  obtain ⟨A, hA⟩ : ∃ A, A = yl (aH d) := ⟨_, rfl⟩
  have hAl : A.length ≤ 400 := by have h2 := (qk (nD hd)).2; have h3 : (aH d).length = 16 := rfl; rw [hA]; omega
  rw [← hA]
  refine yL (ι := Nat) (fun k => k ≤ d.zone.length ∧ (yl (qW :: (d.zone.take k).map (nodN N))).length ≤ 4 + 21 * k) (fun k => d.zone.length - k) (fun v k => [(2, .ptr 2 (v 2) 0), (3, .ptr 3 (v 3) 0), (7, svL (A ++ 10 :: yl (qW :: (d.zone.take k).map (nodN N)))), (8, .v (.int .i64 (k : Nat)))]) (fun v k => [(2, .box [.sl 3 (N.map Nd.av), .sl 5 (V.map Dv.av)]), (3, .box d.cells)]) ?_ ?_
  · exact ⟨0, ⟨Nat.zero_le _, by rw [List.take_zero, List.map_nil, jq]; decide⟩, trivial, ⟨rfl, rfl, by rw [List.take_zero, List.map_nil, jq]; rfl, rfl, trivial⟩, ⟨rfl, rfl, trivial⟩⟩
  clear h
  rintro v k ⟨hkz, hkl⟩
  repeat (first | ((with_reducible refine zK ?_); refine zJ rfl ?_) | ((with_reducible refine zM ?_); refine zI tbOk rfl rfl rfl rfl ?_) | ((with_reducible refine zR ?_); refine zP tbOk rfl rfl rfl rfl rfl ?_) | ((with_reducible refine zt ?_); refine yH tbOk rfl rfl ?_) | ((with_reducible refine zQ ?_); refine zT rfl rfl rfl ?_)  | refine zL ?_ | refine zB rfl ?_ | with_reducible (first | refine zG ?_ | refine zH ?_) | ((with_reducible refine zA ?_ ?_); kernel_rfl))
  refine zZ rfl (fun h => ?_) (fun h => ?_)
  · have hlt : k < d.zone.length := by simpa using h
    obtain ⟨z, hz⟩ := zd hlt
    have hy := aG hz
    obtain ⟨hz0, hz1⟩ := hzo.2.1 z (List.mem_of_getElem? hz)
    obtain ⟨x, hx, hxe⟩ := oD ⟨hz0, hz1⟩
    have hyn := nE hx
    have hxl : x.n.data.toList.length ≤ 12 := (aA ((lV hd.net).1 x (List.mem_of_getElem? hx))).2.2
    have hj : yl (qW :: (d.zone.take (k + 1)).map (nodN N)) = yl (qW :: (d.zone.take k).map (nodN N)) ++ 32 :: x.n.data.toList := by
      rw [jk hz, List.map_append, ← List.cons_append, List.map_cons, List.map_nil, kE, if_neg (by simp), hxe]
    obtain ⟨J, hJ⟩ : ∃ J, J = yl (qW :: (d.zone.take k).map (nodN N)) := ⟨_, rfl⟩
    have hzN : d.zone.length ≤ 32 := by have := hzo.2.2; omega
    rw [← hJ] at hkl hj ⊢
    repeat (first | ((with_reducible refine zK ?_); refine zJ rfl ?_) | ((with_reducible refine zM ?_); (first | refine zI tbOk rfl rfl rfl rfl ?_ | refine yW tbOk rfl rfl rfl rfl ?_)) | ((with_reducible refine zR ?_); (first | refine zP tbOk rfl rfl rfl rfl rfl ?_ | refine zW tbOk rfl rfl rfl ?_)) | ((with_reducible refine zU ?_); (first | refine zX tbOk rfl rfl rfl rfl (by assumption) ?_ | refine yY tbOk rfl rfl rfl rfl (by omega) (by assumption) ?_))  | refine zB rfl ?_ | with_reducible (first | refine zG ?_ | refine zH ?_ | refine zY ?_ | refine zS ?_) | ((with_reducible refine yZ mixd ?_ ?_); kernel_rfl))
    with_reducible refine zQ ?_
    refine yc (a := strL ([32])) (b := strL (x.n.data.toList)) rfl rfl (by rw [zy, zy]; simp only [List.length_append, List.length_cons, List.length_nil]; omega) ?_
    rw [yq]
    repeat (first   | refine zB rfl ?_  )
    with_reducible refine zQ ?_
    refine yc (a := strL (A ++ 10 :: J)) (b := strL ([32] ++ x.n.data.toList)) rfl rfl (by rw [zy, zy]; simp only [List.length_append, List.length_cons, List.length_nil]; omega) ?_
    rw [yq]
    repeat (first | ((with_reducible refine zK ?_); refine zJ rfl ?_) | ((with_reducible refine zE ?_); refine zF rfl ?_) | ((with_reducible refine zQ ?_); refine zg rfl rfl (by omega) ?_)  | refine zL ?_ | refine yf (by kernel_rfl) ?_ | refine zB rfl ?_ | with_reducible (first | refine zG ?_ | refine zu ?_) | ((with_reducible refine zA ?_ ?_); kernel_rfl))
    exact ⟨k + 1, ⟨by omega, by rw [hj]; simp only [List.length_append, List.length_cons]; omega⟩, by omega, ⟨rfl, rfl, by rw [hj]; exact congrArg svL (by simp), rfl, trivial⟩, ⟨rfl, rfl, trivial⟩⟩
  have hge : k = d.zone.length := by simp at h; omega
  subst hge
  rw [List.take_length] at hkl ⊢
  have ez : qW :: d.zone.map (nodN N) = qv N d := rfl
  rw [ez] at hkl ⊢
  have hzN : d.zone.length ≤ 32 := by have := hzo.2.2; omega
  obtain ⟨B, hB⟩ : ∃ B, B = yl (qv N d) := ⟨_, rfl⟩
  rw [← hB] at hkl ⊢
  have eT : A ++ 10 :: B ++ [10] = jY [A, B] := by simp [jY]
  repeat (first | ((with_reducible refine zK ?_); refine zJ rfl ?_)  | refine zB rfl ?_ | with_reducible (first | refine zG ?_ | refine zo ?_ | refine zH ?_ | refine yB ?_) | ((with_reducible refine ze ?_ ?_); rfl) | ((with_reducible refine zA ?_ ?_); kernel_rfl))
  with_reducible refine zQ ?_
  refine yc (a := strL (A ++ 10 :: B)) (b := strL ([10])) rfl rfl (by rw [zy, zy]; simp only [List.length_append, List.length_cons, List.length_nil]; omega) ?_
  rw [yq, eT]
  repeat (first | ((with_reducible refine zE ?_); refine zF rfl ?_)  | refine zL ?_ | refine zB rfl ?_ | with_reducible (first | refine zG ?_ | refine zH ?_ | refine zY ?_) | ((with_reducible refine zA ?_ ?_); kernel_rfl))
  have hT2 : (jY [A, B]).length ≤ 1200 := by rw [← eT]; simp only [List.length_append, List.length_cons, List.length_nil]; omega
  refine yL (ι := Nat) (fun k => k ≤ d.lk.length ∧ (jY (A :: B :: (d.lk.take k).map (fun k => yl (jw V k)))).length ≤ 1200 + 120 * k) (fun k => d.lk.length - k) (fun v k => [(2, .ptr 2 (v 2) 0), (3, .ptr 3 (v 3) 0), (7, svL (jY (A :: B :: (d.lk.take k).map (fun k => yl (jw V k))))), (9, .v (.int .i64 (k : Nat)))]) (fun v k => [(2, .box [.sl 3 (N.map Nd.av), .sl 5 (V.map Dv.av)]), (3, .box d.cells)]) ?_ ?_
  · exact ⟨0, ⟨Nat.zero_le _, hT2⟩, trivial, ⟨rfl, rfl, rfl, rfl, trivial⟩, ⟨rfl, rfl, trivial⟩⟩
  clear h v
  rintro v k ⟨hkl2, hkt⟩
  repeat (first | ((with_reducible refine zK ?_); refine zJ rfl ?_) | ((with_reducible refine zM ?_); refine zI tbOk rfl rfl rfl rfl ?_) | ((with_reducible refine zR ?_); refine zP tbOk rfl rfl rfl rfl rfl ?_) | ((with_reducible refine zt ?_); refine yH tbOk rfl rfl ?_) | ((with_reducible refine zQ ?_); refine zT rfl rfl rfl ?_)  | refine zL ?_ | refine zB rfl ?_ | with_reducible (first | refine zG ?_ | refine zH ?_) | ((with_reducible refine zA ?_ ?_); kernel_rfl))
  refine zZ rfl (fun h => ?_) (fun h => ?_)
  · have hlt : k < d.lk.length := by simpa using h
    obtain ⟨q, hq⟩ := zd hlt
    have hy := vW hq
    have hqm := List.mem_of_getElem? hq
    obtain ⟨q1, q2, q3⟩ := hlo.2 q hqm
    have hwl := (qk (mV hd hqm)).2
    have hwl5 : (jw V q).length = 5 := rfl
    have h128 := hlo.1
    obtain ⟨T, hT⟩ : ∃ T, T = jY (A :: B :: (d.lk.take k).map (fun k => yl (jw V k))) := ⟨_, rfl⟩
    have hTn : jY (A :: B :: (d.lk.take (k + 1)).map (fun k => yl (jw V k))) = T ++ (yl (jw V q) ++ [10]) := by
      rw [jk hq, List.map_append, ← List.cons_append, ← List.cons_append, dI, hT]; simp [jY]
    rw [← hT] at hkt ⊢
    repeat (first | ((with_reducible refine zK ?_); refine zJ rfl ?_) | ((with_reducible refine zM ?_); refine zI tbOk rfl rfl rfl rfl ?_) | ((with_reducible refine zR ?_); (first | refine zP tbOk rfl rfl rfl rfl rfl ?_ | refine zk tbOk rfl rfl rfl rfl (Nat.le_of_ble_eq_true rfl) ?_ | refine yj tbOk rfl rfl (Nat.le_of_ble_eq_true rfl) ?_)) | ((with_reducible refine zU ?_); refine zX tbOk rfl rfl rfl rfl (by assumption) ?_)  | refine zB rfl ?_ | with_reducible (first | refine zG ?_ | refine zH ?_ | refine zY ?_ | refine zS ?_) | ((with_reducible refine yZ mixd ?_ ?_); kernel_rfl))
    refine zC (wU N V q (fun x hx => (aA ((lQ hd.net).1 x hx)).2.2) q1 q2 q3) ?_
    repeat (first   | refine zB rfl ?_  )
    with_reducible refine zQ ?_
    refine yc (a := strL (yl (jw V q))) (b := strL ([10])) rfl rfl (by rw [zy, zy]; simp only [List.length_append, List.length_cons, List.length_nil]; omega) ?_
    rw [yq]
    repeat (first   | refine zB rfl ?_  )
    with_reducible refine zQ ?_
    refine yc (a := strL (T)) (b := strL (yl (jw V q) ++ [10])) rfl rfl (by rw [zy, zy]; simp only [List.length_append, List.length_cons, List.length_nil]; omega) ?_
    rw [yq]
    repeat (first | ((with_reducible refine zK ?_); refine zJ rfl ?_) | ((with_reducible refine zE ?_); refine zF rfl ?_) | ((with_reducible refine zQ ?_); refine zg rfl rfl (by omega) ?_)  | refine zL ?_ | refine yf (by kernel_rfl) ?_ | refine zB rfl ?_ | with_reducible (first | refine zG ?_ | refine zu ?_) | ((with_reducible refine zA ?_ ?_); kernel_rfl))
    exact ⟨k + 1, ⟨by omega, by rw [hTn]; simp only [List.length_append, List.length_cons, List.length_nil]; omega⟩, by omega, ⟨rfl, rfl, by rw [hTn]; rfl, rfl, trivial⟩, ⟨rfl, rfl, trivial⟩⟩
  have hge : k = d.lk.length := by simp at h; omega
  subst hge
  rw [List.take_length] at hkt ⊢
  obtain ⟨M, hM⟩ : ∃ M, M = A :: B :: d.lk.map (fun k => yl (jw V k)) := ⟨_, rfl⟩
  rw [← hM] at hkt ⊢
  have h128 := hlo.1
  repeat (first | ((with_reducible refine zE ?_); refine zF rfl ?_)  | refine zL ?_ | refine zB rfl ?_ | with_reducible (first | refine zG ?_ | refine zo ?_ | refine zH ?_ | refine zY ?_ | refine yB ?_) | ((with_reducible refine ze ?_ ?_); rfl) | ((with_reducible refine zA ?_ ?_); kernel_rfl))
  refine yL (ι := Nat) (fun k => k ≤ d.ce.length ∧ (jY (M ++ (d.ce.take k).map (fun c => yl (qs c)))).length ≤ 20000 + 120 * k) (fun k => d.ce.length - k) (fun v k => [(2, .ptr 2 (v 2) 0), (3, .ptr 3 (v 3) 0), (7, svL (jY (M ++ (d.ce.take k).map (fun c => yl (qs c))))), (10, .v (.int .i64 (k : Nat)))]) (fun v k => [(2, .box [.sl 3 (N.map Nd.av), .sl 5 (V.map Dv.av)]), (3, .box d.cells)]) ?_ ?_
  · exact ⟨0, ⟨Nat.zero_le _, by rw [List.take_zero, List.map_nil, List.append_nil]; omega⟩, trivial, ⟨rfl, rfl, by rw [List.take_zero, List.map_nil, List.append_nil]; rfl, rfl, trivial⟩, ⟨rfl, rfl, trivial⟩⟩
  clear h v
  rintro v k ⟨hkc, hkt2⟩
  repeat (first | ((with_reducible refine zK ?_); refine zJ rfl ?_) | ((with_reducible refine zM ?_); refine zI tbOk rfl rfl rfl rfl ?_) | ((with_reducible refine zR ?_); refine zP tbOk rfl rfl rfl rfl rfl ?_) | ((with_reducible refine zt ?_); refine yH tbOk rfl rfl ?_) | ((with_reducible refine zQ ?_); refine zT rfl rfl rfl ?_)  | refine zL ?_ | refine zB rfl ?_ | with_reducible (first | refine zG ?_ | refine zH ?_) | ((with_reducible refine zA ?_ ?_); kernel_rfl))
  refine zZ rfl (fun h => ?_) (fun h => ?_)
  · have hlt : k < d.ce.length := by simpa using h
    obtain ⟨c, hc⟩ := zd hlt
    have hy := aG hc
    have hcm := List.mem_of_getElem? hc
    have hc1 := hco.2 c hcm
    have h16 := hco.1
    have hil := qY (n := c) (by omega) (by omega)
    obtain ⟨T, hT⟩ : ∃ T, T = jY (M ++ (d.ce.take k).map (fun c => yl (qs c))) := ⟨_, rfl⟩
    have ec : yl (qs c) = [99, 101, 114, 116, 105, 102, 105, 99, 97, 116, 101, 32] ++ Lib.itoa c := by unfold qs; rw [yX, jq]; rfl
    have hTn : jY (M ++ (d.ce.take (k + 1)).map (fun c => yl (qs c))) = T ++ ([99, 101, 114, 116, 105, 102, 105, 99, 97, 116, 101, 32] ++ Lib.itoa c ++ [10]) := by
      rw [jk hc, List.map_append, ← List.append_assoc, dI, hT, ← ec]; simp [jY]
    rw [← hT] at hkt2 ⊢
    repeat (first | ((with_reducible refine zK ?_); refine zJ rfl ?_) | ((with_reducible refine zM ?_); refine zI tbOk rfl rfl rfl rfl ?_) | ((with_reducible refine zR ?_); (first | refine zP tbOk rfl rfl rfl rfl rfl ?_ | refine zW tbOk rfl rfl rfl ?_)) | ((with_reducible refine zU ?_); refine zX tbOk rfl rfl rfl rfl (by assumption) ?_)  | refine zB rfl ?_ | with_reducible (first | refine zG ?_ | refine zH ?_ | refine zY ?_ | refine zS ?_) | ((with_reducible refine zA ?_ ?_); kernel_rfl))
    refine zC (cA c (by omega) (by omega)) ?_
    repeat (first   | refine zB rfl ?_  )
    with_reducible refine zQ ?_
    refine yc (a := strL ([99, 101, 114, 116, 105, 102, 105, 99, 97, 116, 101, 32])) (b := strL (Lib.itoa c)) rfl rfl (by rw [zy, zy]; simp only [List.length_append, List.length_cons, List.length_nil]; omega) ?_
    rw [yq]
    repeat (first   | refine zB rfl ?_  )
    with_reducible refine zQ ?_
    refine yc (a := strL ([99, 101, 114, 116, 105, 102, 105, 99, 97, 116, 101, 32] ++ Lib.itoa c)) (b := strL ([10])) rfl rfl (by rw [zy, zy]; simp only [List.length_append, List.length_cons, List.length_nil]; omega) ?_
    rw [yq]
    repeat (first   | refine zB rfl ?_  )
    with_reducible refine zQ ?_
    refine yc (a := strL (T)) (b := strL ([99, 101, 114, 116, 105, 102, 105, 99, 97, 116, 101, 32] ++ Lib.itoa c ++ [10])) rfl rfl (by rw [zy, zy]; simp only [List.length_append, List.length_cons, List.length_nil]; omega) ?_
    rw [yq]
    repeat (first | ((with_reducible refine zK ?_); refine zJ rfl ?_) | ((with_reducible refine zE ?_); refine zF rfl ?_) | ((with_reducible refine zQ ?_); refine zg rfl rfl (by omega) ?_)  | refine zL ?_ | refine zB rfl ?_ | with_reducible (first | refine zG ?_ | refine zu ?_) | ((with_reducible refine zA ?_ ?_); kernel_rfl))
    exact ⟨k + 1, ⟨by omega, by rw [hTn]; simp only [List.length_append, List.length_cons, List.length_nil]; omega⟩, by omega, ⟨rfl, rfl, by rw [hTn]; rfl, rfl, trivial⟩, ⟨rfl, rfl, trivial⟩⟩
  have hge : k = d.ce.length := by simp at h; omega
  subst hge
  rw [List.take_length]
  have eL : M ++ d.ce.map (fun c => yl (qs c)) = qO N V d := by rw [hM, hA, hB]; rfl
  rw [eL]
  repeat (first | ((with_reducible refine zK ?_); refine zJ rfl ?_) | ((with_reducible refine zE ?_); refine zF rfl ?_)  | refine zL ?_ | refine zB rfl ?_ | with_reducible (first | refine zG ?_ | refine zo ?_ | refine zH ?_ | refine yB ?_ | refine zN ?_) | ((with_reducible refine ze ?_ ?_); rfl) | ((with_reducible refine zA ?_ ?_); kernel_rfl))
  refine yp (by first | exact .inr rfl | exact .inl rfl) rfl rfl rfl ?_
  repeat' (first | exact trivial | exact Ren.v _ | exact Ren.sl _ _ | exact Ren.ep _ | exact Ren.ptr _ _ _ _ rfl | exact Ren.bs _ _ _ _ _ rfl | exact Ren.nil _ | exact Ren.own _ _ _ _ ⟨_, rfl⟩ | refine zi ?_ | refine zj ?_ | refine zl ?_ | refine ⟨?_, ?_⟩)
end Go.Proofs.YtjamibeffalhaaaGreatDoor
