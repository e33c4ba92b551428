/- The references of chapter 26: index, number, first, LockOf, by the abstract machine; conditions: none. -/
import Derived.Test.YtjamibeffalhaaaGreatDoorDxG
set_option linter.unusedVariables false
set_option linter.unusedSimpArgs false
namespace Go.Proofs.YtjamibeffalhaaaGreatDoor
open Go Go.RowKit
set_option maxRecDepth 10000
variable {G : Nat → Option (List Value)}
theorem aZ (w : List UInt8) (hw : w.length ≤ 1000000) : zz Tryz.prog G 48 [svL w] [] (.tu [.v (.int .i64 ((numT w).getD 0)), .v (.bool (numT w).isSome)]) [] := by
  have hn := uY (G := G) (strL w) 16777216 (by rw [zy]; unfold maxLen; omega) (by omega) (by omega)
  rw [yy] at hn
  refine zb tbOk (zc Tryz.func48 (by kernel_rfl) rfl) Tryz.func48 rfl _ Tryz.ntmps48 (Nat.le_of_ble_eq_true rfl) fun X hX => ?_
  subst hX
  repeat (first | ((with_reducible refine zK ?_); refine zJ rfl ?_) | ((with_reducible refine zE ?_); refine zF rfl ?_)  | refine zL ?_ | refine zB rfl ?_ | with_reducible (first | refine zG ?_ | refine zH ?_) | ((with_reducible refine zA ?_ ?_); kernel_rfl))
  refine zC (hn) ?_
  repeat (first | ((with_reducible refine zE ?_); refine zF rfl ?_) | ((with_reducible refine ye ?_); refine yd rfl rfl ?_)  | refine zL ?_ | refine zB rfl ?_ | with_reducible (first | refine zG ?_ | refine zN ?_) )
  refine yp (by first | exact .inr rfl | exact .inl rfl) rfl rfl rfl ?_
  repeat' (first | exact trivial | exact Ren.v _ | exact Ren.sl _ _ | exact Ren.ep _ | exact Ren.ptr _ _ _ _ rfl | exact Ren.bs _ _ _ _ _ rfl | exact Ren.nil _ | exact Ren.own _ _ _ _ ⟨_, rfl⟩ | refine zi ?_ | refine zj ?_ | refine zl ?_ | refine ⟨?_, ?_⟩)
theorem rpos_A (p : Int) (h : p = 1 ∨ p = 2) : zz Tryz.prog G 74 [.v (.int .i64 p)] [] (svL (wAt posL p.toNat)) [] := by
  rcases h with h | h <;> subst h
  · refine zb tbOk (zc Tryz.func74 (by kernel_rfl) rfl) Tryz.func74 rfl _ Tryz.ntmps74 (Nat.le_of_ble_eq_true rfl) fun X hX => ?_
    subst hX
    repeat (first | ((with_reducible refine zK ?_); refine zJ rfl ?_) | ((with_reducible refine zE ?_); refine zF rfl ?_) | ((with_reducible refine zQ ?_); refine zT rfl rfl rfl ?_)  | refine zL ?_ | refine zB rfl ?_ | with_reducible (first | refine zG ?_ | refine zO ?_ | refine zH ?_ | refine zN ?_) | ((with_reducible refine zA ?_ ?_); kernel_rfl) | refine zn rfl (by first | rfl | assumption) ?_)
    refine zm (by first | exact .inr rfl | exact .inl rfl) rfl rfl ?_
    rfl
  · refine zb tbOk (zc Tryz.func74 (by kernel_rfl) rfl) Tryz.func74 rfl _ Tryz.ntmps74 (Nat.le_of_ble_eq_true rfl) fun X hX => ?_
    subst hX
    repeat (first | ((with_reducible refine zK ?_); refine zJ rfl ?_) | ((with_reducible refine zE ?_); refine zF rfl ?_) | ((with_reducible refine zQ ?_); refine zT rfl rfl rfl ?_)  | refine zL ?_ | refine zB rfl ?_ | with_reducible (first | refine zG ?_ | refine zH ?_ | refine zS ?_ | refine zN ?_) | ((with_reducible refine zA ?_ ?_); kernel_rfl) | refine yF rfl (by first | rfl | assumption) ?_)
    refine zm (by first | exact .inr rfl | exact .inl rfl) rfl rfl ?_
    rfl
/-- The place of a word in a list, from 1 on; 0 where it has none. -/
def idxR (w : List UInt8) : Int → List (List UInt8) → Int
  | _, [] => 0
  | i, d :: l => if d = w then i else idxR w (i + 1) l
theorem pG (p : List UInt8) (L : List (List UInt8)) (w : List UInt8) (hl : L.length ≤ 1000) : zz Tryz.prog G 86 [.sl 1 ((p :: L).map svL), svL w] [] (.v (.int .i64 (idxR w 1 L))) [] := by
  refine zb tbOk (zc Tryz.func86 (by kernel_rfl) rfl) Tryz.func86 rfl _ Tryz.ntmps86 (Nat.le_of_ble_eq_true rfl) fun X hX => ?_
  subst hX
  repeat (first | ((with_reducible refine zE ?_); refine zF rfl ?_)  | refine zL ?_ | refine zB rfl ?_ | with_reducible (first | refine zG ?_ | refine zH ?_ | refine zY ?_) | ((with_reducible refine zA ?_ ?_); kernel_rfl))
  refine yL (ι := Nat) (fun k => k ≤ L.length ∧ idxR w (k + 1 : Nat) (L.drop k) = idxR w 1 L) (fun k => L.length - k) (fun v k => [(0, .sl 1 ((p :: L).map svL)), (1, svL w), (5, .v (.int .i64 ((k + 1 : Nat) : Int)))]) (fun v k => []) ?_ ?_
  · exact ⟨0, ⟨Nat.zero_le _, rfl⟩, trivial, ⟨rfl, rfl, rfl, trivial⟩, trivial⟩
  rintro v k ⟨hk, hi⟩
  repeat (first | ((with_reducible refine zK ?_); refine zJ rfl ?_) | ((with_reducible refine zt ?_); refine yH tbOk rfl rfl ?_) | ((with_reducible refine zQ ?_); refine zT rfl rfl rfl ?_)  | refine zL ?_ | refine zB rfl ?_ | with_reducible (first | refine zG ?_ | refine zH ?_) | ((with_reducible refine zA ?_ ?_); kernel_rfl))
  refine zZ rfl (fun h => ?_) (fun h => ?_)
  · have hlt : k < L.length := by simp at h; omega
    obtain ⟨d, hd⟩ := zd hlt
    have hy : ((p :: L).map svL)[k + 1]? = some (svL d) := by rw [List.map_cons, List.getElem?_cons_succ]; exact dY hd
    rw [yT hd, idxR] at hi
    repeat (first | ((with_reducible refine zK ?_); refine zJ rfl ?_) | ((with_reducible refine zR ?_); refine zW tbOk rfl rfl rfl ?_) | ((with_reducible refine zU ?_); refine zX tbOk rfl rfl rfl rfl (by assumption) ?_) | ((with_reducible refine zQ ?_); refine yh rfl rfl rfl ?_)  | refine zL ?_ | refine zB rfl ?_ | with_reducible (first | refine zG ?_ | refine zH ?_ | refine zY ?_ | refine zS ?_) | ((with_reducible refine zA ?_ ?_); kernel_rfl))
    refine zZ rfl (fun q => ?_) (fun q => ?_)
    · rw [if_pos ((jZ d w).1 q)] at hi
      repeat (first | ((with_reducible refine zK ?_); refine zJ rfl ?_) | ((with_reducible refine zE ?_); refine zF rfl ?_)  | refine zL ?_ | refine zB rfl ?_ | with_reducible (first | refine zG ?_ | refine zO ?_ | refine zV ?_ | refine zH ?_ | refine zN ?_) | ((with_reducible refine zA ?_ ?_); kernel_rfl))
      refine zm (by first | exact .inr rfl | exact .inl rfl) rfl rfl ?_
      rw [← hi]
    · rw [if_neg (fun e => by have q2 : yI (strL d) (strL w) = false := q; rw [(jZ _ _).2 e] at q2; cases q2)] at hi
      repeat (first | ((with_reducible refine zK ?_); refine zJ rfl ?_) | ((with_reducible refine zE ?_); refine zF rfl ?_) | ((with_reducible refine zQ ?_); refine zg rfl rfl (by omega) ?_)  | refine zL ?_ | refine zB rfl ?_ | with_reducible (first | refine zG ?_ | refine zu ?_ | refine zS ?_) | ((with_reducible refine zA ?_ ?_); kernel_rfl))
      exact ⟨k + 1, ⟨by omega, hi⟩, by omega, ⟨rfl, rfl, rfl, trivial⟩, trivial⟩
  · have hge : L.length ≤ k := by simp at h; omega
    rw [List.drop_of_length_le hge] at hi
    repeat (first | ((with_reducible refine zE ?_); refine zF rfl ?_)  | refine zL ?_ | refine zB rfl ?_ | with_reducible (first | refine zG ?_ | refine zo ?_ | refine zH ?_ | refine yB ?_ | refine zN ?_) | ((with_reducible refine ze ?_ ?_); rfl) | ((with_reducible refine zA ?_ ?_); kernel_rfl))
    refine zm (by first | exact .inr rfl | exact .inl rfl) rfl rfl ?_
    rw [← hi]; rfl
end Go.Proofs.YtjamibeffalhaaaGreatDoor
