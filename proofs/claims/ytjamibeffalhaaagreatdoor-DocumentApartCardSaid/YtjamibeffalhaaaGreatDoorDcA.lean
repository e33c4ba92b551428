/- The reference's comparison of lists of numbers, by the abstract machine; conditions: none / zone.Check, document.numbered, certificates, Check and their references, by the abstract machine; conditions: the table of classes stands. -/
import Derived.Test.YtjamibeffalhaaaGreatDoorDkA
import Derived.Test.YtjamibeffalhaaaGreatDoorDcP
import Derived.Test.YtjamibeffalhaaaGreatDoorGnA
import Derived.Test.YtjamibeffalhaaaGreatDoorLcB
import Derived.Test.YtjamibeffalhaaaGreatDoorLexA
set_option linter.unusedVariables false
set_option linter.unusedSimpArgs false
namespace Go.Proofs.YtjamibeffalhaaaGreatDoor
open Go Go.RowKit
set_option maxRecDepth 10000
variable {G : Nat → Option (List Value)}
theorem iv_at {L : List Int} {k : Nat} {x : Int} (h : L[k]? = some x) : (L.map iv)[k]? = some (iv x) := by rw [List.getElem?_map, h]; rfl
end Go.Proofs.YtjamibeffalhaaaGreatDoor
namespace Go.Proofs.YtjamibeffalhaaaGreatDoor
open Go Go.RowKit
set_option maxRecDepth 10000
variable {G : Nat → Option (List Value)}
def Dc.cells (d : Dc) : List AV := [.v (.int .i64 d.num), .v (.int .i64 d.kind), .v (.int .i64 d.st), .v (.int .i64 d.rd), .sl 1 (d.zone.map iv), .v (.int .i64 d.safe), .sl 3 (d.lk.map Lk.av), .v (.string d.iss), .v (.string d.hol), .v (.int .i64 d.f), .v (.int .i64 d.u), .sl 1 (d.ce.map iv)]
def Dc.av (d : Dc) : AV := .ag d.cells
theorem strEq_dec (a b : ByteArray) : yS a b = decide (a = b) := by
  have h := ye (a := a) (b := b)
  cases hq : yS a b <;> simp_all
theorem cvalid_A (f u : Int) : zy Tryz.prog G 66 [.ag [.v (.int .i64 f), .v (.int .i64 u)]] [] (.v (.bool (spanB f u))) [] := by
  refine zf tbOk (zg Tryz.func66 (by kernel_rfl) rfl) Tryz.func66 rfl _ Tryz.ntmps66 (Nat.le_of_ble_eq_true rfl) fun X hX => ?_
  subst hX
  repeat' (first | ((with_reducible refine zJ ?_); refine zI rfl ?_) | ((with_reducible refine zD ?_); refine zC rfl ?_) | ((with_reducible refine zK ?_); refine zG tbOk rfl rfl rfl rfl ?_) | ((with_reducible refine zO ?_); refine zN tbOk rfl rfl rfl rfl rfl ?_) | ((with_reducible refine yy ?_); refine yz rfl rfl rfl ?_) | ((with_reducible refine za ?_); refine zp rfl (by first | rfl | assumption) rfl ?_) | ((with_reducible refine za ?_); refine zn rfl (by first | rfl | assumption) rfl ?_) | ((with_reducible refine zS ?_); refine zT rfl rfl rfl ?_)  | refine zH ?_ | refine zB rfl ?_ | refine yF rfl rfl (by first | rfl | assumption) ?_ | refine yH rfl rfl (by first | rfl | assumption) ?_ | with_reducible refine zE ?_ | with_reducible refine zF ?_ | with_reducible refine zL ?_ | ((with_reducible refine zA ?_ ?_); kernel_rfl) | refine zw rfl rfl (fun _ => ?_) (fun _ => ?_) | refine zZ rfl (fun _ => ?_) (fun _ => ?_))
  all_goals refine zk (by first | exact .inr rfl | exact .inl rfl) rfl rfl ?_
  all_goals simp_all [spanB]
  all_goals omega
theorem dnum_A (n : Int) : zy Tryz.prog G 62 [.v (.int .i64 n)] [] (.v (.bool (!decide (n < 1 ∨ 65536 < n)))) [] := by
  refine zf tbOk (zg Tryz.func62 (by kernel_rfl) rfl) Tryz.func62 rfl _ Tryz.ntmps62 (Nat.le_of_ble_eq_true rfl) fun X hX => ?_
  subst hX
  repeat (first | ((with_reducible refine zJ ?_); refine zI rfl ?_) | ((with_reducible refine zD ?_); refine zC rfl ?_) | ((with_reducible refine zS ?_); refine zT rfl rfl rfl ?_)  | refine zH ?_ | refine zB rfl ?_ | with_reducible refine zE ?_ | with_reducible refine zF ?_ | ((with_reducible refine zA ?_ ?_); kernel_rfl))
  refine zw rfl rfl (fun b => ?_) (fun b => ?_)
  · repeat (first | ((with_reducible refine zJ ?_); refine zI rfl ?_) | ((with_reducible refine zD ?_); refine zC rfl ?_) | ((with_reducible refine za ?_); refine zp rfl (by first | rfl | assumption) rfl ?_) | ((with_reducible refine zS ?_); refine zT rfl rfl rfl ?_)  | refine zH ?_ | refine zB rfl ?_ | refine yF rfl rfl (by first | rfl | assumption) ?_ | with_reducible refine zE ?_ | with_reducible refine zL ?_ )
    refine zk (by first | exact .inr rfl | exact .inl rfl) rfl rfl ?_
    refine congrArg (fun b => AV.v (.bool b)) ?_
    rw [Bool.eq_iff_iff]
    simp at b ⊢
    omega
  · repeat (first | ((with_reducible refine zD ?_); refine zC rfl ?_) | ((with_reducible refine za ?_); refine zn rfl (by first | rfl | assumption) rfl ?_)  | refine zH ?_ | refine zB rfl ?_ | refine yH rfl rfl (by first | rfl | assumption) ?_ | with_reducible refine zE ?_ | with_reducible refine zL ?_ )
    refine zk (by first | exact .inr rfl | exact .inl rfl) rfl rfl ?_
    refine congrArg (fun b => AV.v (.bool b)) ?_
    rw [Bool.eq_iff_iff]
    simp at b ⊢
    omega
theorem rising_A (L : List Int) (n : Int) (hl : L.length ≤ maxLen) : zy Tryz.prog G 96 [.sl 1 (L.map iv), .v (.int .i64 n)] [] (.v (.bool (risB n (-1) L))) [] := by
  have hml : L.length ≤ 9223372036854775807 := by unfold maxLen at hl; omega
  refine zf tbOk (zg Tryz.func96 (by kernel_rfl) rfl) Tryz.func96 rfl _ Tryz.ntmps96 (Nat.le_of_ble_eq_true rfl) fun X hX => ?_
  subst hX
  repeat (first | ((with_reducible refine zJ ?_); refine zI rfl ?_) | ((with_reducible refine zD ?_); refine zC rfl ?_) | ((with_reducible refine yA ?_); refine yP tbOk rfl rfl ?_)  | refine zH ?_ | refine zB rfl ?_ | with_reducible refine zE ?_ | with_reducible refine zF ?_ | with_reducible refine zY ?_ | ((with_reducible refine zA ?_ ?_); kernel_rfl))
  refine yN (ι := Nat × Int) (fun i => i.1 ≤ L.length ∧ risB n i.2 (L.drop i.1) = risB n (-1) L) (fun i => L.length - i.1) (fun v i => [(1, .v (.int .i64 n)), (5, .v (.int .i64 i.2)), (9, .sl 1 (L.map iv)), (10, .v (.int .i64 (L.map iv).length)), (11, .v (.int .i64 (i.1 : Nat)))]) (fun v i => []) ?_ ?_
  · exact ⟨(0, -1), ⟨Nat.zero_le _, rfl⟩, trivial, ⟨rfl, rfl, rfl, rfl, rfl, trivial⟩, trivial⟩
  rintro v ⟨k, p⟩ ⟨hk, hi⟩
  dsimp only at hk hi ⊢
  repeat (first | ((with_reducible refine zS ?_); refine zT rfl rfl rfl ?_)  | refine zH ?_ | refine zB rfl ?_ | with_reducible refine zE ?_ | with_reducible refine zF ?_ | ((with_reducible refine zA ?_ ?_); kernel_rfl))
  refine zZ rfl (fun h => ?_) (fun h => ?_)
  · have hlt : k < L.length := by simpa using h
    obtain ⟨x, hx⟩ := zc hlt
    have hy := iv_at hx
    rw [ris_drop hx] at hi
    repeat (first | ((with_reducible refine zJ ?_); refine zI rfl ?_) | ((with_reducible refine zD ?_); refine zC rfl ?_) | ((with_reducible refine zO ?_); refine ze tbOk rfl rfl rfl ?_) | ((with_reducible refine zb ?_); refine zd tbOk rfl rfl rfl rfl (by assumption) ?_) | ((with_reducible refine zS ?_); refine zT rfl rfl rfl ?_)  | refine zH ?_ | refine zB rfl ?_ | with_reducible refine zE ?_ | with_reducible refine zF ?_ | with_reducible refine zY ?_ | with_reducible refine zU ?_ | ((with_reducible refine zA ?_ ?_); kernel_rfl))
    refine zw rfl rfl (fun b => ?_) (fun b => ?_)
    · rw [if_pos (.inl (by simpa using b))] at hi
      repeat (first | ((with_reducible refine zD ?_); refine zC rfl ?_) | ((with_reducible refine za ?_); refine zp rfl (by first | rfl | assumption) rfl ?_)  | refine zH ?_ | refine zB rfl ?_ | refine yD rfl rfl (by first | rfl | assumption) ?_ | with_reducible refine zE ?_ | with_reducible refine zM ?_ | with_reducible refine zX ?_ | with_reducible refine zF ?_ | with_reducible refine zL ?_ | ((with_reducible refine zA ?_ ?_); kernel_rfl) | refine zv rfl (by first | rfl | assumption) ?_)
      refine zk (by first | exact .inr rfl | exact .inl rfl) rfl rfl ?_
      rw [← hi]
    · repeat (first | ((with_reducible refine zJ ?_); refine zI rfl ?_) | ((with_reducible refine za ?_); refine zn rfl (by first | rfl | assumption) rfl ?_) | ((with_reducible refine zS ?_); refine zT rfl rfl rfl ?_)  | refine zH ?_ | refine zB rfl ?_ | refine zz rfl rfl (by first | rfl | assumption) ?_ | with_reducible refine zE ?_ )
      refine zZ rfl (fun c => ?_) (fun c => ?_)
      · rw [if_pos (.inr (by simpa using c))] at hi
        repeat (first | ((with_reducible refine zD ?_); refine zC rfl ?_)  | refine zH ?_ | refine zB rfl ?_ | with_reducible refine zE ?_ | with_reducible refine zM ?_ | with_reducible refine zX ?_ | with_reducible refine zF ?_ | with_reducible refine zL ?_ | ((with_reducible refine zA ?_ ?_); kernel_rfl))
        refine zk (by first | exact .inr rfl | exact .inl rfl) rfl rfl ?_
        rw [← hi]
      · rw [if_neg (by simp at b c; omega)] at hi
        repeat (first | ((with_reducible refine zJ ?_); refine zI rfl ?_) | ((with_reducible refine zD ?_); refine zC rfl ?_) | ((with_reducible refine zS ?_); refine zl rfl rfl (by omega) ?_)  | refine zH ?_ | refine zB rfl ?_ | with_reducible refine zE ?_ | with_reducible refine zq ?_ | with_reducible refine zU ?_ | ((with_reducible refine zA ?_ ?_); kernel_rfl))
        exact ⟨(k + 1, x), ⟨by show k + 1 ≤ _; omega, hi⟩, by show L.length - (k + 1) < L.length - k; omega, ⟨rfl, rfl, rfl, rfl, rfl, trivial⟩, trivial⟩
  · have hge : L.length ≤ k := by simpa using h
    rw [List.drop_of_length_le hge] at hi
    repeat (first | ((with_reducible refine zD ?_); refine zC rfl ?_)  | refine zH ?_ | refine zB rfl ?_ | with_reducible refine zE ?_ | with_reducible refine zm ?_ | with_reducible refine zF ?_ | with_reducible refine yB ?_ | with_reducible refine zL ?_ | ((with_reducible refine zh ?_ ?_); rfl) | ((with_reducible refine zA ?_ ?_); kernel_rfl))
    refine zk (by first | exact .inr rfl | exact .inl rfl) rfl rfl ?_
    rw [← hi]; rfl
def prevI (d : Int) (L : List Int) (k : Nat) : Int := if k = 0 then d else (L[k - 1]?).getD d
theorem prevI_next {d : Int} {L : List Int} {k : Nat} {x : Int} (h : L[k]? = some x) : prevI d L (k + 1) = x := by unfold prevI; rw [if_neg (by omega), Nat.add_sub_cancel, h]; rfl
theorem zcheck_A (N : List Nd) (V : List Dv) (Z : List Int) (hG : GCls G) (ok : NwOk N V) (hl : Z.length ≤ maxLen) : zy Tryz.prog G 63 [qH N V, .sl 1 (Z.map iv)] [] (.v (.int .i64 (zoneE N V Z))) [] := by
  have hml : Z.length ≤ 9223372036854775807 := by unfold maxLen at hl; omega
  have hnl : N.length ≤ 9223372036854775807 := by have := ok.l1; unfold maxLen at this; omega
  unfold zoneE
  refine zf tbOk (zg Tryz.func63 (by kernel_rfl) rfl) Tryz.func63 rfl _ Tryz.ntmps63 (Nat.le_of_ble_eq_true rfl) fun X hX => ?_
  subst hX
  repeat (first | ((with_reducible refine zD ?_); refine zC rfl ?_) | ((with_reducible refine zO ?_); refine zi tbOk rfl rfl rfl rfl (Nat.le_of_ble_eq_true rfl) ?_) | ((with_reducible refine yy ?_); refine yz rfl rfl rfl ?_)  | refine zH ?_ | refine zB rfl ?_ | with_reducible refine zE ?_ | with_reducible refine zF ?_ | ((with_reducible refine zA ?_ ?_); kernel_rfl))
  refine zj (jT N V hG ok.n ok.v ok.l1 ok.l2) (by repeat' (first | exact trivial | exact Ren.v _ | exact Ren.sl _ _ | exact Ren.ep _ | exact Ren.ptr _ _ _ _ rfl | exact Ren.bs _ _ _ _ _ rfl | exact Ren.nil _ | exact Ren.own _ _ _ _ ⟨_, rfl⟩ | refine zP ?_ | refine zQ ?_ | refine zR ?_ | refine ⟨?_, ?_⟩)) (by repeat' (first | exact trivial | exact RenB.v _ | exact RenB.sl _ _ | exact RenB.ep _ | exact RenB.ptr _ _ _ _ rfl | refine zW ?_ | refine zV ?_ | refine ⟨?_, ?_⟩)) ?_
  repeat (first | ((with_reducible refine zJ ?_); refine zI rfl ?_) | ((with_reducible refine zD ?_); refine zC rfl ?_) | ((with_reducible refine zS ?_); refine zT rfl rfl rfl ?_)  | refine zH ?_ | refine zB rfl ?_ | with_reducible refine zE ?_ | with_reducible refine zF ?_ | ((with_reducible refine zA ?_ ?_); kernel_rfl))
  refine zZ rfl (fun h => ?_) (fun h => ?_)
  · rw [if_pos (by simpa using h)]
    repeat (first | ((with_reducible refine zJ ?_); refine zI rfl ?_) | ((with_reducible refine zD ?_); refine zC rfl ?_)  | refine zH ?_ | refine zB rfl ?_ | with_reducible refine zE ?_ | with_reducible refine zM ?_ | with_reducible refine zF ?_ | with_reducible refine zL ?_ | ((with_reducible refine zA ?_ ?_); kernel_rfl))
    refine zk (by first | exact .inr rfl | exact .inl rfl) rfl rfl ?_
    rfl
  rw [if_neg (by simpa using h)]
  repeat (first | ((with_reducible refine zJ ?_); refine zI rfl ?_) | ((with_reducible refine zD ?_); refine zC rfl ?_) | ((with_reducible refine yA ?_); refine yP tbOk rfl rfl ?_) | ((with_reducible refine zS ?_); refine zT rfl rfl rfl ?_)  | refine zH ?_ | refine zB rfl ?_ | with_reducible refine zE ?_ | with_reducible refine zF ?_ | with_reducible refine zY ?_ | with_reducible refine zU ?_ | ((with_reducible refine zA ?_ ?_); kernel_rfl))
  refine zZ rfl (fun h => ?_) (fun h => ?_)
  · rw [if_pos (by simp at h; simpa using h)]
    repeat (first | ((with_reducible refine zD ?_); refine zC rfl ?_)  | refine zH ?_ | refine zB rfl ?_ | with_reducible refine zE ?_ | with_reducible refine zM ?_ | with_reducible refine zX ?_ | with_reducible refine zF ?_ | with_reducible refine zL ?_ | ((with_reducible refine zA ?_ ?_); kernel_rfl))
    refine zk (by first | exact .inr rfl | exact .inl rfl) rfl rfl ?_
    rfl
  rw [if_neg (by simp at h; simpa using h)]
  repeat (first | ((with_reducible refine zJ ?_); refine zI rfl ?_) | ((with_reducible refine zK ?_); refine zG tbOk rfl rfl rfl rfl ?_) | ((with_reducible refine zO ?_); refine zN tbOk rfl rfl rfl rfl rfl ?_) | ((with_reducible refine yA ?_); refine yP tbOk rfl rfl ?_)  | refine zB rfl ?_ | with_reducible refine zF ?_ | ((with_reducible refine zA ?_ ?_); kernel_rfl))
  refine zj (rising_A Z ((N.map Nd.av).length : Int) hl) (by repeat' (first | exact trivial | exact Ren.v _ | exact Ren.sl _ _ | exact Ren.ep _ | exact Ren.ptr _ _ _ _ rfl | exact Ren.bs _ _ _ _ _ rfl | exact Ren.nil _ | exact Ren.own _ _ _ _ ⟨_, rfl⟩ | refine zP ?_ | refine zQ ?_ | refine zR ?_ | refine ⟨?_, ?_⟩)) (by repeat' (first | exact trivial | exact RenB.v _ | exact RenB.sl _ _ | exact RenB.ep _ | exact RenB.ptr _ _ _ _ rfl | refine zW ?_ | refine zV ?_ | refine ⟨?_, ?_⟩)) ?_
  repeat (first | ((with_reducible refine zD ?_); refine zC rfl ?_) | ((with_reducible refine k_un ?_); refine jC rfl ?_)  | refine zH ?_ | refine zB rfl ?_ | with_reducible refine zE ?_ )
  rw [List.length_map]
  refine zZ rfl (fun h => ?_) (fun h => ?_)
  · rw [if_pos (by simpa using h)]
    repeat (first | ((with_reducible refine zD ?_); refine zC rfl ?_)  | refine zH ?_ | refine zB rfl ?_ | with_reducible refine zE ?_ | with_reducible refine zM ?_ | with_reducible refine zX ?_ | with_reducible refine zF ?_ | with_reducible refine zL ?_ | ((with_reducible refine zA ?_ ?_); kernel_rfl))
    refine zk (by first | exact .inr rfl | exact .inl rfl) rfl rfl ?_
    rfl
  rw [if_neg (by simpa using h)]
  repeat (first | ((with_reducible refine zD ?_); refine zC rfl ?_)  | refine zH ?_ | refine zB rfl ?_ | with_reducible refine zE ?_ | with_reducible refine zq ?_ | with_reducible refine zF ?_ | with_reducible refine zU ?_ | with_reducible refine zL ?_ | ((with_reducible refine zA ?_ ?_); kernel_rfl))
  refine zk (by first | exact .inr rfl | exact .inl rfl) rfl rfl ?_
  rfl
theorem certs_A (L : List Int) (hl : L.length ≤ maxLen) : zy Tryz.prog G 67 [.sl 1 (L.map iv)] [] (.v (.int .i64 (cesE L))) [] := by
  have hml : L.length ≤ 9223372036854775807 := by unfold maxLen at hl; omega
  unfold cesE
  refine zf tbOk (zg Tryz.func67 (by kernel_rfl) rfl) Tryz.func67 rfl _ Tryz.ntmps67 (Nat.le_of_ble_eq_true rfl) fun X hX => ?_
  subst hX
  repeat (first | ((with_reducible refine zJ ?_); refine zI rfl ?_) | ((with_reducible refine zD ?_); refine zC rfl ?_) | ((with_reducible refine yA ?_); refine yP tbOk rfl rfl ?_) | ((with_reducible refine zS ?_); refine zT rfl rfl rfl ?_)  | refine zH ?_ | refine zB rfl ?_ | with_reducible refine zE ?_ | with_reducible refine zF ?_ | ((with_reducible refine zA ?_ ?_); kernel_rfl))
  refine zZ rfl (fun h => ?_) (fun h => ?_)
  · rw [if_pos (by simp at h; omega)]
    repeat (first | ((with_reducible refine zD ?_); refine zC rfl ?_)  | refine zH ?_ | refine zB rfl ?_ | with_reducible refine zE ?_ | with_reducible refine zM ?_ | with_reducible refine zF ?_ | with_reducible refine zL ?_ | ((with_reducible refine zA ?_ ?_); kernel_rfl))
    refine zk (by first | exact .inr rfl | exact .inl rfl) rfl rfl ?_
    rfl
  rw [if_neg (by simp at h; omega)]
  repeat (first | ((with_reducible refine zJ ?_); refine zI rfl ?_) | ((with_reducible refine yA ?_); refine yP tbOk rfl rfl ?_)  | refine zH ?_ | refine zB rfl ?_ | with_reducible refine zE ?_ | with_reducible refine zF ?_ | with_reducible refine zY ?_ | with_reducible refine zU ?_ | ((with_reducible refine zA ?_ ?_); kernel_rfl))
  refine yN (ι := Nat) (fun i => i ≤ L.length ∧ 0 ≤ prevI 0 L i ∧ risB 65537 (prevI 0 L i) (L.drop i) = risB 65537 0 L) (fun i => L.length - i) (fun v i => [(0, .sl 1 (L.map iv)), (8, .sl 1 (L.map iv)), (9, .v (.int .i64 (L.map iv).length)), (10, .v (.int .i64 (i : Nat)))]) (fun v i => []) ?_ ?_
  · exact ⟨0, ⟨Nat.zero_le _, by unfold prevI; simp, rfl⟩, trivial, ⟨rfl, rfl, rfl, rfl, trivial⟩, trivial⟩
  rintro v k ⟨hk, hp, hi⟩
  repeat (first | ((with_reducible refine zS ?_); refine zT rfl rfl rfl ?_)  | refine zH ?_ | refine zB rfl ?_ | with_reducible refine zE ?_ | with_reducible refine zF ?_ | ((with_reducible refine zA ?_ ?_); kernel_rfl))
  refine zZ rfl (fun h => ?_) (fun h => ?_)
  · have hlt : k < L.length := by simpa using h
    obtain ⟨x, hx⟩ := zc hlt
    have hy := iv_at hx
    rw [ris_drop hx] at hi
    repeat (first | ((with_reducible refine zJ ?_); refine zI rfl ?_) | ((with_reducible refine zD ?_); refine zC rfl ?_) | ((with_reducible refine zO ?_); refine ze tbOk rfl rfl rfl ?_) | ((with_reducible refine zb ?_); refine zd tbOk rfl rfl rfl rfl (by assumption) ?_)  | refine zH ?_ | refine zB rfl ?_ | with_reducible refine zE ?_ | with_reducible refine zF ?_ | with_reducible refine zY ?_ | with_reducible refine zU ?_ | ((with_reducible refine zA ?_ ?_); kernel_rfl))
    refine zj (dnum_A x) (by repeat' (first | exact trivial | exact Ren.v _ | exact Ren.sl _ _ | exact Ren.ep _ | exact Ren.ptr _ _ _ _ rfl | exact Ren.bs _ _ _ _ _ rfl | exact Ren.nil _ | exact Ren.own _ _ _ _ ⟨_, rfl⟩ | refine zP ?_ | refine zQ ?_ | refine zR ?_ | refine ⟨?_, ?_⟩)) (by repeat' (first | exact trivial | exact RenB.v _ | exact RenB.sl _ _ | exact RenB.ep _ | exact RenB.ptr _ _ _ _ rfl | refine zW ?_ | refine zV ?_ | refine ⟨?_, ?_⟩)) ?_
    repeat (first | ((with_reducible refine zJ ?_); refine zI rfl ?_) | ((with_reducible refine k_un ?_); refine jC rfl ?_)  | refine zB rfl ?_  )
    refine zw rfl rfl (fun b => ?_) (fun b => ?_)
    · rw [if_pos (by simp at b; omega)] at hi
      rw [if_pos hi.symm]
      repeat (first | ((with_reducible refine zD ?_); refine zC rfl ?_) | ((with_reducible refine za ?_); refine zp rfl (by first | rfl | assumption) rfl ?_)  | refine zH ?_ | refine zB rfl ?_ | refine yD rfl rfl (by first | rfl | assumption) ?_ | refine qB rfl rfl rfl ?_ | with_reducible refine zE ?_ | with_reducible refine zM ?_ | with_reducible refine zX ?_ | with_reducible refine zF ?_ | with_reducible refine zL ?_ | ((with_reducible refine zA ?_ ?_); kernel_rfl) | refine zv rfl (by first | rfl | assumption) ?_)
      refine zk (by first | exact .inr rfl | exact .inl rfl) rfl rfl ?_
      rfl
    rcases Nat.eq_zero_or_pos k with k0 | k0
    · have b0 : decide ((k : Int) > 0) = false := by simp [k0]
      have hp0 : prevI 0 L k = 0 := by unfold prevI; rw [if_pos k0]
      rw [if_neg (by rw [hp0]; simp at b; omega), ← prevI_next (d := 0) hx] at hi
      repeat (first | ((with_reducible refine zJ ?_); refine zI rfl ?_) | ((with_reducible refine za ?_); refine zn rfl (by first | rfl | assumption) rfl ?_) | ((with_reducible refine zS ?_); refine zl rfl rfl (by omega) ?_) | ((with_reducible refine zS ?_); refine zT rfl rfl rfl ?_)  | refine zH ?_ | refine zB rfl ?_ | refine yH rfl rfl (by first | rfl | assumption) ?_ | refine zz rfl rfl (by first | rfl | assumption) ?_ | with_reducible refine zE ?_ | with_reducible refine zq ?_ | with_reducible refine zU ?_ | ((with_reducible refine zA ?_ ?_); kernel_rfl) | refine yI rfl (by first | rfl | assumption) ?_)
      exact ⟨k + 1, ⟨by omega, by rw [prevI_next hx]; simp at b; omega, hi⟩, by omega, ⟨rfl, rfl, rfl, rfl, trivial⟩, trivial⟩
    · obtain ⟨q, hq⟩ := zc (L := L) (k := k - 1) (by omega)
      have hqy := iv_at hq
      have ei : ((k : Nat) : Int) - 1 = ((k - 1 : Nat) : Int) := by omega
      have b0 : decide ((k : Int) > 0) = true := by simpa using k0
      have hp0 : prevI 0 L k = q := by unfold prevI; rw [if_neg (by omega), hq]; rfl
      rw [hp0] at hi hp
      repeat (first | ((with_reducible refine zJ ?_); refine zI rfl ?_) | ((with_reducible refine zS ?_); refine qS rfl rfl (by omega) ?_) | ((with_reducible refine zS ?_); refine zT rfl rfl rfl ?_)  | refine yF rfl rfl (by first | rfl | assumption) ?_ | refine zz rfl rfl (by first | rfl | assumption) ?_  )
      with_reducible refine zb ?_
      refine yV tbOk rfl rfl rfl rfl (by omega) (by rw [ei, Int.toNat_natCast]; exact hqy) ?_
      repeat (first | ((with_reducible refine zJ ?_); refine zI rfl ?_) | ((with_reducible refine zO ?_); refine ze tbOk rfl rfl rfl ?_) | ((with_reducible refine za ?_); refine zp rfl (by first | rfl | assumption) rfl ?_) | ((with_reducible refine za ?_); refine zn rfl (by first | rfl | assumption) rfl ?_) | ((with_reducible refine zS ?_); refine zT rfl rfl rfl ?_)  | refine zH ?_ | refine zB rfl ?_ | refine yF rfl rfl (by first | rfl | assumption) ?_ | refine zz rfl rfl (by first | rfl | assumption) ?_ | with_reducible refine zE ?_ )
      refine zZ rfl (fun c => ?_) (fun c => ?_)
      · rw [if_pos (.inl (by simpa using c))] at hi
        rw [if_pos hi.symm]
        repeat (first | ((with_reducible refine zD ?_); refine zC rfl ?_)  | refine zH ?_ | refine zB rfl ?_ | with_reducible refine zE ?_ | with_reducible refine zM ?_ | with_reducible refine zX ?_ | with_reducible refine zF ?_ | with_reducible refine zL ?_ | ((with_reducible refine zA ?_ ?_); kernel_rfl))
        refine zk (by first | exact .inr rfl | exact .inl rfl) rfl rfl ?_
        rfl
      · rw [if_neg (by simp at b c; omega), ← prevI_next (d := 0) hx] at hi
        repeat (first | ((with_reducible refine zJ ?_); refine zI rfl ?_) | ((with_reducible refine zS ?_); refine zl rfl rfl (by omega) ?_)  | refine zH ?_ | refine zB rfl ?_ | with_reducible refine zE ?_ | with_reducible refine zq ?_ | with_reducible refine zU ?_ | ((with_reducible refine zA ?_ ?_); kernel_rfl))
        exact ⟨k + 1, ⟨by omega, by rw [prevI_next hx]; simp at b; omega, hi⟩, by omega, ⟨rfl, rfl, rfl, rfl, trivial⟩, trivial⟩
  · have hge : L.length ≤ k := by simpa using h
    rw [List.drop_of_length_le hge] at hi
    have hi' : risB 65537 0 L = true := hi.symm
    rw [if_neg (by rw [hi']; simp)]
    repeat (first | ((with_reducible refine zD ?_); refine zC rfl ?_)  | refine zH ?_ | refine zB rfl ?_ | with_reducible refine zE ?_ | with_reducible refine zm ?_ | with_reducible refine zF ?_ | with_reducible refine yB ?_ | with_reducible refine zL ?_ | ((with_reducible refine zh ?_ ?_); rfl) | ((with_reducible refine zA ?_ ?_); kernel_rfl))
    refine zk (by first | exact .inr rfl | exact .inl rfl) rfl rfl ?_
    rfl
end Go.Proofs.YtjamibeffalhaaaGreatDoor
