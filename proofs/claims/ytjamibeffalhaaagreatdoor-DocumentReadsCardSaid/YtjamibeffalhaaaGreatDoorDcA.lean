/- zone.Check, document.numbered, certificates, Check and their references, by the abstract machine; conditions: the table of classes stands. -/
import Derived.Test.YtjamibeffalhaaaGreatDoorDcP
import Derived.Test.YtjamibeffalhaaaGreatDoorGnA
import Derived.Test.YtjamibeffalhaaaGreatDoorLcB
import Derived.Test.YtjamibeffalhaaaGreatDoorIntA
import Derived.Test.YtjamibeffalhaaaGreatDoorLexA
set_option linter.unusedVariables false
set_option linter.unusedSimpArgs false
namespace Go.Proofs.YtjamibeffalhaaaGreatDoor
open Go Go.RowKit
set_option maxRecDepth 10000
variable {G : Nat → Option (List Value)}
def Dc.cells (d : Dc) : List AV := [.v (.int .i64 d.num), .v (.int .i64 d.kind), .v (.int .i64 d.st), .v (.int .i64 d.rd), .sl 1 (d.zone.map iv), .v (.int .i64 d.safe), .sl 3 (d.lk.map Lk.av), .v (.string d.iss), .v (.string d.hol), .v (.int .i64 d.f), .v (.int .i64 d.u), .sl 1 (d.ce.map iv)]
def Dc.av (d : Dc) : AV := .ag d.cells
theorem wH (f u : Int) : zz Tryz.prog G 66 [.ag [.v (.int .i64 f), .v (.int .i64 u)]] [] (.v (.bool (gT f u))) [] := by
  refine zb tbOk (zc Tryz.func66 (by kernel_rfl) rfl) Tryz.func66 rfl _ Tryz.ntmps66 (Nat.le_of_ble_eq_true rfl) fun X hX => ?_
  subst hX
  repeat' (first | ((with_reducible refine zK ?_); refine zJ rfl ?_) | ((with_reducible refine zE ?_); refine zF rfl ?_) | ((with_reducible refine zM ?_); refine zI tbOk rfl rfl rfl rfl ?_) | ((with_reducible refine zR ?_); refine zP tbOk rfl rfl rfl rfl rfl ?_) | ((with_reducible refine yr ?_); refine yu rfl rfl rfl ?_) | ((with_reducible refine za ?_); (first | refine zh rfl (by first | rfl | assumption) rfl ?_ | refine zf rfl (by first | rfl | assumption) rfl ?_)) | ((with_reducible refine zQ ?_); refine zT rfl rfl rfl ?_)  | refine zL ?_ | refine zB rfl ?_ | refine yC rfl rfl (by first | rfl | assumption) ?_ | refine yE rfl rfl (by first | rfl | assumption) ?_ | with_reducible (first | refine zG ?_ | refine zH ?_ | refine zN ?_) | ((with_reducible refine zA ?_ ?_); kernel_rfl) | refine zv rfl rfl (fun _ => ?_) (fun _ => ?_) | refine zZ rfl (fun _ => ?_) (fun _ => ?_))
  all_goals refine zm (by first | exact .inr rfl | exact .inl rfl) rfl rfl ?_
  all_goals simp_all [gT]
  all_goals omega
theorem rspan_A (f u : Int) : zz Tryz.prog G 71 [.ag [.v (.int .i64 f), .v (.int .i64 u)]] [] (.v (.bool (gT f u))) [] := by
  refine zb tbOk (zc Tryz.func71 (by kernel_rfl) rfl) Tryz.func71 rfl _ Tryz.ntmps71 (Nat.le_of_ble_eq_true rfl) fun X hX => ?_
  subst hX
  repeat' (first | ((with_reducible refine zK ?_); refine zJ rfl ?_) | ((with_reducible refine zE ?_); refine zF rfl ?_) | ((with_reducible refine zM ?_); refine zI tbOk rfl rfl rfl rfl ?_) | ((with_reducible refine zR ?_); refine zP tbOk rfl rfl rfl rfl rfl ?_) | ((with_reducible refine yr ?_); refine yu rfl rfl rfl ?_) | ((with_reducible refine za ?_); (first | refine zh rfl (by first | rfl | assumption) rfl ?_ | refine zf rfl (by first | rfl | assumption) rfl ?_)) | ((with_reducible refine zQ ?_); refine zT rfl rfl rfl ?_)  | refine zL ?_ | refine zB rfl ?_ | refine yC rfl rfl (by first | rfl | assumption) ?_ | refine yE rfl rfl (by first | rfl | assumption) ?_ | with_reducible (first | refine zG ?_ | refine zH ?_ | refine zN ?_) | ((with_reducible refine zA ?_ ?_); kernel_rfl) | refine zv rfl rfl (fun _ => ?_) (fun _ => ?_) | refine zZ rfl (fun _ => ?_) (fun _ => ?_))
  all_goals refine zm (by first | exact .inr rfl | exact .inl rfl) rfl rfl ?_
  all_goals simp_all [gT]
  all_goals omega
theorem dnum_A (n : Int) : zz Tryz.prog G 62 [.v (.int .i64 n)] [] (.v (.bool (!decide (n < 1 ∨ 65536 < n)))) [] := by
  refine zb tbOk (zc Tryz.func62 (by kernel_rfl) rfl) Tryz.func62 rfl _ Tryz.ntmps62 (Nat.le_of_ble_eq_true rfl) fun X hX => ?_
  subst hX
  repeat (first | ((with_reducible refine zK ?_); refine zJ rfl ?_) | ((with_reducible refine zE ?_); refine zF rfl ?_) | ((with_reducible refine zQ ?_); refine zT rfl rfl rfl ?_)  | refine zL ?_ | refine zB rfl ?_ | with_reducible (first | refine zG ?_ | refine zH ?_) | ((with_reducible refine zA ?_ ?_); kernel_rfl))
  refine zv rfl rfl (fun b => ?_) (fun b => ?_)
  · repeat (first | ((with_reducible refine zK ?_); refine zJ rfl ?_) | ((with_reducible refine zE ?_); refine zF rfl ?_) | ((with_reducible refine za ?_); refine zh rfl (by first | rfl | assumption) rfl ?_) | ((with_reducible refine zQ ?_); refine zT rfl rfl rfl ?_)  | refine zL ?_ | refine zB rfl ?_ | refine yC rfl rfl (by first | rfl | assumption) ?_ | with_reducible (first | refine zG ?_ | refine zN ?_) )
    refine zm (by first | exact .inr rfl | exact .inl rfl) rfl rfl ?_
    refine congrArg (fun b => AV.v (.bool b)) ?_
    rw [Bool.eq_iff_iff]
    simp at b ⊢
    omega
  · repeat (first | ((with_reducible refine zE ?_); refine zF rfl ?_) | ((with_reducible refine za ?_); refine zf rfl (by first | rfl | assumption) rfl ?_)  | refine zL ?_ | refine zB rfl ?_ | refine yE rfl rfl (by first | rfl | assumption) ?_ | with_reducible (first | refine zG ?_ | refine zN ?_) )
    refine zm (by first | exact .inr rfl | exact .inl rfl) rfl rfl ?_
    refine congrArg (fun b => AV.v (.bool b)) ?_
    rw [Bool.eq_iff_iff]
    simp at b ⊢
    omega
theorem rising_A (L : List Int) (n : Int) (hl : L.length ≤ maxLen) : zz Tryz.prog G 96 [.sl 1 (L.map iv), .v (.int .i64 n)] [] (.v (.bool (risB n (-1) L))) [] := by
  have hml : L.length ≤ 9223372036854775807 := by unfold maxLen at hl; omega
  refine zb tbOk (zc Tryz.func96 (by kernel_rfl) rfl) Tryz.func96 rfl _ Tryz.ntmps96 (Nat.le_of_ble_eq_true rfl) fun X hX => ?_
  subst hX
  repeat (first | ((with_reducible refine zK ?_); refine zJ rfl ?_) | ((with_reducible refine zE ?_); refine zF rfl ?_) | ((with_reducible refine zt ?_); refine yH tbOk rfl rfl ?_)  | refine zL ?_ | refine zB rfl ?_ | with_reducible (first | refine zG ?_ | refine zH ?_ | refine zY ?_) | ((with_reducible refine zA ?_ ?_); kernel_rfl))
  refine yL (ι := Nat × Int) (fun i => i.1 ≤ L.length ∧ risB n i.2 (L.drop i.1) = risB n (-1) L) (fun i => L.length - i.1) (fun v i => [(1, .v (.int .i64 n)), (5, .v (.int .i64 i.2)), (9, .sl 1 (L.map iv)), (10, .v (.int .i64 (L.map iv).length)), (11, .v (.int .i64 (i.1 : Nat)))]) (fun v i => []) ?_ ?_
  · exact ⟨(0, -1), ⟨Nat.zero_le _, rfl⟩, trivial, ⟨rfl, rfl, rfl, rfl, rfl, trivial⟩, trivial⟩
  rintro v ⟨k, p⟩ ⟨hk, hi⟩
  dsimp only at hk hi ⊢
  repeat (first | ((with_reducible refine zQ ?_); refine zT rfl rfl rfl ?_)  | refine zL ?_ | refine zB rfl ?_ | with_reducible (first | refine zG ?_ | refine zH ?_) | ((with_reducible refine zA ?_ ?_); kernel_rfl))
  refine zZ rfl (fun h => ?_) (fun h => ?_)
  · have hlt : k < L.length := by simpa using h
    obtain ⟨x, hx⟩ := zd hlt
    have hy := aG hx
    rw [fI hx] at hi
    repeat (first | ((with_reducible refine zK ?_); refine zJ rfl ?_) | ((with_reducible refine zE ?_); refine zF rfl ?_) | ((with_reducible refine zR ?_); refine zW tbOk rfl rfl rfl ?_) | ((with_reducible refine zU ?_); refine zX tbOk rfl rfl rfl rfl (by assumption) ?_) | ((with_reducible refine zQ ?_); refine zT rfl rfl rfl ?_)  | refine zL ?_ | refine zB rfl ?_ | with_reducible (first | refine zG ?_ | refine zH ?_ | refine zY ?_ | refine zS ?_) | ((with_reducible refine zA ?_ ?_); kernel_rfl))
    refine zv rfl rfl (fun b => ?_) (fun b => ?_)
    · rw [if_pos (.inl (by simpa using b))] at hi
      repeat (first | ((with_reducible refine zE ?_); refine zF rfl ?_) | ((with_reducible refine za ?_); refine zh rfl (by first | rfl | assumption) rfl ?_)  | refine zL ?_ | refine zB rfl ?_ | refine yA rfl rfl (by first | rfl | assumption) ?_ | with_reducible (first | refine zG ?_ | refine zO ?_ | refine zV ?_ | refine zH ?_ | refine zN ?_) | ((with_reducible refine zA ?_ ?_); kernel_rfl) | refine zn rfl (by first | rfl | assumption) ?_)
      refine zm (by first | exact .inr rfl | exact .inl rfl) rfl rfl ?_
      rw [← hi]
    · repeat (first | ((with_reducible refine zK ?_); refine zJ rfl ?_) | ((with_reducible refine za ?_); refine zf rfl (by first | rfl | assumption) rfl ?_) | ((with_reducible refine zQ ?_); refine zT rfl rfl rfl ?_)  | refine zL ?_ | refine zB rfl ?_ | refine zw rfl rfl (by first | rfl | assumption) ?_ | with_reducible refine zG ?_ )
      refine zZ rfl (fun c => ?_) (fun c => ?_)
      · rw [if_pos (.inr (by simpa using c))] at hi
        repeat (first | ((with_reducible refine zE ?_); refine zF rfl ?_)  | refine zL ?_ | refine zB rfl ?_ | with_reducible (first | refine zG ?_ | refine zO ?_ | refine zV ?_ | refine zH ?_ | refine zN ?_) | ((with_reducible refine zA ?_ ?_); kernel_rfl))
        refine zm (by first | exact .inr rfl | exact .inl rfl) rfl rfl ?_
        rw [← hi]
      · rw [if_neg (by simp at b c; omega)] at hi
        repeat (first | ((with_reducible refine zK ?_); refine zJ rfl ?_) | ((with_reducible refine zE ?_); refine zF rfl ?_) | ((with_reducible refine zQ ?_); refine zg rfl rfl (by omega) ?_)  | refine zL ?_ | refine zB rfl ?_ | with_reducible (first | refine zG ?_ | refine zu ?_ | refine zS ?_) | ((with_reducible refine zA ?_ ?_); kernel_rfl))
        exact ⟨(k + 1, x), ⟨by show k + 1 ≤ _; omega, hi⟩, by show L.length - (k + 1) < L.length - k; omega, ⟨rfl, rfl, rfl, rfl, rfl, trivial⟩, trivial⟩
  · have hge : L.length ≤ k := by simpa using h
    rw [List.drop_of_length_le hge] at hi
    repeat (first | ((with_reducible refine zE ?_); refine zF rfl ?_)  | refine zL ?_ | refine zB rfl ?_ | with_reducible (first | refine zG ?_ | refine zo ?_ | refine zH ?_ | refine yB ?_ | refine zN ?_) | ((with_reducible refine ze ?_ ?_); rfl) | ((with_reducible refine zA ?_ ?_); kernel_rfl))
    refine zm (by first | exact .inr rfl | exact .inl rfl) rfl rfl ?_
    rw [← hi]; rfl
def ju (d : Int) (L : List Int) (k : Nat) : Int := if k = 0 then d else (L[k - 1]?).getD d
theorem jP {d : Int} {L : List Int} {k : Nat} {x : Int} (h : L[k]? = some x) : ju d L (k + 1) = x := by unfold ju; rw [if_neg (by omega), Nat.add_sub_cancel, h]; rfl
theorem rset_A (L : List Int) (n : Int) (hl : L.length ≤ maxLen) : zz Tryz.prog G 102 [.sl 1 (L.map iv), .v (.int .i64 n)] [] (.v (.bool (risB n (-1) L))) [] := by
  have hml : L.length ≤ 9223372036854775807 := by unfold maxLen at hl; omega
  refine zb tbOk (zc Tryz.func102 (by kernel_rfl) rfl) Tryz.func102 rfl _ Tryz.ntmps102 (Nat.le_of_ble_eq_true rfl) fun X hX => ?_
  subst hX
  repeat (first | ((with_reducible refine zE ?_); refine zF rfl ?_)  | refine zL ?_ | refine zB rfl ?_ | with_reducible (first | refine zG ?_ | refine zH ?_ | refine zY ?_) | ((with_reducible refine zA ?_ ?_); kernel_rfl))
  refine yL (ι := Nat) (fun i => i ≤ L.length ∧ -1 ≤ ju (-1) L i ∧ risB n (ju (-1) L i) (L.drop i) = risB n (-1) L) (fun i => L.length - i) (fun v i => [(0, .sl 1 (L.map iv)), (1, .v (.int .i64 n)), (5, .v (.int .i64 (i : Nat)))]) (fun v i => []) ?_ ?_
  · exact ⟨0, ⟨Nat.zero_le _, by unfold ju; simp, rfl⟩, trivial, ⟨rfl, rfl, rfl, trivial⟩, trivial⟩
  rintro v k ⟨hk, hp, hi⟩
  repeat (first | ((with_reducible refine zK ?_); refine zJ rfl ?_) | ((with_reducible refine zt ?_); refine yH tbOk rfl rfl ?_) | ((with_reducible refine zQ ?_); refine zT rfl rfl rfl ?_)  | refine zL ?_ | refine zB rfl ?_ | with_reducible (first | refine zG ?_ | refine zH ?_) | ((with_reducible refine zA ?_ ?_); kernel_rfl))
  refine zZ rfl (fun h => ?_) (fun h => ?_)
  · have hlt : k < L.length := by simpa using h
    obtain ⟨x, hx⟩ := zd hlt
    have hy := aG hx
    rw [fI hx] at hi
    repeat (first | ((with_reducible refine zK ?_); refine zJ rfl ?_) | ((with_reducible refine zR ?_); refine zW tbOk rfl rfl rfl ?_) | ((with_reducible refine zU ?_); refine zX tbOk rfl rfl rfl rfl (by assumption) ?_) | ((with_reducible refine zQ ?_); refine zT rfl rfl rfl ?_)  | refine zB rfl ?_ | with_reducible (first | refine zG ?_ | refine zH ?_ | refine zY ?_ | refine zS ?_) | ((with_reducible refine yZ mixd ?_ ?_); kernel_rfl))
    refine zv rfl rfl (fun b => ?_) (fun b => ?_)
    · rw [if_pos (.inl (by simp at b; omega))] at hi
      repeat (first | ((with_reducible refine zK ?_); refine zJ rfl ?_) | ((with_reducible refine zE ?_); refine zF rfl ?_) | ((with_reducible refine za ?_); refine zh rfl (by first | rfl | assumption) rfl ?_)  | refine zL ?_ | refine yf (by kernel_rfl) ?_ | refine zB rfl ?_ | refine yA rfl rfl (by first | rfl | assumption) ?_ | refine jT rfl rfl rfl ?_ | with_reducible (first | refine zG ?_ | refine zO ?_ | refine zV ?_ | refine zH ?_ | refine zN ?_) | ((with_reducible refine zA ?_ ?_); kernel_rfl) | refine zn rfl (by first | rfl | assumption) ?_)
      refine zm (by first | exact .inr rfl | exact .inl rfl) rfl rfl ?_
      rw [← hi]
    repeat (first | ((with_reducible refine zK ?_); refine zJ rfl ?_) | ((with_reducible refine zR ?_); refine zW tbOk rfl rfl rfl ?_) | ((with_reducible refine za ?_); refine zf rfl (by first | rfl | assumption) rfl ?_) | ((with_reducible refine zU ?_); refine zX tbOk rfl rfl rfl rfl (by assumption) ?_) | ((with_reducible refine zQ ?_); refine zT rfl rfl rfl ?_)  | refine zB rfl ?_ | refine zw rfl rfl (by first | rfl | assumption) ?_  )
    refine zv rfl rfl (fun b2 => ?_) (fun b2 => ?_)
    · rw [if_pos (.inr (by simpa using b2))] at hi
      repeat (first | ((with_reducible refine zE ?_); refine zF rfl ?_) | ((with_reducible refine za ?_); refine zh rfl (by first | rfl | assumption) rfl ?_)  | refine zL ?_ | refine yf (by kernel_rfl) ?_ | refine zB rfl ?_ | refine yA rfl rfl (by first | rfl | assumption) ?_ | refine jT rfl rfl rfl ?_ | with_reducible (first | refine zG ?_ | refine zO ?_ | refine zV ?_ | refine zH ?_ | refine zN ?_) | ((with_reducible refine zA ?_ ?_); kernel_rfl) | refine zn rfl (by first | rfl | assumption) ?_)
      refine zm (by first | exact .inr rfl | exact .inl rfl) rfl rfl ?_
      rw [← hi]
    rcases Nat.eq_zero_or_pos k with k0 | k0
    · have b0 : decide ((k : Int) > 0) = false := by simp [k0]
      have hp0 : ju (-1) L k = -1 := by unfold ju; rw [if_pos k0]
      rw [if_neg (by rw [hp0]; simp at b b2; omega), ← jP (d := -1) hx] at hi
      repeat (first | ((with_reducible refine zK ?_); refine zJ rfl ?_) | ((with_reducible refine zE ?_); refine zF rfl ?_) | ((with_reducible refine za ?_); refine zf rfl (by first | rfl | assumption) rfl ?_) | ((with_reducible refine zQ ?_); (first | refine zg rfl rfl (by omega) ?_ | refine zT rfl rfl rfl ?_))  | refine zL ?_ | refine yf (by kernel_rfl) ?_ | refine zB rfl ?_ | refine yE rfl rfl (by first | rfl | assumption) ?_ | refine zw rfl rfl (by first | rfl | assumption) ?_ | with_reducible (first | refine zG ?_ | refine zu ?_ | refine zS ?_) | ((with_reducible refine zA ?_ ?_); kernel_rfl) | refine yF rfl (by first | rfl | assumption) ?_)
      exact ⟨k + 1, ⟨by omega, by rw [jP hx]; simp at b; omega, hi⟩, by omega, ⟨rfl, rfl, rfl, trivial⟩, trivial⟩
    · obtain ⟨q, hq⟩ := zd (L := L) (k := k - 1) (by omega)
      have hqy := aG hq
      have ei : ((k : Nat) : Int) - 1 = ((k - 1 : Nat) : Int) := by omega
      have b0 : decide ((k : Int) > 0) = true := by simpa using k0
      have hp0 : ju (-1) L k = q := by unfold ju; rw [if_neg (by omega), hq]; rfl
      rw [hp0] at hi hp
      repeat (first | ((with_reducible refine zK ?_); refine zJ rfl ?_) | ((with_reducible refine zR ?_); refine zW tbOk rfl rfl rfl ?_) | ((with_reducible refine zU ?_); refine zX tbOk rfl rfl rfl rfl (by assumption) ?_) | ((with_reducible refine zQ ?_); (first | refine jm rfl rfl (by omega) ?_ | refine zT rfl rfl rfl ?_))  | refine yC rfl rfl (by first | rfl | assumption) ?_ | refine zw rfl rfl (by first | rfl | assumption) ?_  )
      with_reducible refine zU ?_
      refine yY tbOk rfl rfl rfl rfl (by omega) (by rw [ei, Int.toNat_natCast]; exact hqy) ?_
      repeat (first | ((with_reducible refine zR ?_); refine zW tbOk rfl rfl rfl ?_) | ((with_reducible refine za ?_); (first | refine zh rfl (by first | rfl | assumption) rfl ?_ | refine zf rfl (by first | rfl | assumption) rfl ?_)) | ((with_reducible refine zQ ?_); refine zT rfl rfl rfl ?_)  | refine yf (by kernel_rfl) ?_ | refine zB rfl ?_ | refine yC rfl rfl (by first | rfl | assumption) ?_ | refine zw rfl rfl (by first | rfl | assumption) ?_ | with_reducible refine zG ?_ )
      refine zZ rfl (fun c => ?_) (fun c => ?_)
      · rw [if_pos (.inl (by simpa using c))] at hi
        repeat (first | ((with_reducible refine zE ?_); refine zF rfl ?_)  | refine zL ?_ | refine zB rfl ?_ | with_reducible (first | refine zG ?_ | refine zO ?_ | refine zV ?_ | refine zH ?_ | refine zN ?_) | ((with_reducible refine zA ?_ ?_); kernel_rfl))
        refine zm (by first | exact .inr rfl | exact .inl rfl) rfl rfl ?_
        rw [← hi]
      · rw [if_neg (by simp at b b2 c; omega), ← jP (d := -1) hx] at hi
        repeat (first | ((with_reducible refine zK ?_); refine zJ rfl ?_) | ((with_reducible refine zE ?_); refine zF rfl ?_) | ((with_reducible refine zQ ?_); refine zg rfl rfl (by omega) ?_)  | refine zL ?_ | refine zB rfl ?_ | with_reducible (first | refine zG ?_ | refine zu ?_ | refine zS ?_) | ((with_reducible refine zA ?_ ?_); kernel_rfl))
        exact ⟨k + 1, ⟨by omega, by rw [jP hx]; simp at b; omega, hi⟩, by omega, ⟨rfl, rfl, rfl, trivial⟩, trivial⟩
  · have hge : L.length ≤ k := by simpa using h
    rw [List.drop_of_length_le hge] at hi
    repeat (first | ((with_reducible refine zE ?_); refine zF rfl ?_)  | refine zL ?_ | refine zB rfl ?_ | with_reducible (first | refine zG ?_ | refine zo ?_ | refine zH ?_ | refine yB ?_ | refine zN ?_) | ((with_reducible refine ze ?_ ?_); rfl) | ((with_reducible refine zA ?_ ?_); kernel_rfl))
    refine zm (by first | exact .inr rfl | exact .inl rfl) rfl rfl ?_
    rw [← hi]; rfl
theorem zcheck_A (N : List Nd) (V : List Dv) (Z : List Int) (hG : GCls G) (ok : NwOk N V) (hl : Z.length ≤ maxLen) : zz Tryz.prog G 63 [jo N V, .sl 1 (Z.map iv)] [] (.v (.int .i64 (fO N V Z))) [] := by
  have hml : Z.length ≤ 9223372036854775807 := by unfold maxLen at hl; omega
  have hnl : N.length ≤ 9223372036854775807 := by have := ok.l1; unfold maxLen at this; omega
  unfold fO
  refine zb tbOk (zc Tryz.func63 (by kernel_rfl) rfl) Tryz.func63 rfl _ Tryz.ntmps63 (Nat.le_of_ble_eq_true rfl) fun X hX => ?_
  subst hX
  repeat (first | ((with_reducible refine zE ?_); refine zF rfl ?_) | ((with_reducible refine zR ?_); refine zk tbOk rfl rfl rfl rfl (Nat.le_of_ble_eq_true rfl) ?_) | ((with_reducible refine yr ?_); refine yu rfl rfl rfl ?_)  | refine zL ?_ | refine zB rfl ?_ | with_reducible (first | refine zG ?_ | refine zH ?_) | ((with_reducible refine zA ?_ ?_); kernel_rfl))
  refine zC (jx N V hG ok.n ok.v ok.l1 ok.l2) ?_
  repeat (first | ((with_reducible refine zK ?_); refine zJ rfl ?_) | ((with_reducible refine zE ?_); refine zF rfl ?_) | ((with_reducible refine zQ ?_); refine zT rfl rfl rfl ?_)  | refine zL ?_ | refine zB rfl ?_ | with_reducible (first | refine zG ?_ | refine zH ?_) | ((with_reducible refine zA ?_ ?_); kernel_rfl))
  refine zZ rfl (fun h => ?_) (fun h => ?_)
  · rw [if_pos (by simpa using h)]
    repeat (first | ((with_reducible refine zK ?_); refine zJ rfl ?_) | ((with_reducible refine zE ?_); refine zF rfl ?_)  | refine zL ?_ | refine zB rfl ?_ | with_reducible (first | refine zG ?_ | refine zO ?_ | refine zH ?_ | refine zN ?_) | ((with_reducible refine zA ?_ ?_); kernel_rfl))
    refine zm (by first | exact .inr rfl | exact .inl rfl) rfl rfl ?_
    rfl
  rw [if_neg (by simpa using h)]
  repeat (first | ((with_reducible refine zK ?_); refine zJ rfl ?_) | ((with_reducible refine zE ?_); refine zF rfl ?_) | ((with_reducible refine zt ?_); refine yH tbOk rfl rfl ?_) | ((with_reducible refine zQ ?_); refine zT rfl rfl rfl ?_)  | refine zL ?_ | refine zB rfl ?_ | with_reducible (first | refine zG ?_ | refine zH ?_ | refine zY ?_ | refine zS ?_) | ((with_reducible refine zA ?_ ?_); kernel_rfl))
  refine zZ rfl (fun h => ?_) (fun h => ?_)
  · rw [if_pos (by simp at h; simpa using h)]
    repeat (first | ((with_reducible refine zE ?_); refine zF rfl ?_)  | refine zL ?_ | refine zB rfl ?_ | with_reducible (first | refine zG ?_ | refine zO ?_ | refine zV ?_ | refine zH ?_ | refine zN ?_) | ((with_reducible refine zA ?_ ?_); kernel_rfl))
    refine zm (by first | exact .inr rfl | exact .inl rfl) rfl rfl ?_
    rfl
  rw [if_neg (by simp at h; simpa using h)]
  repeat (first | ((with_reducible refine zK ?_); refine zJ rfl ?_) | ((with_reducible refine zM ?_); refine zI tbOk rfl rfl rfl rfl ?_) | ((with_reducible refine zR ?_); refine zP tbOk rfl rfl rfl rfl rfl ?_) | ((with_reducible refine zt ?_); refine yH tbOk rfl rfl ?_)  | refine zB rfl ?_ | with_reducible refine zH ?_ | ((with_reducible refine zA ?_ ?_); kernel_rfl))
  refine zC (rising_A Z ((N.map Nd.av).length : Int) hl) ?_
  repeat (first | ((with_reducible refine zE ?_); refine zF rfl ?_) | ((with_reducible refine k_un ?_); refine jF rfl ?_)  | refine zL ?_ | refine zB rfl ?_ | with_reducible refine zG ?_ )
  rw [List.length_map]
  refine zZ rfl (fun h => ?_) (fun h => ?_)
  · rw [if_pos (by simpa using h)]
    repeat (first | ((with_reducible refine zE ?_); refine zF rfl ?_)  | refine zL ?_ | refine zB rfl ?_ | with_reducible (first | refine zG ?_ | refine zO ?_ | refine zV ?_ | refine zH ?_ | refine zN ?_) | ((with_reducible refine zA ?_ ?_); kernel_rfl))
    refine zm (by first | exact .inr rfl | exact .inl rfl) rfl rfl ?_
    rfl
  rw [if_neg (by simpa using h)]
  repeat (first | ((with_reducible refine zE ?_); refine zF rfl ?_)  | refine zL ?_ | refine zB rfl ?_ | with_reducible (first | refine zG ?_ | refine zu ?_ | refine zH ?_ | refine zS ?_ | refine zN ?_) | ((with_reducible refine zA ?_ ?_); kernel_rfl))
  refine zm (by first | exact .inr rfl | exact .inl rfl) rfl rfl ?_
  rfl
theorem rzone_A (N : List Nd) (V : List Dv) (Z : List Int) (hG : GCls G) (ok : NwOk N V) (hl : Z.length ≤ maxLen) : zz Tryz.prog G 68 [jo N V, .sl 1 (Z.map iv)] [] (.v (.int .i64 (fO N V Z))) [] := by
  have hml : Z.length ≤ 9223372036854775807 := by unfold maxLen at hl; omega
  have hnl : N.length ≤ 9223372036854775807 := by have := ok.l1; unfold maxLen at this; omega
  unfold fO
  refine zb tbOk (zc Tryz.func68 (by kernel_rfl) rfl) Tryz.func68 rfl _ Tryz.ntmps68 (Nat.le_of_ble_eq_true rfl) fun X hX => ?_
  subst hX
  repeat (first | ((with_reducible refine zE ?_); refine zF rfl ?_) | ((with_reducible refine zR ?_); refine zk tbOk rfl rfl rfl rfl (Nat.le_of_ble_eq_true rfl) ?_) | ((with_reducible refine yr ?_); refine yu rfl rfl rfl ?_)  | refine zL ?_ | refine zB rfl ?_ | with_reducible (first | refine zG ?_ | refine zH ?_) | ((with_reducible refine zA ?_ ?_); kernel_rfl))
  refine zC (cP N V ok.n ok.v ok.l1 ok.l2) ?_
  repeat (first | ((with_reducible refine zK ?_); refine zJ rfl ?_) | ((with_reducible refine zE ?_); refine zF rfl ?_) | ((with_reducible refine zQ ?_); refine zT rfl rfl rfl ?_)  | refine zL ?_ | refine zB rfl ?_ | with_reducible (first | refine zG ?_ | refine zH ?_) | ((with_reducible refine zA ?_ ?_); kernel_rfl))
  refine zZ rfl (fun h => ?_) (fun h => ?_)
  · rw [if_pos (by simpa using h)]
    repeat (first | ((with_reducible refine zK ?_); refine zJ rfl ?_) | ((with_reducible refine zE ?_); refine zF rfl ?_)  | refine zL ?_ | refine zB rfl ?_ | with_reducible (first | refine zG ?_ | refine zO ?_ | refine zH ?_ | refine zN ?_) | ((with_reducible refine zA ?_ ?_); kernel_rfl))
    refine zm (by first | exact .inr rfl | exact .inl rfl) rfl rfl ?_
    rfl
  rw [if_neg (by simpa using h)]
  repeat (first | ((with_reducible refine zK ?_); refine zJ rfl ?_) | ((with_reducible refine zt ?_); refine yH tbOk rfl rfl ?_) | ((with_reducible refine zQ ?_); refine zT rfl rfl rfl ?_)  | refine zL ?_ | refine zB rfl ?_ | with_reducible (first | refine zG ?_ | refine zH ?_ | refine zS ?_) | ((with_reducible refine zA ?_ ?_); kernel_rfl))
  refine zZ rfl (fun h => ?_) (fun h => ?_)
  · rw [if_pos (by simp at h; simpa using h)]
    repeat (first | ((with_reducible refine zE ?_); refine zF rfl ?_)  | refine zL ?_ | refine zB rfl ?_ | with_reducible (first | refine zG ?_ | refine zO ?_ | refine zH ?_ | refine zN ?_) | ((with_reducible refine zA ?_ ?_); kernel_rfl))
    refine zm (by first | exact .inr rfl | exact .inl rfl) rfl rfl ?_
    rfl
  rw [if_neg (by simp at h; simpa using h)]
  repeat (first | ((with_reducible refine zK ?_); refine zJ rfl ?_) | ((with_reducible refine zM ?_); refine zI tbOk rfl rfl rfl rfl ?_) | ((with_reducible refine zR ?_); refine zP tbOk rfl rfl rfl rfl rfl ?_) | ((with_reducible refine zt ?_); refine yH tbOk rfl rfl ?_)  | refine zB rfl ?_ | with_reducible (first | refine zG ?_ | refine zH ?_ | refine zS ?_) | ((with_reducible refine zA ?_ ?_); kernel_rfl))
  refine zC (rset_A Z ((N.map Nd.av).length : Int) hl) ?_
  repeat (first | ((with_reducible refine k_un ?_); refine jF rfl ?_)  | refine zL ?_ | refine zB rfl ?_ | with_reducible refine zG ?_ )
  rw [List.length_map]
  refine zZ rfl (fun h => ?_) (fun h => ?_)
  · rw [if_pos (by simpa using h)]
    repeat (first | ((with_reducible refine zE ?_); refine zF rfl ?_)  | refine zL ?_ | refine zB rfl ?_ | with_reducible (first | refine zG ?_ | refine zO ?_ | refine zH ?_ | refine zN ?_) | ((with_reducible refine zA ?_ ?_); kernel_rfl))
    refine zm (by first | exact .inr rfl | exact .inl rfl) rfl rfl ?_
    rfl
  rw [if_neg (by simpa using h)]
  repeat (first | ((with_reducible refine zE ?_); refine zF rfl ?_)  | refine zL ?_ | refine zB rfl ?_ | with_reducible (first | refine zG ?_ | refine zH ?_ | refine zS ?_ | refine zN ?_) | ((with_reducible refine zA ?_ ?_); kernel_rfl))
  refine zm (by first | exact .inr rfl | exact .inl rfl) rfl rfl ?_
  rfl
theorem certs_A (L : List Int) (hl : L.length ≤ maxLen) : zz Tryz.prog G 67 [.sl 1 (L.map iv)] [] (.v (.int .i64 (cesE L))) [] := by
  have hml : L.length ≤ 9223372036854775807 := by unfold maxLen at hl; omega
  unfold cesE
  refine zb tbOk (zc Tryz.func67 (by kernel_rfl) rfl) Tryz.func67 rfl _ Tryz.ntmps67 (Nat.le_of_ble_eq_true rfl) fun X hX => ?_
  subst hX
  repeat (first | ((with_reducible refine zK ?_); refine zJ rfl ?_) | ((with_reducible refine zE ?_); refine zF rfl ?_) | ((with_reducible refine zt ?_); refine yH tbOk rfl rfl ?_) | ((with_reducible refine zQ ?_); refine zT rfl rfl rfl ?_)  | refine zL ?_ | refine zB rfl ?_ | with_reducible (first | refine zG ?_ | refine zH ?_) | ((with_reducible refine zA ?_ ?_); kernel_rfl))
  refine zZ rfl (fun h => ?_) (fun h => ?_)
  · rw [if_pos (by simp at h; omega)]
    repeat (first | ((with_reducible refine zE ?_); refine zF rfl ?_)  | refine zL ?_ | refine zB rfl ?_ | with_reducible (first | refine zG ?_ | refine zO ?_ | refine zH ?_ | refine zN ?_) | ((with_reducible refine zA ?_ ?_); kernel_rfl))
    refine zm (by first | exact .inr rfl | exact .inl rfl) rfl rfl ?_
    rfl
  rw [if_neg (by simp at h; omega)]
  repeat (first | ((with_reducible refine zK ?_); refine zJ rfl ?_) | ((with_reducible refine zt ?_); refine yH tbOk rfl rfl ?_)  | refine zL ?_ | refine zB rfl ?_ | with_reducible (first | refine zG ?_ | refine zH ?_ | refine zY ?_ | refine zS ?_) | ((with_reducible refine zA ?_ ?_); kernel_rfl))
  refine yL (ι := Nat) (fun i => i ≤ L.length ∧ 0 ≤ ju 0 L i ∧ risB 65537 (ju 0 L i) (L.drop i) = risB 65537 0 L) (fun i => L.length - i) (fun v i => [(0, .sl 1 (L.map iv)), (8, .sl 1 (L.map iv)), (9, .v (.int .i64 (L.map iv).length)), (10, .v (.int .i64 (i : Nat)))]) (fun v i => []) ?_ ?_
  · exact ⟨0, ⟨Nat.zero_le _, by unfold ju; simp, rfl⟩, trivial, ⟨rfl, rfl, rfl, rfl, trivial⟩, trivial⟩
  rintro v k ⟨hk, hp, hi⟩
  repeat (first | ((with_reducible refine zQ ?_); refine zT rfl rfl rfl ?_)  | refine zL ?_ | refine zB rfl ?_ | with_reducible (first | refine zG ?_ | refine zH ?_) | ((with_reducible refine zA ?_ ?_); kernel_rfl))
  refine zZ rfl (fun h => ?_) (fun h => ?_)
  · have hlt : k < L.length := by simpa using h
    obtain ⟨x, hx⟩ := zd hlt
    have hy := aG hx
    rw [fI hx] at hi
    repeat (first | ((with_reducible refine zK ?_); refine zJ rfl ?_) | ((with_reducible refine zE ?_); refine zF rfl ?_) | ((with_reducible refine zR ?_); refine zW tbOk rfl rfl rfl ?_) | ((with_reducible refine zU ?_); refine zX tbOk rfl rfl rfl rfl (by assumption) ?_)  | refine zL ?_ | refine zB rfl ?_ | with_reducible (first | refine zG ?_ | refine zH ?_ | refine zY ?_ | refine zS ?_) | ((with_reducible refine zA ?_ ?_); kernel_rfl))
    refine zC (dnum_A x) ?_
    repeat (first | ((with_reducible refine zK ?_); refine zJ rfl ?_) | ((with_reducible refine k_un ?_); refine jF rfl ?_)  | refine zB rfl ?_  )
    refine zv rfl rfl (fun b => ?_) (fun b => ?_)
    · rw [if_pos (by simp at b; omega)] at hi
      rw [if_pos hi.symm]
      repeat (first | ((with_reducible refine zE ?_); refine zF rfl ?_) | ((with_reducible refine za ?_); refine zh rfl (by first | rfl | assumption) rfl ?_)  | refine zL ?_ | refine zB rfl ?_ | refine yA rfl rfl (by first | rfl | assumption) ?_ | refine jT rfl rfl rfl ?_ | with_reducible (first | refine zG ?_ | refine zO ?_ | refine zV ?_ | refine zH ?_ | refine zN ?_) | ((with_reducible refine zA ?_ ?_); kernel_rfl) | refine zn rfl (by first | rfl | assumption) ?_)
      refine zm (by first | exact .inr rfl | exact .inl rfl) rfl rfl ?_
      rfl
    rcases Nat.eq_zero_or_pos k with k0 | k0
    · have b0 : decide ((k : Int) > 0) = false := by simp [k0]
      have hp0 : ju 0 L k = 0 := by unfold ju; rw [if_pos k0]
      rw [if_neg (by rw [hp0]; simp at b; omega), ← jP (d := 0) hx] at hi
      repeat (first | ((with_reducible refine zK ?_); refine zJ rfl ?_) | ((with_reducible refine za ?_); refine zf rfl (by first | rfl | assumption) rfl ?_) | ((with_reducible refine zQ ?_); (first | refine zg rfl rfl (by omega) ?_ | refine zT rfl rfl rfl ?_))  | refine zL ?_ | refine zB rfl ?_ | refine yE rfl rfl (by first | rfl | assumption) ?_ | refine zw rfl rfl (by first | rfl | assumption) ?_ | with_reducible (first | refine zG ?_ | refine zu ?_ | refine zS ?_) | ((with_reducible refine zA ?_ ?_); kernel_rfl) | refine yF rfl (by first | rfl | assumption) ?_)
      exact ⟨k + 1, ⟨by omega, by rw [jP hx]; simp at b; omega, hi⟩, by omega, ⟨rfl, rfl, rfl, rfl, trivial⟩, trivial⟩
    · obtain ⟨q, hq⟩ := zd (L := L) (k := k - 1) (by omega)
      have hqy := aG hq
      have ei : ((k : Nat) : Int) - 1 = ((k - 1 : Nat) : Int) := by omega
      have b0 : decide ((k : Int) > 0) = true := by simpa using k0
      have hp0 : ju 0 L k = q := by unfold ju; rw [if_neg (by omega), hq]; rfl
      rw [hp0] at hi hp
      repeat (first | ((with_reducible refine zK ?_); refine zJ rfl ?_) | ((with_reducible refine zQ ?_); (first | refine jm rfl rfl (by omega) ?_ | refine zT rfl rfl rfl ?_))  | refine yC rfl rfl (by first | rfl | assumption) ?_ | refine zw rfl rfl (by first | rfl | assumption) ?_  )
      with_reducible refine zU ?_
      refine yY tbOk rfl rfl rfl rfl (by omega) (by rw [ei, Int.toNat_natCast]; exact hqy) ?_
      repeat (first | ((with_reducible refine zK ?_); refine zJ rfl ?_) | ((with_reducible refine zR ?_); refine zW tbOk rfl rfl rfl ?_) | ((with_reducible refine za ?_); (first | refine zh rfl (by first | rfl | assumption) rfl ?_ | refine zf rfl (by first | rfl | assumption) rfl ?_)) | ((with_reducible refine zQ ?_); refine zT rfl rfl rfl ?_)  | refine zL ?_ | refine zB rfl ?_ | refine yC rfl rfl (by first | rfl | assumption) ?_ | refine zw rfl rfl (by first | rfl | assumption) ?_ | with_reducible refine zG ?_ )
      refine zZ rfl (fun c => ?_) (fun c => ?_)
      · rw [if_pos (.inl (by simpa using c))] at hi
        rw [if_pos hi.symm]
        repeat (first | ((with_reducible refine zE ?_); refine zF rfl ?_)  | refine zL ?_ | refine zB rfl ?_ | with_reducible (first | refine zG ?_ | refine zO ?_ | refine zV ?_ | refine zH ?_ | refine zN ?_) | ((with_reducible refine zA ?_ ?_); kernel_rfl))
        refine zm (by first | exact .inr rfl | exact .inl rfl) rfl rfl ?_
        rfl
      · rw [if_neg (by simp at b c; omega), ← jP (d := 0) hx] at hi
        repeat (first | ((with_reducible refine zK ?_); refine zJ rfl ?_) | ((with_reducible refine zQ ?_); refine zg rfl rfl (by omega) ?_)  | refine zL ?_ | refine zB rfl ?_ | with_reducible (first | refine zG ?_ | refine zu ?_ | refine zS ?_) | ((with_reducible refine zA ?_ ?_); kernel_rfl))
        exact ⟨k + 1, ⟨by omega, by rw [jP hx]; simp at b; omega, hi⟩, by omega, ⟨rfl, rfl, rfl, rfl, trivial⟩, trivial⟩
  · have hge : L.length ≤ k := by simpa using h
    rw [List.drop_of_length_le hge] at hi
    have hi' : risB 65537 0 L = true := hi.symm
    rw [if_neg (by rw [hi']; simp)]
    repeat (first | ((with_reducible refine zE ?_); refine zF rfl ?_)  | refine zL ?_ | refine zB rfl ?_ | with_reducible (first | refine zG ?_ | refine zo ?_ | refine zH ?_ | refine yB ?_ | refine zN ?_) | ((with_reducible refine ze ?_ ?_); rfl) | ((with_reducible refine zA ?_ ?_); kernel_rfl))
    refine zm (by first | exact .inr rfl | exact .inl rfl) rfl rfl ?_
    rfl
end Go.Proofs.YtjamibeffalhaaaGreatDoor
