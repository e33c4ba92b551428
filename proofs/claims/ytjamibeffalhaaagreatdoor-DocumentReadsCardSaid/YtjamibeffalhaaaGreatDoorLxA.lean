/- lexeme.Words, Join, Lines, their references, and the comparison of lists, by the abstract machine; conditions: a cell of the library stands. -/
import Derived.Test.YtjamibeffalhaaaGreatDoorLexP
import Derived.Test.YtjamibeffalhaaaGreatDoorNmA
set_option linter.unusedVariables false
set_option linter.unusedSimpArgs false
namespace Go.Proofs.YtjamibeffalhaaaGreatDoor
open Go Go.RowKit
set_option maxRecDepth 10000
variable {G : Nat → Option (List Value)}
theorem nP (s : ByteArray) (hs : s.size ≤ 4294967296) : zz Tryz.prog G 41 [.v (.string s)] [] (.sl 1 ((yP s.data.toList).map svL)) [] := by
  refine zb tbOk (zc Tryz.func41 (by kernel_rfl) rfl) Tryz.func41 rfl _ Tryz.ntmps41 (Nat.le_of_ble_eq_true rfl) fun X hX => ?_
  subst hX
  repeat (first | ((with_reducible refine zK ?_); refine zJ rfl ?_) | ((with_reducible refine zE ?_); refine zF rfl ?_)  | refine zL ?_ | refine zB rfl ?_ | with_reducible (first | refine zG ?_ | refine zH ?_) | ((with_reducible refine zA ?_ ?_); kernel_rfl))
  refine zC (wN s hs) ?_
  repeat (first | ((with_reducible refine zE ?_); refine zF rfl ?_)  | refine zL ?_ | refine zB rfl ?_ | with_reducible (first | refine zG ?_ | refine zN ?_) )
  refine dB (by first | exact .inr rfl | exact .inl rfl) rfl rfl ?_
  repeat' (first | exact trivial | exact Ren.v _ | exact Ren.sl _ _ | exact Ren.ep _ | exact Ren.ptr _ _ _ _ rfl | exact Ren.bs _ _ _ _ _ rfl | exact Ren.nil _ | exact Ren.own _ _ _ _ ⟨_, rfl⟩ | refine zi ?_ | refine zj ?_ | refine zl ?_ | refine ⟨?_, ?_⟩)
theorem ba_ext' {s : ByteArray} {l : List UInt8} (h : s.data.toList = l) : s = strL l := by
  subst h; rfl
theorem cS (s : ByteArray) (a b : Nat) : s.extract a b = strL (extL s (a, b)) := by
  refine ba_ext' ?_
  rw [ByteArray.data_extract, Array.toList_extract, List.extract_eq_take_drop, extL, List.drop_take]
theorem jy (s : ByteArray) (a : Nat) : extL s (a, a) = [] := by
  unfold extL
  simp only
  exact List.drop_of_length_le (by rw [List.length_take]; omega)
theorem gL {s : ByteArray} {a k : Nat} {c : UInt8} (hx : s.data.toList[k]? = some c) (h : a ≤ k) : extL s (a, k + 1) = extL s (a, k) ++ [c] := by
  rw [iQ s h (show k ≤ k + 1 by omega)]
  congr 1
  unfold extL
  simp only
  have hlt := yO hx
  rw [jk hx, List.drop_append_of_le_length (by rw [List.length_take]; omega), List.drop_of_length_le (by rw [List.length_take]; omega)]
  rfl
set_option maxHeartbeats 2000000 in
theorem kH (s : ByteArray) (hs : s.size ≤ 4294967296) : zz Tryz.prog G 44 [.v (.string s)] [] (.sl 1 ((yP s.data.toList).map svL)) [] := by
  have hz := bU s
  refine zb tbOk (zc Tryz.func44 (by kernel_rfl) rfl) Tryz.func44 rfl _ Tryz.ntmps44 (Nat.le_of_ble_eq_true rfl) fun X hX => ?_
  subst hX
  repeat (first | ((with_reducible refine zE ?_); refine zF rfl ?_)  | refine zL ?_ | refine zB rfl ?_ | with_reducible (first | refine zG ?_ | refine zH ?_ | refine zY ?_) | ((with_reducible refine zA ?_ ?_); kernel_rfl))
  refine fX (t := 3) (s := 31) 9 1 rfl rfl ?_
  refine yL (ι := Nat × Nat × List (List UInt8)) (fun q => q.2.1 ≤ s.size + 1 ∧ q.2.2.length ≤ q.2.1 ∧ (q.2.1 ≤ s.size → q.1 ≤ q.2.1 ∧ q.2.2 ++ wl (extL s (q.1, q.2.1)) (s.data.toList.drop q.2.1) = yP s.data.toList) ∧ (s.size < q.2.1 → q.2.2 = yP s.data.toList)) (fun q => s.size + 1 - q.2.1) (fun v q => [(0, .v (.string s)), (3, .own 31 (v 31)), (4, .v (.int .i64 (q.1 : Nat))), (5, .v (.int .i64 (q.2.1 : Nat)))]) (fun v q => [(31, .buf 9 1 (q.2.2.map svL))]) ?_ ?_
  · refine ⟨(0, 0, []), ⟨Nat.zero_le _, Nat.zero_le _, fun _ => ⟨Nat.le_refl _, ?_⟩, fun h => absurd h (Nat.not_lt_zero _)⟩, trivial, ⟨rfl, rfl, rfl, rfl, trivial⟩, ⟨rfl, trivial⟩⟩
    show [] ++ wl (extL s (0, 0)) _ = _
    rw [jy]; rfl
  rintro v ⟨a, k, D⟩ ⟨hk, hD, h1, h2⟩
  simp only at hk hD h1 h2
  dsimp only
  repeat (first | ((with_reducible refine zK ?_); refine zJ rfl ?_) | ((with_reducible refine zt ?_); refine yv (by exact Tryz.underlying9) rfl ?_) | ((with_reducible refine zQ ?_); refine zT rfl rfl rfl ?_)  | refine zL ?_ | refine zB rfl ?_ | with_reducible (first | refine zG ?_ | refine zH ?_) | ((with_reducible refine zA ?_ ?_); kernel_rfl))
  refine zZ rfl (fun h => ?_) (fun h => ?_)
  · have hkn : k ≤ s.size := by simp at h; omega
    obtain ⟨ha, hw⟩ := h1 hkn
    repeat (first | ((with_reducible refine zK ?_); refine zJ rfl ?_) | ((with_reducible refine zt ?_); refine yv (by exact Tryz.underlying9) rfl ?_) | ((with_reducible refine zQ ?_); refine zT rfl rfl rfl ?_)  | refine zB rfl ?_ | with_reducible (first | refine zG ?_ | refine zH ?_ | refine zY ?_ | refine zS ?_) | ((with_reducible refine zA ?_ ?_); kernel_rfl))
    by_cases he : k = s.size
    · subst he
      have p1 : ((s.size : Int) == (s.size : Int)) = true := by simp
      rw [List.drop_of_length_le (by omega)] at hw
      repeat (first | ((with_reducible refine zK ?_); refine zJ rfl ?_) | ((with_reducible refine za ?_); refine zh rfl (by first | rfl | assumption) rfl ?_) | ((with_reducible refine zQ ?_); refine zT rfl rfl rfl ?_)  | refine zL ?_ | refine zB rfl ?_ | refine yA rfl rfl (by first | rfl | assumption) ?_ | with_reducible (first | refine zG ?_ | refine zH ?_) | ((with_reducible refine zA ?_ ?_); kernel_rfl) | refine zn rfl (by first | rfl | assumption) ?_)
      refine zZ rfl (fun hc => ?_) (fun hc => ?_)
      · have hlt : a < s.size := by simpa using hc
        rw [wl, if_neg (iI s hlt (Nat.le_refl _))] at hw
        repeat (first | ((with_reducible refine zK ?_); refine zJ rfl ?_) | ((with_reducible refine jz ?_); refine aM (by exact Tryz.underlying9) rfl rfl rfl (by refine ⟨?_, ?_, ?_⟩ <;> omega) ?_) | ((with_reducible refine zr ?_); refine zx tbOk rfl rfl rfl rfl rfl (by omega) rfl rfl rfl ?_) | refine zB rfl ?_  | ((with_reducible refine zA ?_ ?_); kernel_rfl))
        rw [cS]
        refine yG tbOk rfl rfl rfl rfl rfl (by decide) rfl rfl rfl rfl rfl (fun x hx => by simp at hx; subst hx; rfl) (by simp only [List.length_map, List.length_cons, List.length_nil]; omega) (by simp only [List.length_map, List.length_cons, List.length_nil]; omega) ?_
        repeat (first | ((with_reducible refine zK ?_); refine zJ rfl ?_) | ((with_reducible refine zE ?_); refine zF rfl ?_) | ((with_reducible refine zQ ?_); refine zg rfl rfl (by omega) ?_)  | refine zL ?_ | refine zB rfl ?_ | with_reducible (first | refine zG ?_ | refine zu ?_) | ((with_reducible refine zA ?_ ?_); kernel_rfl))
        refine ⟨(s.size + 1, s.size + 1, D ++ [extL s (a, s.size)]), ⟨Nat.le_refl _, by simp; omega, fun h => absurd h (by show ¬ s.size + 1 ≤ s.size; omega), fun _ => hw⟩, by show s.size + 1 - (s.size + 1) < s.size + 1 - s.size; omega, ⟨rfl, rfl, rfl, rfl, trivial⟩, ⟨?_, trivial⟩⟩
        exact jr (by rw [List.map_append]; rfl)
      · have hge : a = s.size := by simp at hc; omega
        subst hge
        rw [jy, wl, if_pos rfl, List.append_nil] at hw
        repeat (first | ((with_reducible refine zK ?_); refine zJ rfl ?_) | ((with_reducible refine zE ?_); refine zF rfl ?_) | ((with_reducible refine zQ ?_); refine zg rfl rfl (by omega) ?_)  | refine zL ?_ | refine zB rfl ?_ | with_reducible (first | refine zG ?_ | refine zu ?_ | refine zS ?_) | ((with_reducible refine zA ?_ ?_); kernel_rfl))
        exact ⟨(s.size + 1, s.size + 1, D), ⟨Nat.le_refl _, by show D.length ≤ s.size + 1; omega, fun h => absurd h (by show ¬ s.size + 1 ≤ s.size; omega), fun _ => hw⟩, by show s.size + 1 - (s.size + 1) < s.size + 1 - s.size; omega, ⟨rfl, rfl, rfl, rfl, trivial⟩, ⟨rfl, trivial⟩⟩
    · have hlt : k < s.size := by omega
      have p1 : ((k : Int) == (s.size : Int)) = false := by rw [beq_eq_false_iff_ne]; omega
      obtain ⟨c, hx⟩ := zd (L := s.data.toList) (k := k) (by omega)
      have ix := cO s k c hx
      rw [yT hx, wl] at hw
      repeat (first | ((with_reducible refine zK ?_); refine zJ rfl ?_) | ((with_reducible refine za ?_); refine zf rfl (by first | rfl | assumption) rfl ?_) | ((with_reducible refine jA ?_); refine jC rfl rfl (by assumption) ?_) | ((with_reducible refine zQ ?_); refine zT rfl rfl rfl ?_)  | refine zL ?_ | refine zB rfl ?_ | refine zw rfl rfl (by first | rfl | assumption) ?_ | with_reducible refine zG ?_ )
      by_cases hc32 : c = 32
      · subst hc32
        have p2 : (((32 : UInt8).toNat : Int) == 32) = true := rfl
        rw [if_pos rfl] at hw
        repeat (first | ((with_reducible refine zK ?_); refine zJ rfl ?_) | ((with_reducible refine zQ ?_); refine zT rfl rfl rfl ?_)  | refine zL ?_ | refine zB rfl ?_ | with_reducible (first | refine zG ?_ | refine zH ?_) | ((with_reducible refine zA ?_ ?_); kernel_rfl) | refine zn rfl (by first | rfl | assumption) ?_)
        refine zZ rfl (fun hc => ?_) (fun hc => ?_)
        · have hlt2 : a < k := by simpa using hc
          rw [if_neg (iI s hlt2 (by omega))] at hw
          repeat (first | ((with_reducible refine zK ?_); refine zJ rfl ?_) | ((with_reducible refine jz ?_); refine aM (by exact Tryz.underlying9) rfl rfl rfl (by refine ⟨?_, ?_, ?_⟩ <;> omega) ?_) | ((with_reducible refine zr ?_); refine zx tbOk rfl rfl rfl rfl rfl (by omega) rfl rfl rfl ?_) | refine zB rfl ?_  | ((with_reducible refine zA ?_ ?_); kernel_rfl))
          rw [cS]
          refine yG tbOk rfl rfl rfl rfl rfl (by decide) rfl rfl rfl rfl rfl (fun x hx => by simp at hx; subst hx; rfl) (by simp only [List.length_map, List.length_cons, List.length_nil]; omega) (by simp only [List.length_map, List.length_cons, List.length_nil]; omega) ?_
          repeat (first | ((with_reducible refine zK ?_); refine zJ rfl ?_) | ((with_reducible refine zE ?_); refine zF rfl ?_) | ((with_reducible refine zQ ?_); refine zg rfl rfl (by omega) ?_)  | refine zL ?_ | refine zB rfl ?_ | with_reducible (first | refine zG ?_ | refine zu ?_) | ((with_reducible refine zA ?_ ?_); kernel_rfl))
          refine ⟨(k + 1, k + 1, D ++ [extL s (a, k)]), ⟨by show k + 1 ≤ s.size + 1; omega, by simp; omega, fun _ => ⟨Nat.le_refl _, ?_⟩, fun h => absurd h (by show ¬ s.size < k + 1; omega)⟩, by show s.size + 1 - (k + 1) < s.size + 1 - k; omega, ⟨rfl, rfl, rfl, rfl, trivial⟩, ⟨?_, trivial⟩⟩
          · show D ++ [extL s (a, k)] ++ wl (extL s (k + 1, k + 1)) _ = _
            rw [jy, ← hw]; simp
          · exact jr (by rw [List.map_append]; rfl)
        · have hge : a = k := by simp at hc; omega
          subst hge
          rw [jy, if_pos rfl] at hw
          repeat (first | ((with_reducible refine zK ?_); refine zJ rfl ?_) | ((with_reducible refine zE ?_); refine zF rfl ?_) | ((with_reducible refine zQ ?_); refine zg rfl rfl (by omega) ?_)  | refine zL ?_ | refine zB rfl ?_ | with_reducible (first | refine zG ?_ | refine zu ?_ | refine zS ?_) | ((with_reducible refine zA ?_ ?_); kernel_rfl))
          refine ⟨(a + 1, a + 1, D), ⟨by show a + 1 ≤ s.size + 1; omega, by show D.length ≤ a + 1; omega, fun _ => ⟨Nat.le_refl _, ?_⟩, fun h => absurd h (by show ¬ s.size < a + 1; omega)⟩, by show s.size + 1 - (a + 1) < s.size + 1 - a; omega, ⟨rfl, rfl, rfl, rfl, trivial⟩, ⟨rfl, trivial⟩⟩
          show D ++ wl (extL s (a + 1, a + 1)) _ = _
          rw [jy, ← hw]
      · have p2 : ((c.toNat : Int) == 32) = false := by
          rw [beq_eq_false_iff_ne]
          intro e
          exact hc32 (UInt8.toNat_inj.1 (by show c.toNat = 32; omega))
        rw [if_neg hc32] at hw
        repeat (first | ((with_reducible refine zK ?_); refine zJ rfl ?_) | ((with_reducible refine zE ?_); refine zF rfl ?_) | ((with_reducible refine zQ ?_); refine zg rfl rfl (by omega) ?_)  | refine zL ?_ | refine zB rfl ?_ | with_reducible (first | refine zG ?_ | refine zu ?_ | refine zS ?_) | ((with_reducible refine zA ?_ ?_); kernel_rfl) | refine yF rfl (by first | rfl | assumption) ?_)
        refine ⟨(a, k + 1, D), ⟨by show k + 1 ≤ s.size + 1; omega, by show D.length ≤ k + 1; omega, fun _ => ⟨by show a ≤ k + 1; omega, ?_⟩, fun h => absurd h (by show ¬ s.size < k + 1; omega)⟩, by show s.size + 1 - (k + 1) < s.size + 1 - k; omega, ⟨rfl, rfl, rfl, rfl, trivial⟩, ⟨rfl, trivial⟩⟩
        show D ++ wl (extL s (a, k + 1)) _ = _
        rw [gL hx ha, ← hw]
  · have hD2 := h2 (by simp at h; omega)
    subst hD2
    repeat (first | ((with_reducible refine zK ?_); refine zJ rfl ?_) | ((with_reducible refine zE ?_); refine zF rfl ?_)  | refine zL ?_ | refine zB rfl ?_ | with_reducible (first | refine zG ?_ | refine zo ?_ | refine zH ?_ | refine yB ?_ | refine zN ?_) | ((with_reducible refine ze ?_ ?_); rfl) | ((with_reducible refine zA ?_ ?_); kernel_rfl))
    refine dB (by first | exact .inr rfl | exact .inl rfl) rfl rfl ?_
    repeat' (first | exact trivial | exact Ren.v _ | exact Ren.sl _ _ | exact Ren.ep _ | exact Ren.ptr _ _ _ _ rfl | exact Ren.bs _ _ _ _ _ rfl | exact Ren.nil _ | exact Ren.own _ _ _ _ ⟨_, rfl⟩ | refine zi ?_ | refine zj ?_ | refine zl ?_ | refine ⟨?_, ?_⟩)
theorem kE (x : List UInt8) : ∀ (L : List (List UInt8)), yl (L ++ [x]) = if L = [] then x else yl L ++ 32 :: x
  | [] => by rw [if_pos rfl]; exact jq x
  | [w] => by rw [if_neg (by simp), jq]; exact (yX w x []).trans (by rw [jq])
  | w :: y :: r => by
    rw [if_neg (by simp)]
    have := kE x (y :: r)
    rw [if_neg (by simp)] at this
    rw [yX]
    show yl (w :: y :: (r ++ [x])) = _
    rw [yX, show y :: (r ++ [x]) = (y :: r) ++ [x] from rfl, this]
    simp
theorem jn_A (L : List (List UInt8)) (hn : L.length ≤ 140737488355328) (hs : (yl L).length ≤ 140737488355328) : zz Tryz.prog G 56 [.sl 1 (L.map svL)] [] (svL (yl L)) [] := by
  refine zb tbOk (zc Tryz.func56 (by kernel_rfl) rfl) Tryz.func56 rfl _ Tryz.ntmps56 (Nat.le_of_ble_eq_true rfl) fun X hX => ?_
  subst hX
  repeat (first | ((with_reducible refine zK ?_); refine zJ rfl ?_) | ((with_reducible refine zE ?_); refine zF rfl ?_)  | refine zL ?_ | refine zB rfl ?_ | with_reducible (first | refine zG ?_ | refine zH ?_) | ((with_reducible refine zA ?_ ?_); kernel_rfl))
  refine zC (vP L 32 hn hs) ?_
  repeat (first | ((with_reducible refine zE ?_); refine zF rfl ?_)  | refine zL ?_ | refine zB rfl ?_ | with_reducible (first | refine zG ?_ | refine zN ?_) )
  refine zm (by first | exact .inr rfl | exact .inl rfl) rfl rfl ?_
  rfl
end Go.Proofs.YtjamibeffalhaaaGreatDoor
