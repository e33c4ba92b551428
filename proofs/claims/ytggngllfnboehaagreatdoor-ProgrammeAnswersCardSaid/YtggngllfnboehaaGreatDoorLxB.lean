/- lexeme.Words, Join, Lines, their references, and the comparison of lists, by the abstract machine; conditions: a cell of the library stands / lexeme.Lines, its reference, and the comparison of lists of strings, by the abstract machine; conditions: a cell of the library stands. -/
import Derived.Test.YtggngllfnboehaaGreatDoorTkA
import Derived.Test.YtggngllfnboehaaGreatDoorNmA
set_option linter.unusedVariables false
set_option linter.unusedSimpArgs false
namespace Go.Proofs.YtggngllfnboehaaGreatDoor
open Go Go.RowKit
set_option maxRecDepth 10000
variable {G : Nat → Option (List Value)}
theorem words_A (s : ByteArray) (hs : s.size ≤ 4294967296) : yF Tryz.prog G 57 [.v (.string s)] [] (.sl 1 ((jK s.data.toList).map svL)) [] := by
  refine zj tbOk (zn Tryz.func57 (by kernel_rfl) rfl) Tryz.func57 rfl _ Tryz.ntmps57 (Nat.le_of_ble_eq_true rfl) fun X hX => ?_
  subst hX
  repeat (first | ((with_reducible refine zI ?_); refine zH rfl ?_) | ((with_reducible refine zE ?_); refine zD rfl ?_)  | refine zJ ?_ | refine zB rfl ?_ | with_reducible refine zC ?_ | with_reducible refine zF ?_ | ((with_reducible refine zA ?_ ?_); kernel_rfl))
  refine zo (fields_A s hs) (by repeat' (first | exact trivial | exact Ren.v _ | exact Ren.sl _ _ | exact Ren.ep _ | exact Ren.ptr _ _ _ _ rfl | exact Ren.bs _ _ _ _ _ rfl | exact Ren.nil _ | exact Ren.own _ _ _ _ ⟨_, rfl⟩ | refine zO ?_ | refine zQ ?_ | refine zP ?_ | refine ⟨?_, ?_⟩)) (by repeat' (first | exact trivial | exact RenB.v _ | exact RenB.sl _ _ | exact RenB.ep _ | exact RenB.ptr _ _ _ _ rfl | refine zW ?_ | refine zX ?_ | refine ⟨?_, ?_⟩)) ?_
  repeat (first | ((with_reducible refine zE ?_); refine zD rfl ?_)  | refine zJ ?_ | refine zB rfl ?_ | with_reducible refine zC ?_ | with_reducible refine zU ?_ )
  refine ret0_1 (by first | exact .inr rfl | exact .inl rfl) rfl rfl ?_
  repeat' (first | exact trivial | exact Ren.v _ | exact Ren.sl _ _ | exact Ren.ep _ | exact Ren.ptr _ _ _ _ rfl | exact Ren.bs _ _ _ _ _ rfl | exact Ren.nil _ | exact Ren.own _ _ _ _ ⟨_, rfl⟩ | refine zO ?_ | refine zQ ?_ | refine zP ?_ | refine ⟨?_, ?_⟩)
theorem ba_ext' {s : ByteArray} {l : List UInt8} (h : s.data.toList = l) : s = strL l := by
  subst h; rfl
theorem ext_strL (s : ByteArray) (a b : Nat) : s.extract a b = strL (extL s (a, b)) := by
  refine ba_ext' ?_
  rw [ByteArray.data_extract, Array.toList_extract, List.extract_eq_take_drop, extL, List.drop_take]
theorem jy (s : ByteArray) (a : Nat) : extL s (a, a) = [] := by
  unfold extL
  simp only
  exact List.drop_of_length_le (by rw [List.length_take]; omega)
theorem extL_next {s : ByteArray} {a k : Nat} {c : UInt8} (hx : s.data.toList[k]? = some c) (h : a ≤ k) : extL s (a, k + 1) = extL s (a, k) ++ [c] := by
  rw [extL_app s h (show k ≤ k + 1 by omega)]
  congr 1
  unfold extL
  simp only
  have hlt := yP hx
  rw [qv hx, List.drop_append_of_le_length (by rw [List.length_take]; omega), List.drop_of_length_le (by rw [List.length_take]; omega)]
  rfl
set_option maxHeartbeats 2000000 in
theorem rwords_A (s : ByteArray) (hs : s.size ≤ 4294967296) : yF Tryz.prog G 43 [.v (.string s)] [] (.sl 1 ((jK s.data.toList).map svL)) [] := by
  have hz := nsizeS s
  refine zj tbOk (zn Tryz.func43 (by kernel_rfl) rfl) Tryz.func43 rfl _ Tryz.ntmps43 (Nat.le_of_ble_eq_true rfl) fun X hX => ?_
  subst hX
  repeat (first | ((with_reducible refine zE ?_); refine zD rfl ?_)  | refine zJ ?_ | refine zB rfl ?_ | with_reducible refine zC ?_ | with_reducible refine zF ?_ | with_reducible refine zY ?_ | ((with_reducible refine zA ?_ ?_); kernel_rfl))
  refine awp_own (t := 3) (s := 31) 9 1 rfl rfl ?_
  refine yU (ι := Nat × Nat × List (List UInt8)) (fun q => q.2.1 ≤ s.size + 1 ∧ q.2.2.length ≤ q.2.1 ∧ (q.2.1 ≤ s.size → q.1 ≤ q.2.1 ∧ q.2.2 ++ wl (extL s (q.1, q.2.1)) (s.data.toList.drop q.2.1) = jK s.data.toList) ∧ (s.size < q.2.1 → q.2.2 = jK s.data.toList)) (fun q => s.size + 1 - q.2.1) (fun v q => [(0, .v (.string s)), (3, .own 31 (v 31)), (4, .v (.int .i64 (q.1 : Nat))), (5, .v (.int .i64 (q.2.1 : Nat)))]) (fun v q => [(31, .buf 9 1 (q.2.2.map svL))]) ?_ ?_
  · refine ⟨(0, 0, []), ⟨Nat.zero_le _, Nat.zero_le _, fun _ => ⟨Nat.le_refl _, ?_⟩, fun h => absurd h (Nat.not_lt_zero _)⟩, trivial, ⟨rfl, rfl, rfl, rfl, trivial⟩, ⟨rfl, trivial⟩⟩
    show [] ++ wl (extL s (0, 0)) _ = _
    rw [jy]; rfl
  rintro v ⟨a, k, D⟩ ⟨hk, hD, h1, h2⟩
  simp only at hk hD h1 h2
  dsimp only
  repeat (first | ((with_reducible refine zI ?_); refine zH rfl ?_) | ((with_reducible refine zu ?_); refine jA (by exact Tryz.underlying9) rfl ?_) | ((with_reducible refine zM ?_); refine zV rfl rfl rfl ?_)  | refine zJ ?_ | refine zB rfl ?_ | with_reducible refine zC ?_ | with_reducible refine zF ?_ | ((with_reducible refine zA ?_ ?_); kernel_rfl))
  refine zm rfl (fun h => ?_) (fun h => ?_)
  · have hkn : k ≤ s.size := by simp at h; omega
    obtain ⟨ha, hw⟩ := h1 hkn
    repeat (first | ((with_reducible refine zI ?_); refine zH rfl ?_) | ((with_reducible refine zu ?_); refine jA (by exact Tryz.underlying9) rfl ?_) | ((with_reducible refine zM ?_); refine zV rfl rfl rfl ?_)  | refine zB rfl ?_ | with_reducible refine zC ?_ | with_reducible refine zF ?_ | with_reducible refine zY ?_ | with_reducible refine zR ?_ | ((with_reducible refine zA ?_ ?_); kernel_rfl))
    by_cases he : k = s.size
    · subst he
      have p1 : ((s.size : Int) == (s.size : Int)) = true := by simp
      rw [List.drop_of_length_le (by omega)] at hw
      repeat (first | ((with_reducible refine zI ?_); refine zH rfl ?_) | ((with_reducible refine zb ?_); refine zt rfl (by first | rfl | assumption) rfl ?_) | ((with_reducible refine zM ?_); refine zV rfl rfl rfl ?_)  | refine zJ ?_ | refine zB rfl ?_ | refine yL rfl rfl (by first | rfl | assumption) ?_ | with_reducible refine zC ?_ | with_reducible refine zF ?_ | ((with_reducible refine zA ?_ ?_); kernel_rfl) | refine zg rfl (by first | rfl | assumption) ?_)
      refine zm rfl (fun hc => ?_) (fun hc => ?_)
      · have hlt : a < s.size := by simpa using hc
        rw [wl, if_neg (extL_ne s hlt (Nat.le_refl _))] at hw
        repeat (first | ((with_reducible refine zI ?_); refine zH rfl ?_) | ((with_reducible refine k_slice ?_); refine x_sliceS (by exact Tryz.underlying9) rfl rfl rfl (by refine ⟨?_, ?_, ?_⟩ <;> omega) ?_) | ((with_reducible refine yG ?_); refine yH tbOk rfl rfl rfl rfl rfl (by omega) rfl rfl rfl ?_) | refine zB rfl ?_  | ((with_reducible refine zA ?_ ?_); kernel_rfl))
        rw [ext_strL]
        refine yV tbOk rfl rfl rfl rfl rfl (by decide) rfl rfl rfl rfl rfl (fun x hx => by simp at hx; subst hx; rfl) (by simp only [List.length_map, List.length_cons, List.length_nil]; omega) (by simp only [List.length_map, List.length_cons, List.length_nil]; omega) ?_
        repeat (first | ((with_reducible refine zI ?_); refine zH rfl ?_) | ((with_reducible refine zE ?_); refine zD rfl ?_) | ((with_reducible refine zM ?_); refine ze rfl rfl (by omega) ?_)  | refine zJ ?_ | refine zB rfl ?_ | with_reducible refine zC ?_ | with_reducible refine zk ?_ | ((with_reducible refine zA ?_ ?_); kernel_rfl))
        refine ⟨(s.size + 1, s.size + 1, D ++ [extL s (a, s.size)]), ⟨Nat.le_refl _, by simp; omega, fun h => absurd h (by show ¬ s.size + 1 ≤ s.size; omega), fun _ => hw⟩, by show s.size + 1 - (s.size + 1) < s.size + 1 - s.size; omega, ⟨rfl, rfl, rfl, rfl, trivial⟩, ⟨?_, trivial⟩⟩
        exact jJ (by rw [List.map_append]; rfl)
      · have hge : a = s.size := by simp at hc; omega
        subst hge
        rw [jy, wl, if_pos rfl, List.append_nil] at hw
        repeat (first | ((with_reducible refine zI ?_); refine zH rfl ?_) | ((with_reducible refine zE ?_); refine zD rfl ?_) | ((with_reducible refine zM ?_); refine ze rfl rfl (by omega) ?_)  | refine zJ ?_ | refine zB rfl ?_ | with_reducible refine zC ?_ | with_reducible refine zk ?_ | with_reducible refine zR ?_ | ((with_reducible refine zA ?_ ?_); kernel_rfl))
        exact ⟨(s.size + 1, s.size + 1, D), ⟨Nat.le_refl _, by show D.length ≤ s.size + 1; omega, fun h => absurd h (by show ¬ s.size + 1 ≤ s.size; omega), fun _ => hw⟩, by show s.size + 1 - (s.size + 1) < s.size + 1 - s.size; omega, ⟨rfl, rfl, rfl, rfl, trivial⟩, ⟨rfl, trivial⟩⟩
    · have hlt : k < s.size := by omega
      have p1 : ((k : Int) == (s.size : Int)) = false := by rw [beq_eq_false_iff_ne]; omega
      obtain ⟨c, hx⟩ := zl (L := s.data.toList) (k := k) (by omega)
      have ix := nidxS s k c hx
      rw [jE hx, wl] at hw
      repeat (first | ((with_reducible refine zI ?_); refine zH rfl ?_) | ((with_reducible refine zb ?_); refine zq rfl (by first | rfl | assumption) rfl ?_) | ((with_reducible refine yW ?_); refine jB rfl rfl (by assumption) ?_) | ((with_reducible refine zM ?_); refine zV rfl rfl rfl ?_)  | refine zJ ?_ | refine zB rfl ?_ | refine zv rfl rfl (by first | rfl | assumption) ?_ | with_reducible refine zC ?_ )
      by_cases hc32 : c = 32
      · subst hc32
        have p2 : (((32 : UInt8).toNat : Int) == 32) = true := rfl
        rw [if_pos rfl] at hw
        repeat (first | ((with_reducible refine zI ?_); refine zH rfl ?_) | ((with_reducible refine zM ?_); refine zV rfl rfl rfl ?_)  | refine zJ ?_ | refine zB rfl ?_ | with_reducible refine zC ?_ | with_reducible refine zF ?_ | ((with_reducible refine zA ?_ ?_); kernel_rfl) | refine zg rfl (by first | rfl | assumption) ?_)
        refine zm rfl (fun hc => ?_) (fun hc => ?_)
        · have hlt2 : a < k := by simpa using hc
          rw [if_neg (extL_ne s hlt2 (by omega))] at hw
          repeat (first | ((with_reducible refine zI ?_); refine zH rfl ?_) | ((with_reducible refine k_slice ?_); refine x_sliceS (by exact Tryz.underlying9) rfl rfl rfl (by refine ⟨?_, ?_, ?_⟩ <;> omega) ?_) | ((with_reducible refine yG ?_); refine yH tbOk rfl rfl rfl rfl rfl (by omega) rfl rfl rfl ?_) | refine zB rfl ?_  | ((with_reducible refine zA ?_ ?_); kernel_rfl))
          rw [ext_strL]
          refine yV tbOk rfl rfl rfl rfl rfl (by decide) rfl rfl rfl rfl rfl (fun x hx => by simp at hx; subst hx; rfl) (by simp only [List.length_map, List.length_cons, List.length_nil]; omega) (by simp only [List.length_map, List.length_cons, List.length_nil]; omega) ?_
          repeat (first | ((with_reducible refine zI ?_); refine zH rfl ?_) | ((with_reducible refine zE ?_); refine zD rfl ?_) | ((with_reducible refine zM ?_); refine ze rfl rfl (by omega) ?_)  | refine zJ ?_ | refine zB rfl ?_ | with_reducible refine zC ?_ | with_reducible refine zk ?_ | ((with_reducible refine zA ?_ ?_); kernel_rfl))
          refine ⟨(k + 1, k + 1, D ++ [extL s (a, k)]), ⟨by show k + 1 ≤ s.size + 1; omega, by simp; omega, fun _ => ⟨Nat.le_refl _, ?_⟩, fun h => absurd h (by show ¬ s.size < k + 1; omega)⟩, by show s.size + 1 - (k + 1) < s.size + 1 - k; omega, ⟨rfl, rfl, rfl, rfl, trivial⟩, ⟨?_, trivial⟩⟩
          · show D ++ [extL s (a, k)] ++ wl (extL s (k + 1, k + 1)) _ = _
            rw [jy, ← hw]; simp
          · exact jJ (by rw [List.map_append]; rfl)
        · have hge : a = k := by simp at hc; omega
          subst hge
          rw [jy, if_pos rfl] at hw
          repeat (first | ((with_reducible refine zI ?_); refine zH rfl ?_) | ((with_reducible refine zE ?_); refine zD rfl ?_) | ((with_reducible refine zM ?_); refine ze rfl rfl (by omega) ?_)  | refine zJ ?_ | refine zB rfl ?_ | with_reducible refine zC ?_ | with_reducible refine zk ?_ | with_reducible refine zR ?_ | ((with_reducible refine zA ?_ ?_); kernel_rfl))
          refine ⟨(a + 1, a + 1, D), ⟨by show a + 1 ≤ s.size + 1; omega, by show D.length ≤ a + 1; omega, fun _ => ⟨Nat.le_refl _, ?_⟩, fun h => absurd h (by show ¬ s.size < a + 1; omega)⟩, by show s.size + 1 - (a + 1) < s.size + 1 - a; omega, ⟨rfl, rfl, rfl, rfl, trivial⟩, ⟨rfl, trivial⟩⟩
          show D ++ wl (extL s (a + 1, a + 1)) _ = _
          rw [jy, ← hw]
      · have p2 : ((c.toNat : Int) == 32) = false := by
          rw [beq_eq_false_iff_ne]
          intro e
          exact hc32 (UInt8.toNat_inj.1 (by show c.toNat = 32; omega))
        rw [if_neg hc32] at hw
        repeat (first | ((with_reducible refine zI ?_); refine zH rfl ?_) | ((with_reducible refine zE ?_); refine zD rfl ?_) | ((with_reducible refine zM ?_); refine ze rfl rfl (by omega) ?_)  | refine zJ ?_ | refine zB rfl ?_ | with_reducible refine zC ?_ | with_reducible refine zk ?_ | with_reducible refine zR ?_ | ((with_reducible refine zA ?_ ?_); kernel_rfl) | refine zp rfl (by first | rfl | assumption) ?_)
        refine ⟨(a, k + 1, D), ⟨by show k + 1 ≤ s.size + 1; omega, by show D.length ≤ k + 1; omega, fun _ => ⟨by show a ≤ k + 1; omega, ?_⟩, fun h => absurd h (by show ¬ s.size < k + 1; omega)⟩, by show s.size + 1 - (k + 1) < s.size + 1 - k; omega, ⟨rfl, rfl, rfl, rfl, trivial⟩, ⟨rfl, trivial⟩⟩
        show D ++ wl (extL s (a, k + 1)) _ = _
        rw [extL_next hx ha, ← hw]
  · have hD2 := h2 (by simp at h; omega)
    subst hD2
    repeat (first | ((with_reducible refine zI ?_); refine zH rfl ?_) | ((with_reducible refine zE ?_); refine zD rfl ?_)  | refine zJ ?_ | refine zB rfl ?_ | with_reducible refine zC ?_ | with_reducible refine zw ?_ | with_reducible refine zF ?_ | with_reducible refine yJ ?_ | with_reducible refine zU ?_ | ((with_reducible refine zr ?_ ?_); rfl) | ((with_reducible refine zA ?_ ?_); kernel_rfl))
    refine ret0_1 (by first | exact .inr rfl | exact .inl rfl) rfl rfl ?_
    repeat' (first | exact trivial | exact Ren.v _ | exact Ren.sl _ _ | exact Ren.ep _ | exact Ren.ptr _ _ _ _ rfl | exact Ren.bs _ _ _ _ _ rfl | exact Ren.nil _ | exact Ren.own _ _ _ _ ⟨_, rfl⟩ | refine zO ?_ | refine zQ ?_ | refine zP ?_ | refine ⟨?_, ?_⟩)
theorem jn_A (L : List (List UInt8)) (hn : L.length ≤ 140737488355328) (hs : (qE L).length ≤ 140737488355328) : yF Tryz.prog G 30 [.sl 1 (L.map svL)] [] (svL (qE L)) [] := by
  refine zj tbOk (zn Tryz.func30 (by kernel_rfl) rfl) Tryz.func30 rfl _ Tryz.ntmps30 (Nat.le_of_ble_eq_true rfl) fun X hX => ?_
  subst hX
  repeat (first | ((with_reducible refine zI ?_); refine zH rfl ?_) | ((with_reducible refine zE ?_); refine zD rfl ?_)  | refine zJ ?_ | refine zB rfl ?_ | with_reducible refine zC ?_ | with_reducible refine zF ?_ | ((with_reducible refine zA ?_ ?_); kernel_rfl))
  refine zo (join_A L 32 hn hs) (by repeat' (first | exact trivial | exact Ren.v _ | exact Ren.sl _ _ | exact Ren.ep _ | exact Ren.ptr _ _ _ _ rfl | exact Ren.bs _ _ _ _ _ rfl | exact Ren.nil _ | exact Ren.own _ _ _ _ ⟨_, rfl⟩ | refine zO ?_ | refine zQ ?_ | refine zP ?_ | refine ⟨?_, ?_⟩)) (by repeat' (first | exact trivial | exact RenB.v _ | exact RenB.sl _ _ | exact RenB.ep _ | exact RenB.ptr _ _ _ _ rfl | refine zW ?_ | refine zX ?_ | refine ⟨?_, ?_⟩)) ?_
  repeat (first | ((with_reducible refine zE ?_); refine zD rfl ?_)  | refine zJ ?_ | refine zB rfl ?_ | with_reducible refine zC ?_ | with_reducible refine zU ?_ )
  refine yC (by first | exact .inr rfl | exact .inl rfl) rfl rfl ?_
  rfl
end Go.Proofs.YtggngllfnboehaaGreatDoor
namespace Go.Proofs.YtggngllfnboehaaGreatDoor
open Go Go.RowKit
set_option maxRecDepth 10000
variable {G : Nat → Option (List Value)}
theorem qw {c : UInt8} : okB c = true ↔ c = 10 ∨ (32 ≤ c.toNat ∧ c.toNat ≤ 126) := by
  unfold okB
  simp
theorem ne10 {c : UInt8} (h : c ≠ 10) : (c.toNat : Int) ≠ 10 := fun e => h (UInt8.toNat_inj.1 (by show c.toNat = 10; omega))
theorem last_at {l : List UInt8} {c : UInt8} (h : l[l.length - 1]? = some c) : l.getLast? = some c := by
  rw [List.getLast?_eq_getElem?]; exact h
theorem all_bad {l : List UInt8} {k : Nat} {c : UInt8} (hx : l[k]? = some c) (h : okB c = false) : l.all okB = false := by
  cases hq : l.all okB with
  | false => rfl
  | true =>
    rw [List.all_eq_true] at hq
    rw [hq c (List.mem_of_getElem? hx)] at h
    cases h
theorem all_take {l : List UInt8} {k : Nat} {c : UInt8} (hx : l[k]? = some c) (h : okB c = true) (ha : (l.take k).all okB = true) : (l.take (k + 1)).all okB = true := by
  rw [qv hx, List.all_append, ha]
  simp [h]
theorem jf {l : List UInt8} (h0 : l ≠ []) (h : (65536 < l.length ∨ l.getLast? ≠ some 10) ∨ l.all okB = false) : jZ l = none := by
  unfold jZ
  rw [if_neg h0]
  rcases h with h | h
  · rw [if_pos h]
  · split
    · rfl
    · rw [if_neg (by rw [h]; decide)]
theorem lines_some {l : List UInt8} (h0 : l ≠ []) (h1 : l.length ≤ 65536) (h2 : l.getLast? = some 10) (h3 : l.all okB = true) : jZ l = some (ll [] l) := by
  unfold jZ
  rw [if_neg h0, if_neg (by rintro (h | h); omega; exact h h2), if_pos h3]
set_option maxHeartbeats 2000000 in
theorem lines_A (s : ByteArray) (hG : GMax G) (hs : s.size ≤ 4294967296) : yF Tryz.prog G 39 [.v (.string s)] [] (.tu [.sl 1 (((jZ s.data.toList).getD []).map svL), .v (.bool (jZ s.data.toList).isSome)]) [] := by
  have hz := nsizeS s
  by_cases h0 : s.size = 0
  · have hl : s.data.toList = [] := List.eq_nil_of_length_eq_zero (by omega)
    rw [hl]
    have p0 : yh s ⟨#[]⟩ = true := by rw [strEq_nil, h0]; rfl
    refine zj tbOk (zn Tryz.func39 (by kernel_rfl) rfl) Tryz.func39 rfl _ Tryz.ntmps39 (Nat.le_of_ble_eq_true rfl) fun X hX => ?_
    subst hX
    repeat (first | ((with_reducible refine zI ?_); refine zH rfl ?_) | ((with_reducible refine zE ?_); refine zD rfl ?_) | ((with_reducible refine zM ?_); refine yp rfl rfl rfl ?_)  | refine zJ ?_ | refine zB rfl ?_ | with_reducible refine zC ?_ | with_reducible refine zS ?_ | with_reducible refine zF ?_ | with_reducible refine zU ?_ | ((with_reducible refine zA ?_ ?_); kernel_rfl) | refine zg rfl (by first | rfl | assumption) ?_)
    refine jI (by first | exact .inr rfl | exact .inl rfl) rfl rfl rfl ?_
    repeat' (first | exact trivial | exact Ren.v _ | exact Ren.sl _ _ | exact Ren.ep _ | exact Ren.ptr _ _ _ _ rfl | exact Ren.bs _ _ _ _ _ rfl | exact Ren.nil _ | exact Ren.own _ _ _ _ ⟨_, rfl⟩ | refine zO ?_ | refine zQ ?_ | refine zP ?_ | refine ⟨?_, ?_⟩)
  have p0 : yh s ⟨#[]⟩ = false := by rw [strEq_nil]; exact decide_eq_false h0
  have hne : s.data.toList ≠ [] := fun e => h0 (by rw [hz, e]; rfl)
  obtain ⟨c0, hx0⟩ := zl (L := s.data.toList) (k := s.size - 1) (by omega)
  have ix0 : ∀ w : World, (Instr.index 9 (.string s) (.int .i64 ((s.size : Int) - 1))).run Tryz.prog w = .ok (.int .u8 (c0.toNat : Int)) w := fun w => by
    have := nidxS s (s.size - 1) c0 hx0 w
    rwa [show ((s.size - 1 : Nat) : Int) = (s.size : Int) - 1 by omega] at this
  have hlast : s.data.toList.getLast? = some c0 := last_at (by rw [← hz]; exact hx0)
  refine zj tbOk (zn Tryz.func39 (by kernel_rfl) rfl) Tryz.func39 rfl _ Tryz.ntmps39 (Nat.le_of_ble_eq_true rfl) fun X hX => ?_
  subst hX
  repeat (first | ((with_reducible refine zI ?_); refine zH rfl ?_) | ((with_reducible refine zE ?_); refine zD rfl ?_) | ((with_reducible refine zu ?_); refine jA (by exact Tryz.underlying9) rfl ?_) | ((with_reducible refine zM ?_); refine jN rfl rfl (by omega) ?_) | ((with_reducible refine zM ?_); refine zV rfl rfl rfl ?_) | ((with_reducible refine zM ?_); refine yp rfl rfl rfl ?_)  | refine zJ ?_ | refine zB rfl ?_ | with_reducible refine zC ?_ | with_reducible refine zF ?_ | with_reducible refine zR ?_ | ((with_reducible refine zA ?_ ?_); kernel_rfl) | refine zp rfl (by first | rfl | assumption) ?_)
  by_cases hbig : 65536 < s.size
  · have p1 : decide ((s.size : Int) > 65536) = true := by simp; omega
    rw [jf hne (.inl (.inl (by omega)))]
    repeat (first | ((with_reducible refine zE ?_); refine zD rfl ?_) | ((with_reducible refine zb ?_); refine zt rfl (by first | rfl | assumption) rfl ?_)  | refine zJ ?_ | refine zB rfl ?_ | refine yL rfl rfl (by first | rfl | assumption) ?_ | with_reducible refine zC ?_ | with_reducible refine zS ?_ | with_reducible refine zF ?_ | with_reducible refine zU ?_ | ((with_reducible refine zA ?_ ?_); kernel_rfl) | refine zg rfl (by first | rfl | assumption) ?_)
    refine jI (by first | exact .inr rfl | exact .inl rfl) rfl rfl rfl ?_
    repeat' (first | exact trivial | exact Ren.v _ | exact Ren.sl _ _ | exact Ren.ep _ | exact Ren.ptr _ _ _ _ rfl | exact Ren.bs _ _ _ _ _ rfl | exact Ren.nil _ | exact Ren.own _ _ _ _ ⟨_, rfl⟩ | refine zO ?_ | refine zQ ?_ | refine zP ?_ | refine ⟨?_, ?_⟩)
  have p1 : decide ((s.size : Int) > 65536) = false := by simp; omega
  by_cases h10 : c0 = 10
  · subst h10
    have p2 : (((10 : UInt8).toNat : Int) != 10) = false := rfl
    repeat (first | ((with_reducible refine zI ?_); refine zH rfl ?_) | ((with_reducible refine zb ?_); refine zq rfl (by first | rfl | assumption) rfl ?_) | ((with_reducible refine yW ?_); refine jB rfl rfl (by assumption) ?_) | ((with_reducible refine zM ?_); refine zV rfl rfl rfl ?_)  | refine zJ ?_ | refine zB rfl ?_ | refine zv rfl rfl (by first | rfl | assumption) ?_ | with_reducible refine zC ?_ | with_reducible refine zF ?_ | with_reducible refine zY ?_ | with_reducible refine zR ?_ | ((with_reducible refine zA ?_ ?_); kernel_rfl) | refine zp rfl (by first | rfl | assumption) ?_)
    refine yU (ι := Nat) (fun k => k ≤ s.size - 1 ∧ (s.data.toList.take k).all okB = true) (fun k => s.size - 1 - k) (fun v k => [(0, .v (.string s)), (4, .v (.int .i64 ((s.size : Int) - 1))), (21, .v (.int .i64 ((s.size : Int) - 1))), (22, .v (.int .i64 k))]) (fun v k => []) ?_ ?_
    · exact ⟨0, ⟨Nat.zero_le _, by simp⟩, trivial, ⟨rfl, rfl, rfl, rfl, trivial⟩, trivial⟩
    rintro v k ⟨hk, hall⟩
    repeat (first | ((with_reducible refine zM ?_); refine zV rfl rfl rfl ?_)  | refine zJ ?_ | refine zB rfl ?_ | with_reducible refine zC ?_ | with_reducible refine zF ?_ | ((with_reducible refine zA ?_ ?_); kernel_rfl))
    refine zm rfl (fun h => ?_) (fun h => ?_)
    · have hlt : k < s.size - 1 := by simp at h; omega
      obtain ⟨c, hx⟩ := zl (L := s.data.toList) (k := k) (by omega)
      have ix := nidxS s k c hx
      repeat (first | ((with_reducible refine zI ?_); refine zH rfl ?_) | ((with_reducible refine zE ?_); refine zD rfl ?_) | ((with_reducible refine yW ?_); refine jB rfl rfl (by assumption) ?_) | ((with_reducible refine zM ?_); refine zV rfl rfl rfl ?_)  | refine zJ ?_ | refine zB rfl ?_ | with_reducible refine zC ?_ | with_reducible refine zF ?_ | with_reducible refine zY ?_ | with_reducible refine zR ?_ | ((with_reducible refine zA ?_ ?_); kernel_rfl))
      by_cases hc10 : c = 10
      · subst hc10
        have q1 : (((10 : UInt8).toNat : Int) != 10) = false := rfl
        repeat (first | ((with_reducible refine zI ?_); refine zH rfl ?_) | ((with_reducible refine zb ?_); refine zq rfl (by first | rfl | assumption) rfl ?_) | ((with_reducible refine zM ?_); refine ze rfl rfl (by omega) ?_)  | refine zJ ?_ | refine zB rfl ?_ | refine yQ rfl rfl (by first | rfl | assumption) ?_ | refine jG rfl rfl rfl ?_ | with_reducible refine zC ?_ | with_reducible refine zk ?_ | with_reducible refine zR ?_ | ((with_reducible refine zA ?_ ?_); kernel_rfl) | refine zp rfl (by first | rfl | assumption) ?_)
        exact ⟨k + 1, ⟨by omega, all_take hx (by decide) hall⟩, by omega, ⟨rfl, rfl, rfl, rfl, trivial⟩, trivial⟩
      · have q1 : ((c.toNat : Int) != 10) = true := by rw [bne_iff_ne]; exact ne10 hc10
        by_cases hlo : c.toNat < 32
        · have q2 : decide ((c.toNat : Int) < 32) = true := by simp; omega
          have hb : okB c = false := by
            cases hq : okB c with
            | false => rfl
            | true => rcases qw.1 hq with h | h; exact absurd h hc10; omega
          rw [jf hne (.inr (all_bad hx hb))]
          repeat (first | ((with_reducible refine zI ?_); refine zH rfl ?_) | ((with_reducible refine zE ?_); refine zD rfl ?_) | ((with_reducible refine zb ?_); refine zt rfl (by first | rfl | assumption) rfl ?_) | ((with_reducible refine zM ?_); refine zV rfl rfl rfl ?_)  | refine zJ ?_ | refine zB rfl ?_ | refine yK rfl rfl (by first | rfl | assumption) ?_ | refine yL rfl rfl (by first | rfl | assumption) ?_ | with_reducible refine zC ?_ | with_reducible refine zS ?_ | with_reducible refine zh ?_ | with_reducible refine zF ?_ | with_reducible refine zU ?_ | ((with_reducible refine zA ?_ ?_); kernel_rfl) | refine zg rfl (by first | rfl | assumption) ?_)
          refine jI (by first | exact .inr rfl | exact .inl rfl) rfl rfl rfl ?_
          repeat' (first | exact trivial | exact Ren.v _ | exact Ren.sl _ _ | exact Ren.ep _ | exact Ren.ptr _ _ _ _ rfl | exact Ren.bs _ _ _ _ _ rfl | exact Ren.nil _ | exact Ren.own _ _ _ _ ⟨_, rfl⟩ | refine zO ?_ | refine zQ ?_ | refine zP ?_ | refine ⟨?_, ?_⟩)
        · have q2 : decide ((c.toNat : Int) < 32) = false := by simp; omega
          by_cases hhi : 126 < c.toNat
          · have q3 : decide ((c.toNat : Int) > 126) = true := by simp; omega
            have hb : okB c = false := by
              cases hq : okB c with
              | false => rfl
              | true => rcases qw.1 hq with h | h; exact absurd h hc10; omega
            rw [jf hne (.inr (all_bad hx hb))]
            repeat (first | ((with_reducible refine zI ?_); refine zH rfl ?_) | ((with_reducible refine zE ?_); refine zD rfl ?_) | ((with_reducible refine zb ?_); refine zt rfl (by first | rfl | assumption) rfl ?_) | ((with_reducible refine zb ?_); refine zq rfl (by first | rfl | assumption) rfl ?_) | ((with_reducible refine zM ?_); refine zV rfl rfl rfl ?_)  | refine zJ ?_ | refine zB rfl ?_ | refine yK rfl rfl (by first | rfl | assumption) ?_ | refine zv rfl rfl (by first | rfl | assumption) ?_ | with_reducible refine zC ?_ | with_reducible refine zS ?_ | with_reducible refine zh ?_ | with_reducible refine zF ?_ | with_reducible refine zU ?_ | ((with_reducible refine zA ?_ ?_); kernel_rfl) | refine zg rfl (by first | rfl | assumption) ?_)
            refine jI (by first | exact .inr rfl | exact .inl rfl) rfl rfl rfl ?_
            repeat' (first | exact trivial | exact Ren.v _ | exact Ren.sl _ _ | exact Ren.ep _ | exact Ren.ptr _ _ _ _ rfl | exact Ren.bs _ _ _ _ _ rfl | exact Ren.nil _ | exact Ren.own _ _ _ _ ⟨_, rfl⟩ | refine zO ?_ | refine zQ ?_ | refine zP ?_ | refine ⟨?_, ?_⟩)
          · have q3 : decide ((c.toNat : Int) > 126) = false := by simp; omega
            repeat (first | ((with_reducible refine zI ?_); refine zH rfl ?_) | ((with_reducible refine zb ?_); refine zt rfl (by first | rfl | assumption) rfl ?_) | ((with_reducible refine zb ?_); refine zq rfl (by first | rfl | assumption) rfl ?_) | ((with_reducible refine zM ?_); refine ze rfl rfl (by omega) ?_) | ((with_reducible refine zM ?_); refine zV rfl rfl rfl ?_)  | refine zJ ?_ | refine zB rfl ?_ | refine yK rfl rfl (by first | rfl | assumption) ?_ | refine zv rfl rfl (by first | rfl | assumption) ?_ | with_reducible refine zC ?_ | with_reducible refine zk ?_ | with_reducible refine zR ?_ | ((with_reducible refine zA ?_ ?_); kernel_rfl) | refine zp rfl (by first | rfl | assumption) ?_)
            exact ⟨k + 1, ⟨by omega, all_take hx (qw.2 (.inr (by omega))) hall⟩, by omega, ⟨rfl, rfl, rfl, rfl, trivial⟩, trivial⟩
    · obtain rfl : k = s.size - 1 := by simp at h; omega
      have hdec : s.data.toList = s.data.toList.take (s.size - 1) ++ [10] := by
        have := qv hx0
        rw [← this, List.take_of_length_le (by omega)]
      have hall2 : s.data.toList.all okB = true := by rw [hdec, List.all_append, hall]; rfl
      have hsz : (s.extract (0 : Int).toNat ((s.size : Int) - 1).toNat).size ≤ s.size := by rw [ByteArray.size_extract]; omega
      have hex : (s.extract (0 : Int).toNat ((s.size : Int) - 1).toNat).data.toList = s.data.toList.take (s.size - 1) := by
        rw [ext_strL, ym, extL]
        simp only [Int.toNat_zero, List.drop_zero]
        congr 1
        omega
      have hS := split_A (G := X.G) (s.extract (0 : Int).toNat ((s.size : Int) - 1).toNat) 10 hG (by omega)
      rw [hex, ← ll_split, ← hdec] at hS
      rw [lines_some hne (by omega) hlast hall2]
      repeat (first | ((with_reducible refine zI ?_); refine zH rfl ?_) | ((with_reducible refine k_slice ?_); refine x_sliceS (by exact Tryz.underlying9) rfl rfl rfl (by refine ⟨?_, ?_, ?_⟩ <;> omega) ?_)  | refine zB rfl ?_ | with_reducible refine zC ?_ | with_reducible refine zw ?_ | with_reducible refine zF ?_ | with_reducible refine yJ ?_ | ((with_reducible refine zr ?_ ?_); rfl) | ((with_reducible refine zA ?_ ?_); kernel_rfl))
      refine zo (hS) (by repeat' (first | exact trivial | exact Ren.v _ | exact Ren.sl _ _ | exact Ren.ep _ | exact Ren.ptr _ _ _ _ rfl | exact Ren.bs _ _ _ _ _ rfl | exact Ren.nil _ | exact Ren.own _ _ _ _ ⟨_, rfl⟩ | refine zO ?_ | refine zQ ?_ | refine zP ?_ | refine ⟨?_, ?_⟩)) (by repeat' (first | exact trivial | exact RenB.v _ | exact RenB.sl _ _ | exact RenB.ep _ | exact RenB.ptr _ _ _ _ rfl | refine zW ?_ | refine zX ?_ | refine ⟨?_, ?_⟩)) ?_
      repeat (first | ((with_reducible refine zE ?_); refine zD rfl ?_)  | refine zJ ?_ | refine zB rfl ?_ | with_reducible refine zC ?_ | with_reducible refine zU ?_ )
      refine jI (by first | exact .inr rfl | exact .inl rfl) rfl rfl rfl ?_
      repeat' (first | exact trivial | exact Ren.v _ | exact Ren.sl _ _ | exact Ren.ep _ | exact Ren.ptr _ _ _ _ rfl | exact Ren.bs _ _ _ _ _ rfl | exact Ren.nil _ | exact Ren.own _ _ _ _ ⟨_, rfl⟩ | refine zO ?_ | refine zQ ?_ | refine zP ?_ | refine ⟨?_, ?_⟩)
  · have p2 : ((c0.toNat : Int) != 10) = true := by rw [bne_iff_ne]; exact ne10 h10
    rw [jf hne (.inl (.inr (by rw [hlast]; intro e; injection e with e; exact h10 e)))]
    repeat (first | ((with_reducible refine zI ?_); refine zH rfl ?_) | ((with_reducible refine zE ?_); refine zD rfl ?_) | ((with_reducible refine zb ?_); refine zq rfl (by first | rfl | assumption) rfl ?_) | ((with_reducible refine yW ?_); refine jB rfl rfl (by assumption) ?_) | ((with_reducible refine zM ?_); refine zV rfl rfl rfl ?_)  | refine zJ ?_ | refine zB rfl ?_ | refine zv rfl rfl (by first | rfl | assumption) ?_ | with_reducible refine zC ?_ | with_reducible refine zS ?_ | with_reducible refine zF ?_ | with_reducible refine zU ?_ | ((with_reducible refine zA ?_ ?_); kernel_rfl) | refine zg rfl (by first | rfl | assumption) ?_)
    refine jI (by first | exact .inr rfl | exact .inl rfl) rfl rfl rfl ?_
    repeat' (first | exact trivial | exact Ren.v _ | exact Ren.sl _ _ | exact Ren.ep _ | exact Ren.ptr _ _ _ _ rfl | exact Ren.bs _ _ _ _ _ rfl | exact Ren.nil _ | exact Ren.own _ _ _ _ ⟨_, rfl⟩ | refine zO ?_ | refine zQ ?_ | refine zP ?_ | refine ⟨?_, ?_⟩)
set_option maxHeartbeats 2000000 in
theorem rlines_A (s : ByteArray) (hs : s.size ≤ 4294967296) : yF Tryz.prog G 42 [.v (.string s)] [] (.tu [.sl 1 (((jZ s.data.toList).getD []).map svL), .v (.bool (jZ s.data.toList).isSome)]) [] := by
  have hz := nsizeS s
  by_cases hbig : 65536 < s.size
  · have hne : s.data.toList ≠ [] := fun e => by rw [hz, e] at hbig; simp at hbig
    have p1 : decide ((s.size : Int) > 65536) = true := by simp; omega
    refine zj tbOk (zn Tryz.func42 (by kernel_rfl) rfl) Tryz.func42 rfl _ Tryz.ntmps42 (Nat.le_of_ble_eq_true rfl) fun X hX => ?_
    subst hX
    rw [jf hne (.inl (.inl (by omega)))]
    repeat (first | ((with_reducible refine zI ?_); refine zH rfl ?_) | ((with_reducible refine zE ?_); refine zD rfl ?_) | ((with_reducible refine zb ?_); refine zt rfl (by first | rfl | assumption) rfl ?_) | ((with_reducible refine zu ?_); refine jA (by exact Tryz.underlying9) rfl ?_) | ((with_reducible refine zM ?_); refine zV rfl rfl rfl ?_)  | refine zJ ?_ | refine zB rfl ?_ | refine yL rfl rfl (by first | rfl | assumption) ?_ | refine jG rfl rfl rfl ?_ | with_reducible refine zC ?_ | with_reducible refine zS ?_ | with_reducible refine zF ?_ | with_reducible refine zU ?_ | ((with_reducible refine zA ?_ ?_); kernel_rfl) | refine zg rfl (by first | rfl | assumption) ?_)
    refine jI (by first | exact .inr rfl | exact .inl rfl) rfl rfl rfl ?_
    repeat' (first | exact trivial | exact Ren.v _ | exact Ren.sl _ _ | exact Ren.ep _ | exact Ren.ptr _ _ _ _ rfl | exact Ren.bs _ _ _ _ _ rfl | exact Ren.nil _ | exact Ren.own _ _ _ _ ⟨_, rfl⟩ | refine zO ?_ | refine zQ ?_ | refine zP ?_ | refine ⟨?_, ?_⟩)
  have p1 : decide ((s.size : Int) > 65536) = false := by simp; omega
  have hfin : ∀ (h : s.data.toList = [] ∨ s.data.toList.getLast? = some 10) (h2 : s.data.toList.all okB = true), jZ s.data.toList = some (ll [] s.data.toList) := fun h h2 => by
    by_cases hn : s.data.toList = []
    · rw [hn]; rfl
    · exact lines_some hn (by omega) (by rcases h with h | h; exact absurd h hn; exact h) h2
  refine zj tbOk (zn Tryz.func42 (by kernel_rfl) rfl) Tryz.func42 rfl _ Tryz.ntmps42 (Nat.le_of_ble_eq_true rfl) fun X hX => ?_
  subst hX
  repeat (first | ((with_reducible refine zI ?_); refine zH rfl ?_) | ((with_reducible refine zE ?_); refine zD rfl ?_) | ((with_reducible refine zu ?_); refine jA (by exact Tryz.underlying9) rfl ?_) | ((with_reducible refine zM ?_); refine zV rfl rfl rfl ?_)  | refine zJ ?_ | refine zB rfl ?_ | refine zv rfl rfl (by first | rfl | assumption) ?_ | with_reducible refine zC ?_ | with_reducible refine zF ?_ | ((with_reducible refine zA ?_ ?_); kernel_rfl))
  by_cases h0 : s.size = 0
  · have p2 : decide ((s.size : Int) > 0) = false := by rw [h0]; rfl
    have hok : s.data.toList = [] ∨ s.data.toList.getLast? = some 10 := .inl (List.eq_nil_of_length_eq_zero (by omega))
    repeat (first | ((with_reducible refine zE ?_); refine zD rfl ?_) | ((with_reducible refine zb ?_); refine zq rfl (by first | rfl | assumption) rfl ?_)  | refine zJ ?_ | refine zB rfl ?_ | refine yQ rfl rfl (by first | rfl | assumption) ?_ | refine zv rfl rfl (by first | rfl | assumption) ?_ | with_reducible refine zC ?_ | with_reducible refine zF ?_ | with_reducible refine zY ?_ | with_reducible refine zR ?_ | ((with_reducible refine zA ?_ ?_); kernel_rfl) | refine zp rfl (by first | rfl | assumption) ?_)
    refine awp_own (t := 4) (s := 39) 9 1 rfl rfl ?_
    refine yU (ι := Nat × Nat × List (List UInt8)) (fun q => q.1 ≤ q.2.1 ∧ q.2.1 ≤ s.size ∧ q.2.2.length ≤ q.2.1 ∧ (s.data.toList.take q.2.1).all okB = true ∧ q.2.2 ++ ll (extL s (q.1, q.2.1)) (s.data.toList.drop q.2.1) = ll [] s.data.toList) (fun q => s.size - q.2.1) (fun v q => [(0, .v (.string s)), (4, .own 39 (v 39)), (5, .v (.int .i64 (q.1 : Nat))), (6, .v (.int .i64 (q.2.1 : Nat)))]) (fun v q => [(39, .buf 9 1 (q.2.2.map svL))]) ?_ ?_
    · refine ⟨(0, 0, []), ⟨Nat.le_refl _, Nat.zero_le _, Nat.zero_le _, by simp, ?_⟩, trivial, ⟨rfl, rfl, rfl, rfl, trivial⟩, ⟨rfl, trivial⟩⟩
      show [] ++ ll (extL s (0, 0)) _ = _
      rw [jy]; rfl
    rintro v ⟨a, k, D⟩ ⟨ha, hk, hD, hall, hw⟩
    simp only at ha hk hD hall hw
    dsimp only
    repeat (first | ((with_reducible refine zI ?_); refine zH rfl ?_) | ((with_reducible refine zu ?_); refine jA (by exact Tryz.underlying9) rfl ?_) | ((with_reducible refine zM ?_); refine zV rfl rfl rfl ?_)  | refine zJ ?_ | refine zB rfl ?_ | with_reducible refine zC ?_ | with_reducible refine zF ?_ | ((with_reducible refine zA ?_ ?_); kernel_rfl))
    refine zm rfl (fun h => ?_) (fun h => ?_)
    · have hlt : k < s.size := by simp at h; omega
      have hne : s.data.toList ≠ [] := fun e => by rw [hz, e] at hlt; simp at hlt
      obtain ⟨c, hx⟩ := zl (L := s.data.toList) (k := k) (by omega)
      have ix := nidxS s k c hx
      rw [jE hx, ll] at hw
      repeat (first | ((with_reducible refine zI ?_); refine zH rfl ?_) | ((with_reducible refine yW ?_); refine jB rfl rfl (by assumption) ?_) | ((with_reducible refine zM ?_); refine zV rfl rfl rfl ?_)  | refine zJ ?_ | refine zB rfl ?_ | with_reducible refine zC ?_ | with_reducible refine zF ?_ | with_reducible refine zY ?_ | with_reducible refine zR ?_ | ((with_reducible refine zA ?_ ?_); kernel_rfl))
      by_cases hc10 : c = 10
      · subst hc10
        have q1 : (((10 : UInt8).toNat : Int) == 10) = true := rfl
        rw [if_pos rfl] at hw
        repeat (first | ((with_reducible refine zI ?_); refine zH rfl ?_) | ((with_reducible refine k_slice ?_); refine x_sliceS (by exact Tryz.underlying9) rfl rfl rfl (by refine ⟨?_, ?_, ?_⟩ <;> omega) ?_) | ((with_reducible refine yG ?_); refine yH tbOk rfl rfl rfl rfl rfl (by omega) rfl rfl rfl ?_) | refine zB rfl ?_ | with_reducible refine zF ?_ | ((with_reducible refine zA ?_ ?_); kernel_rfl) | refine zg rfl (by first | rfl | assumption) ?_)
        rw [ext_strL]
        refine yV tbOk rfl rfl rfl rfl rfl (by decide) rfl rfl rfl rfl rfl (fun x hx => by simp at hx; subst hx; rfl) (by simp only [List.length_map, List.length_cons, List.length_nil]; omega) (by simp only [List.length_map, List.length_cons, List.length_nil]; omega) ?_
        repeat (first | ((with_reducible refine zI ?_); refine zH rfl ?_) | ((with_reducible refine zE ?_); refine zD rfl ?_) | ((with_reducible refine zM ?_); refine ze rfl rfl (by omega) ?_)  | refine zJ ?_ | refine zB rfl ?_ | with_reducible refine zC ?_ | with_reducible refine zk ?_ | ((with_reducible refine zA ?_ ?_); kernel_rfl))
        refine ⟨(k + 1, k + 1, D ++ [extL s (a, k)]), ⟨Nat.le_refl _, by show k + 1 ≤ s.size; omega, by simp; omega, all_take hx (by decide) hall, ?_⟩, by show s.size - (k + 1) < s.size - k; omega, ⟨rfl, rfl, rfl, rfl, trivial⟩, ⟨?_, trivial⟩⟩
        · show D ++ [extL s (a, k)] ++ ll (extL s (k + 1, k + 1)) _ = _
          rw [jy, ← hw]; simp
        · exact jJ (by rw [List.map_append]; rfl)
      · have q1 : ((c.toNat : Int) == 10) = false := by rw [beq_eq_false_iff_ne]; exact ne10 hc10
        rw [if_neg hc10] at hw
        by_cases hlo : c.toNat < 32
        · have q2 : decide ((c.toNat : Int) < 32) = true := by simp; omega
          have hb : okB c = false := by
            cases hq : okB c with
            | false => rfl
            | true => rcases qw.1 hq with h | h; exact absurd h hc10; omega
          rw [jf hne (.inr (all_bad hx hb))]
          repeat (first | ((with_reducible refine zI ?_); refine zH rfl ?_) | ((with_reducible refine zE ?_); refine zD rfl ?_) | ((with_reducible refine zb ?_); refine zt rfl (by first | rfl | assumption) rfl ?_) | ((with_reducible refine yW ?_); refine jB rfl rfl (by assumption) ?_) | ((with_reducible refine zM ?_); refine zV rfl rfl rfl ?_)  | refine zJ ?_ | refine zB rfl ?_ | refine yL rfl rfl (by first | rfl | assumption) ?_ | with_reducible refine zC ?_ | with_reducible refine zS ?_ | with_reducible refine zh ?_ | with_reducible refine zF ?_ | with_reducible refine zU ?_ | ((with_reducible refine zA ?_ ?_); kernel_rfl) | refine zg rfl (by first | rfl | assumption) ?_ | refine zp rfl (by first | rfl | assumption) ?_)
          refine jI (by first | exact .inr rfl | exact .inl rfl) rfl rfl rfl ?_
          repeat' (first | exact trivial | exact Ren.v _ | exact Ren.sl _ _ | exact Ren.ep _ | exact Ren.ptr _ _ _ _ rfl | exact Ren.bs _ _ _ _ _ rfl | exact Ren.nil _ | exact Ren.own _ _ _ _ ⟨_, rfl⟩ | refine zO ?_ | refine zQ ?_ | refine zP ?_ | refine ⟨?_, ?_⟩)
        · have q2 : decide ((c.toNat : Int) < 32) = false := by simp; omega
          by_cases hhi : 126 < c.toNat
          · have q3 : decide ((c.toNat : Int) > 126) = true := by simp; omega
            have hb : okB c = false := by
              cases hq : okB c with
              | false => rfl
              | true => rcases qw.1 hq with h | h; exact absurd h hc10; omega
            rw [jf hne (.inr (all_bad hx hb))]
            repeat (first | ((with_reducible refine zI ?_); refine zH rfl ?_) | ((with_reducible refine zE ?_); refine zD rfl ?_) | ((with_reducible refine zb ?_); refine zq rfl (by first | rfl | assumption) rfl ?_) | ((with_reducible refine yW ?_); refine jB rfl rfl (by assumption) ?_) | ((with_reducible refine zM ?_); refine zV rfl rfl rfl ?_)  | refine zJ ?_ | refine zB rfl ?_ | refine zv rfl rfl (by first | rfl | assumption) ?_ | with_reducible refine zC ?_ | with_reducible refine zS ?_ | with_reducible refine zh ?_ | with_reducible refine zF ?_ | with_reducible refine zU ?_ | ((with_reducible refine zA ?_ ?_); kernel_rfl) | refine zg rfl (by first | rfl | assumption) ?_ | refine zp rfl (by first | rfl | assumption) ?_)
            refine jI (by first | exact .inr rfl | exact .inl rfl) rfl rfl rfl ?_
            repeat' (first | exact trivial | exact Ren.v _ | exact Ren.sl _ _ | exact Ren.ep _ | exact Ren.ptr _ _ _ _ rfl | exact Ren.bs _ _ _ _ _ rfl | exact Ren.nil _ | exact Ren.own _ _ _ _ ⟨_, rfl⟩ | refine zO ?_ | refine zQ ?_ | refine zP ?_ | refine ⟨?_, ?_⟩)
          · have q3 : decide ((c.toNat : Int) > 126) = false := by simp; omega
            repeat (first | ((with_reducible refine zI ?_); refine zH rfl ?_) | ((with_reducible refine zE ?_); refine zD rfl ?_) | ((with_reducible refine zb ?_); refine zq rfl (by first | rfl | assumption) rfl ?_) | ((with_reducible refine yW ?_); refine jB rfl rfl (by assumption) ?_) | ((with_reducible refine zM ?_); refine ze rfl rfl (by omega) ?_) | ((with_reducible refine zM ?_); refine zV rfl rfl rfl ?_)  | refine zJ ?_ | refine zB rfl ?_ | refine zv rfl rfl (by first | rfl | assumption) ?_ | with_reducible refine zC ?_ | with_reducible refine zk ?_ | with_reducible refine zF ?_ | with_reducible refine zR ?_ | ((with_reducible refine zA ?_ ?_); kernel_rfl) | refine zp rfl (by first | rfl | assumption) ?_)
            refine ⟨(a, k + 1, D), ⟨by show a ≤ k + 1; omega, by show k + 1 ≤ s.size; omega, by show D.length ≤ k + 1; omega, all_take hx (qw.2 (.inr (by omega))) hall, ?_⟩, by show s.size - (k + 1) < s.size - k; omega, ⟨rfl, rfl, rfl, rfl, trivial⟩, ⟨rfl, trivial⟩⟩
            show D ++ ll (extL s (a, k + 1)) _ = _
            rw [extL_next hx ha, ← hw]
    · obtain rfl : k = s.size := by simp at h; omega
      rw [List.drop_of_length_le (by omega), ll, List.append_nil] at hw
      rw [List.take_of_length_le (by omega)] at hall
      rw [hfin hok hall, ← hw]
      repeat (first | ((with_reducible refine zI ?_); refine zH rfl ?_) | ((with_reducible refine zE ?_); refine zD rfl ?_)  | refine zJ ?_ | refine zB rfl ?_ | with_reducible refine zC ?_ | with_reducible refine zw ?_ | with_reducible refine zF ?_ | with_reducible refine yJ ?_ | with_reducible refine zU ?_ | ((with_reducible refine zr ?_ ?_); rfl) | ((with_reducible refine zA ?_ ?_); kernel_rfl))
      refine jI (by first | exact .inr rfl | exact .inl rfl) rfl rfl rfl ?_
      repeat' (first | exact trivial | exact Ren.v _ | exact Ren.sl _ _ | exact Ren.ep _ | exact Ren.ptr _ _ _ _ rfl | exact Ren.bs _ _ _ _ _ rfl | exact Ren.nil _ | exact Ren.own _ _ _ _ ⟨_, rfl⟩ | refine zO ?_ | refine zQ ?_ | refine zP ?_ | refine ⟨?_, ?_⟩)
  have p2 : decide ((s.size : Int) > 0) = true := by simp; omega
  have hne : s.data.toList ≠ [] := fun e => h0 (by rw [hz, e]; rfl)
  obtain ⟨c0, hx0⟩ := zl (L := s.data.toList) (k := s.size - 1) (by omega)
  have ix0 : ∀ w : World, (Instr.index 9 (.string s) (.int .i64 ((s.size : Int) - 1))).run Tryz.prog w = .ok (.int .u8 (c0.toNat : Int)) w := fun w => by
    have := nidxS s (s.size - 1) c0 hx0 w
    rwa [show ((s.size - 1 : Nat) : Int) = (s.size : Int) - 1 by omega] at this
  have hlast : s.data.toList.getLast? = some c0 := last_at (by rw [← hz]; exact hx0)
  repeat (first | ((with_reducible refine zI ?_); refine zH rfl ?_) | ((with_reducible refine zb ?_); refine zt rfl (by first | rfl | assumption) rfl ?_) | ((with_reducible refine zb ?_); refine zq rfl (by first | rfl | assumption) rfl ?_) | ((with_reducible refine yW ?_); refine jB rfl rfl (by assumption) ?_) | ((with_reducible refine zu ?_); refine jA (by exact Tryz.underlying9) rfl ?_) | ((with_reducible refine zM ?_); refine jN rfl rfl (by omega) ?_) | ((with_reducible refine zM ?_); refine zV rfl rfl rfl ?_)  | refine zJ ?_ | refine zB rfl ?_ | refine yK rfl rfl (by first | rfl | assumption) ?_ | refine zv rfl rfl (by first | rfl | assumption) ?_ | with_reducible refine zC ?_ )
  by_cases h10 : c0 = 10
  · have p3 : ((c0.toNat : Int) != 10) = false := by rw [h10]; rfl
    have hok : s.data.toList = [] ∨ s.data.toList.getLast? = some 10 := .inr (by rw [hlast, h10])
    repeat (first | ((with_reducible refine zE ?_); refine zD rfl ?_)  | refine zJ ?_ | refine zB rfl ?_ | with_reducible refine zC ?_ | with_reducible refine zF ?_ | with_reducible refine zY ?_ | with_reducible refine zR ?_ | ((with_reducible refine zA ?_ ?_); kernel_rfl) | refine zp rfl (by first | rfl | assumption) ?_)
    refine awp_own (t := 4) (s := 39) 9 1 rfl rfl ?_
    refine yU (ι := Nat × Nat × List (List UInt8)) (fun q => q.1 ≤ q.2.1 ∧ q.2.1 ≤ s.size ∧ q.2.2.length ≤ q.2.1 ∧ (s.data.toList.take q.2.1).all okB = true ∧ q.2.2 ++ ll (extL s (q.1, q.2.1)) (s.data.toList.drop q.2.1) = ll [] s.data.toList) (fun q => s.size - q.2.1) (fun v q => [(0, .v (.string s)), (4, .own 39 (v 39)), (5, .v (.int .i64 (q.1 : Nat))), (6, .v (.int .i64 (q.2.1 : Nat)))]) (fun v q => [(39, .buf 9 1 (q.2.2.map svL))]) ?_ ?_
    · refine ⟨(0, 0, []), ⟨Nat.le_refl _, Nat.zero_le _, Nat.zero_le _, by simp, ?_⟩, trivial, ⟨rfl, rfl, rfl, rfl, trivial⟩, ⟨rfl, trivial⟩⟩
      show [] ++ ll (extL s (0, 0)) _ = _
      rw [jy]; rfl
    rintro v ⟨a, k, D⟩ ⟨ha, hk, hD, hall, hw⟩
    simp only at ha hk hD hall hw
    dsimp only
    repeat (first | ((with_reducible refine zI ?_); refine zH rfl ?_) | ((with_reducible refine zu ?_); refine jA (by exact Tryz.underlying9) rfl ?_) | ((with_reducible refine zM ?_); refine zV rfl rfl rfl ?_)  | refine zJ ?_ | refine zB rfl ?_ | with_reducible refine zC ?_ | with_reducible refine zF ?_ | ((with_reducible refine zA ?_ ?_); kernel_rfl))
    refine zm rfl (fun h => ?_) (fun h => ?_)
    · have hlt : k < s.size := by simp at h; omega
      have hne : s.data.toList ≠ [] := fun e => by rw [hz, e] at hlt; simp at hlt
      obtain ⟨c, hx⟩ := zl (L := s.data.toList) (k := k) (by omega)
      have ix := nidxS s k c hx
      rw [jE hx, ll] at hw
      repeat (first | ((with_reducible refine zI ?_); refine zH rfl ?_) | ((with_reducible refine yW ?_); refine jB rfl rfl (by assumption) ?_) | ((with_reducible refine zM ?_); refine zV rfl rfl rfl ?_)  | refine zJ ?_ | refine zB rfl ?_ | with_reducible refine zC ?_ | with_reducible refine zF ?_ | with_reducible refine zY ?_ | with_reducible refine zR ?_ | ((with_reducible refine zA ?_ ?_); kernel_rfl))
      by_cases hc10 : c = 10
      · subst hc10
        have q1 : (((10 : UInt8).toNat : Int) == 10) = true := rfl
        rw [if_pos rfl] at hw
        repeat (first | ((with_reducible refine zI ?_); refine zH rfl ?_) | ((with_reducible refine k_slice ?_); refine x_sliceS (by exact Tryz.underlying9) rfl rfl rfl (by refine ⟨?_, ?_, ?_⟩ <;> omega) ?_) | ((with_reducible refine yG ?_); refine yH tbOk rfl rfl rfl rfl rfl (by omega) rfl rfl rfl ?_) | refine zB rfl ?_ | with_reducible refine zF ?_ | ((with_reducible refine zA ?_ ?_); kernel_rfl) | refine zg rfl (by first | rfl | assumption) ?_)
        rw [ext_strL]
        refine yV tbOk rfl rfl rfl rfl rfl (by decide) rfl rfl rfl rfl rfl (fun x hx => by simp at hx; subst hx; rfl) (by simp only [List.length_map, List.length_cons, List.length_nil]; omega) (by simp only [List.length_map, List.length_cons, List.length_nil]; omega) ?_
        repeat (first | ((with_reducible refine zI ?_); refine zH rfl ?_) | ((with_reducible refine zE ?_); refine zD rfl ?_) | ((with_reducible refine zM ?_); refine ze rfl rfl (by omega) ?_)  | refine zJ ?_ | refine zB rfl ?_ | with_reducible refine zC ?_ | with_reducible refine zk ?_ | ((with_reducible refine zA ?_ ?_); kernel_rfl))
        refine ⟨(k + 1, k + 1, D ++ [extL s (a, k)]), ⟨Nat.le_refl _, by show k + 1 ≤ s.size; omega, by simp; omega, all_take hx (by decide) hall, ?_⟩, by show s.size - (k + 1) < s.size - k; omega, ⟨rfl, rfl, rfl, rfl, trivial⟩, ⟨?_, trivial⟩⟩
        · show D ++ [extL s (a, k)] ++ ll (extL s (k + 1, k + 1)) _ = _
          rw [jy, ← hw]; simp
        · exact jJ (by rw [List.map_append]; rfl)
      · have q1 : ((c.toNat : Int) == 10) = false := by rw [beq_eq_false_iff_ne]; exact ne10 hc10
        rw [if_neg hc10] at hw
        by_cases hlo : c.toNat < 32
        · have q2 : decide ((c.toNat : Int) < 32) = true := by simp; omega
          have hb : okB c = false := by
            cases hq : okB c with
            | false => rfl
            | true => rcases qw.1 hq with h | h; exact absurd h hc10; omega
          rw [jf hne (.inr (all_bad hx hb))]
          repeat (first | ((with_reducible refine zI ?_); refine zH rfl ?_) | ((with_reducible refine zE ?_); refine zD rfl ?_) | ((with_reducible refine zb ?_); refine zt rfl (by first | rfl | assumption) rfl ?_) | ((with_reducible refine yW ?_); refine jB rfl rfl (by assumption) ?_) | ((with_reducible refine zM ?_); refine zV rfl rfl rfl ?_)  | refine zJ ?_ | refine zB rfl ?_ | refine yL rfl rfl (by first | rfl | assumption) ?_ | with_reducible refine zC ?_ | with_reducible refine zS ?_ | with_reducible refine zh ?_ | with_reducible refine zF ?_ | with_reducible refine zU ?_ | ((with_reducible refine zA ?_ ?_); kernel_rfl) | refine zg rfl (by first | rfl | assumption) ?_ | refine zp rfl (by first | rfl | assumption) ?_)
          refine jI (by first | exact .inr rfl | exact .inl rfl) rfl rfl rfl ?_
          repeat' (first | exact trivial | exact Ren.v _ | exact Ren.sl _ _ | exact Ren.ep _ | exact Ren.ptr _ _ _ _ rfl | exact Ren.bs _ _ _ _ _ rfl | exact Ren.nil _ | exact Ren.own _ _ _ _ ⟨_, rfl⟩ | refine zO ?_ | refine zQ ?_ | refine zP ?_ | refine ⟨?_, ?_⟩)
        · have q2 : decide ((c.toNat : Int) < 32) = false := by simp; omega
          by_cases hhi : 126 < c.toNat
          · have q3 : decide ((c.toNat : Int) > 126) = true := by simp; omega
            have hb : okB c = false := by
              cases hq : okB c with
              | false => rfl
              | true => rcases qw.1 hq with h | h; exact absurd h hc10; omega
            rw [jf hne (.inr (all_bad hx hb))]
            repeat (first | ((with_reducible refine zI ?_); refine zH rfl ?_) | ((with_reducible refine zE ?_); refine zD rfl ?_) | ((with_reducible refine zb ?_); refine zq rfl (by first | rfl | assumption) rfl ?_) | ((with_reducible refine yW ?_); refine jB rfl rfl (by assumption) ?_) | ((with_reducible refine zM ?_); refine zV rfl rfl rfl ?_)  | refine zJ ?_ | refine zB rfl ?_ | refine zv rfl rfl (by first | rfl | assumption) ?_ | with_reducible refine zC ?_ | with_reducible refine zS ?_ | with_reducible refine zh ?_ | with_reducible refine zF ?_ | with_reducible refine zU ?_ | ((with_reducible refine zA ?_ ?_); kernel_rfl) | refine zg rfl (by first | rfl | assumption) ?_ | refine zp rfl (by first | rfl | assumption) ?_)
            refine jI (by first | exact .inr rfl | exact .inl rfl) rfl rfl rfl ?_
            repeat' (first | exact trivial | exact Ren.v _ | exact Ren.sl _ _ | exact Ren.ep _ | exact Ren.ptr _ _ _ _ rfl | exact Ren.bs _ _ _ _ _ rfl | exact Ren.nil _ | exact Ren.own _ _ _ _ ⟨_, rfl⟩ | refine zO ?_ | refine zQ ?_ | refine zP ?_ | refine ⟨?_, ?_⟩)
          · have q3 : decide ((c.toNat : Int) > 126) = false := by simp; omega
            repeat (first | ((with_reducible refine zI ?_); refine zH rfl ?_) | ((with_reducible refine zE ?_); refine zD rfl ?_) | ((with_reducible refine zb ?_); refine zq rfl (by first | rfl | assumption) rfl ?_) | ((with_reducible refine yW ?_); refine jB rfl rfl (by assumption) ?_) | ((with_reducible refine zM ?_); refine ze rfl rfl (by omega) ?_) | ((with_reducible refine zM ?_); refine zV rfl rfl rfl ?_)  | refine zJ ?_ | refine zB rfl ?_ | refine zv rfl rfl (by first | rfl | assumption) ?_ | with_reducible refine zC ?_ | with_reducible refine zk ?_ | with_reducible refine zF ?_ | with_reducible refine zR ?_ | ((with_reducible refine zA ?_ ?_); kernel_rfl) | refine zp rfl (by first | rfl | assumption) ?_)
            refine ⟨(a, k + 1, D), ⟨by show a ≤ k + 1; omega, by show k + 1 ≤ s.size; omega, by show D.length ≤ k + 1; omega, all_take hx (qw.2 (.inr (by omega))) hall, ?_⟩, by show s.size - (k + 1) < s.size - k; omega, ⟨rfl, rfl, rfl, rfl, trivial⟩, ⟨rfl, trivial⟩⟩
            show D ++ ll (extL s (a, k + 1)) _ = _
            rw [extL_next hx ha, ← hw]
    · obtain rfl : k = s.size := by simp at h; omega
      rw [List.drop_of_length_le (by omega), ll, List.append_nil] at hw
      rw [List.take_of_length_le (by omega)] at hall
      rw [hfin hok hall, ← hw]
      repeat (first | ((with_reducible refine zI ?_); refine zH rfl ?_) | ((with_reducible refine zE ?_); refine zD rfl ?_)  | refine zJ ?_ | refine zB rfl ?_ | with_reducible refine zC ?_ | with_reducible refine zw ?_ | with_reducible refine zF ?_ | with_reducible refine yJ ?_ | with_reducible refine zU ?_ | ((with_reducible refine zr ?_ ?_); rfl) | ((with_reducible refine zA ?_ ?_); kernel_rfl))
      refine jI (by first | exact .inr rfl | exact .inl rfl) rfl rfl rfl ?_
      repeat' (first | exact trivial | exact Ren.v _ | exact Ren.sl _ _ | exact Ren.ep _ | exact Ren.ptr _ _ _ _ rfl | exact Ren.bs _ _ _ _ _ rfl | exact Ren.nil _ | exact Ren.own _ _ _ _ ⟨_, rfl⟩ | refine zO ?_ | refine zQ ?_ | refine zP ?_ | refine ⟨?_, ?_⟩)
  · have p3 : ((c0.toNat : Int) != 10) = true := by rw [bne_iff_ne]; exact ne10 h10
    rw [jf hne (.inl (.inr (by rw [hlast]; intro e; injection e with e; exact h10 e)))]
    repeat (first | ((with_reducible refine zE ?_); refine zD rfl ?_)  | refine zJ ?_ | refine zB rfl ?_ | with_reducible refine zC ?_ | with_reducible refine zS ?_ | with_reducible refine zF ?_ | with_reducible refine zU ?_ | ((with_reducible refine zA ?_ ?_); kernel_rfl) | refine zg rfl (by first | rfl | assumption) ?_)
    refine jI (by first | exact .inr rfl | exact .inl rfl) rfl rfl rfl ?_
    repeat' (first | exact trivial | exact Ren.v _ | exact Ren.sl _ _ | exact Ren.ep _ | exact Ren.ptr _ _ _ _ rfl | exact Ren.bs _ _ _ _ _ rfl | exact Ren.nil _ | exact Ren.own _ _ _ _ ⟨_, rfl⟩ | refine zO ?_ | refine zQ ?_ | refine zP ?_ | refine ⟨?_, ?_⟩)
end Go.Proofs.YtggngllfnboehaaGreatDoor
