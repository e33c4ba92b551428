/- permitofficeref14: fault, before, Check, Locked, by the abstract machine; conditions: none. -/
import Derived.Test.YtjamibeffalhaaaGreatDoorAbsX
import Derived.Test.YtjamibeffalhaaaGreatDoorNetB
import Derived.Test.YtjamibeffalhaaaGreatDoorNetC
import Derived.Test.YtjamibeffalhaaaGreatDoorDcP
import Derived.Test.YtjamibeffalhaaaGreatDoorTiQ
set_option linter.unusedVariables false
set_option linter.unusedSimpArgs false
namespace Go.Proofs.YtjamibeffalhaaaGreatDoor
open Go Go.RowKit
set_option maxRecDepth 10000
variable {G : Nat → Option (List Value)}
def Lk.av (k : Lk) : AV := .ag [.v (.int .i64 k.d), .v (.int .i64 k.p), .v (.int .i64 k.k)]
def jW (N : List Nd) (V : List Dv) : AV := .ag [.sl 3 (N.map Nd.av), .sl 5 (V.map Dv.av)]
theorem dv_at {V : List Dv} {k : Nat} {x : Dv} (h : V[k]? = some x) : (V.map Dv.av)[k]? = some x.av := by rw [List.getElem?_map, h]; rfl
theorem aX {L : List Lk} {k : Nat} {x : Lk} (h : L[k]? = some x) : (L.map Lk.av)[k]? = some x.av := by rw [List.getElem?_map, h]; rfl
set_option maxHeartbeats 1000000 in
theorem tE (N : List Nd) (V : List Dv) (k : Lk) : zy Tryz.prog G 93 [jW N V, k.av] [] (.v (.int .i64 (yh V k))) [] := by
  refine zd tbOk (zf Tryz.func93 (by kernel_rfl) rfl) Tryz.func93 rfl _ Tryz.ntmps93 (Nat.le_of_ble_eq_true rfl) fun X hX => ?_
  subst hX
  repeat (first | ((with_reducible refine zJ ?_); refine zK rfl ?_) | ((with_reducible refine zF ?_); refine zE rfl ?_) | ((with_reducible refine zM ?_); refine zI tbOk rfl rfl rfl rfl ?_) | ((with_reducible refine zQ ?_); refine zO tbOk rfl rfl rfl rfl rfl ?_) | ((with_reducible refine yl ?_); refine yj rfl rfl rfl ?_) | ((with_reducible refine zR ?_); refine zS rfl rfl rfl ?_)  | refine zL ?_ | refine zB rfl ?_ | with_reducible (first | refine zG ?_ | refine zH ?_) | ((with_reducible refine zA ?_ ?_); kernel_rfl))
  refine zn rfl rfl (fun h => ?_) (fun h => ?_)
  · have h0 : k.d < 0 := by simpa using h
    have e : yh V k = 8 := by unfold yh; rw [if_pos (.inl h0)]
    rw [e]
    repeat (first | ((with_reducible refine zF ?_); refine zE rfl ?_) | ((with_reducible refine zW ?_); refine zi rfl (by first | rfl | assumption) rfl ?_)  | refine zL ?_ | refine zB rfl ?_ | refine yC rfl rfl (by first | rfl | assumption) ?_ | with_reducible (first | refine zG ?_ | refine zP ?_ | refine zH ?_ | refine zN ?_) | ((with_reducible refine zA ?_ ?_); kernel_rfl) | refine zr rfl (by first | rfl | assumption) ?_)
    refine ze (by first | exact .inr rfl | exact .inl rfl) rfl rfl ?_
    rfl
  have h0 : ¬ k.d < 0 := by simpa using h
  repeat (first | ((with_reducible refine zM ?_); refine zI tbOk rfl rfl rfl rfl ?_) | ((with_reducible refine zQ ?_); refine zO tbOk rfl rfl rfl rfl rfl ?_) | ((with_reducible refine zW ?_); refine zh rfl (by first | rfl | assumption) rfl ?_) | ((with_reducible refine zq ?_); refine yI tbOk rfl rfl ?_) | ((with_reducible refine zR ?_); refine zS rfl rfl rfl ?_)  | refine zL ?_ | refine zB rfl ?_ | refine zm rfl rfl (by first | rfl | assumption) ?_ | with_reducible refine zG ?_ )
  refine zX rfl (fun h => ?_) (fun h => ?_)
  · have h1 : (V.length : Int) ≤ k.d := by simpa using h
    have e : yh V k = 8 := by unfold yh; rw [if_pos (.inr h1)]
    rw [e]
    repeat (first | ((with_reducible refine zF ?_); refine zE rfl ?_)  | refine zL ?_ | refine zB rfl ?_ | with_reducible (first | refine zG ?_ | refine zP ?_ | refine zH ?_ | refine zN ?_) | ((with_reducible refine zA ?_ ?_); kernel_rfl))
    refine ze (by first | exact .inr rfl | exact .inl rfl) rfl rfl ?_
    rfl
  · have h1 : ¬ (V.length : Int) ≤ k.d := by simpa using h
    obtain ⟨x, hx⟩ := zc (L := V) (k := k.d.toNat) (by omega)
    have hy := dv_at hx
    have eK : iP V k.d = x.k := by unfold iP; rw [hx]
    have e : yh V k = if x.k = 5 then 6 else if k.p ≠ 1 ∧ k.p ≠ 2 then 10 else if k.k < 0 ∨ 65536 < k.k then 5 else 0 := by unfold yh; rw [if_neg (by omega), eK]
    rw [e]
    repeat (first | ((with_reducible refine zM ?_); (first | refine zI tbOk rfl rfl rfl rfl ?_ | refine yN tbOk rfl rfl rfl rfl ?_)) | ((with_reducible refine zQ ?_); (first | refine zO tbOk rfl rfl rfl rfl rfl ?_ | refine zb tbOk rfl rfl rfl ?_)) | ((with_reducible refine zY ?_); refine yQ tbOk rfl rfl rfl rfl (by omega) (by assumption) ?_) | ((with_reducible refine zR ?_); refine zS rfl rfl rfl ?_)  | refine zL ?_ | refine zB rfl ?_ | with_reducible (first | refine zG ?_ | refine zH ?_ | refine zT ?_) | ((with_reducible refine zA ?_ ?_); kernel_rfl))
    refine zX rfl (fun h => ?_) (fun h => ?_)
    · rw [if_pos (by simpa using h)]
      repeat (first | ((with_reducible refine zF ?_); refine zE rfl ?_)  | refine zL ?_ | refine zB rfl ?_ | with_reducible (first | refine zG ?_ | refine zP ?_ | refine zH ?_ | refine zN ?_) | ((with_reducible refine zA ?_ ?_); kernel_rfl))
      refine ze (by first | exact .inr rfl | exact .inl rfl) rfl rfl ?_
      rfl
    · rw [if_neg (by simpa using h)]
      by_cases p1 : k.p = 1
      · have b1 : (k.p != 1) = false := by simpa using p1
        rw [if_neg (by omega)]
        repeat (first | ((with_reducible refine zJ ?_); refine zK rfl ?_) | ((with_reducible refine zM ?_); refine zI tbOk rfl rfl rfl rfl ?_) | ((with_reducible refine zQ ?_); refine zO tbOk rfl rfl rfl rfl rfl ?_) | ((with_reducible refine zW ?_); refine zh rfl (by first | rfl | assumption) rfl ?_) | ((with_reducible refine zR ?_); refine zS rfl rfl rfl ?_)  | refine zL ?_ | refine zB rfl ?_ | refine yB rfl rfl (by first | rfl | assumption) ?_ | with_reducible (first | refine zG ?_ | refine zH ?_ | refine zT ?_) | ((with_reducible refine zA ?_ ?_); kernel_rfl) | refine yH rfl (by first | rfl | assumption) ?_)
        by_cases k0 : k.k < 0
        · have b2 : decide (k.k < 0) = true := by simpa using k0
          rw [if_pos (.inl k0)]
          repeat (first | ((with_reducible refine zF ?_); refine zE rfl ?_) | ((with_reducible refine zW ?_); refine zi rfl (by first | rfl | assumption) rfl ?_)  | refine zL ?_ | refine zB rfl ?_ | refine yC rfl rfl (by first | rfl | assumption) ?_ | with_reducible (first | refine zG ?_ | refine zP ?_ | refine zH ?_ | refine zN ?_) | ((with_reducible refine zA ?_ ?_); kernel_rfl) | refine zr rfl (by first | rfl | assumption) ?_)
          refine ze (by first | exact .inr rfl | exact .inl rfl) rfl rfl ?_
          rfl
        · have b2 : decide (k.k < 0) = false := by simpa using k0
          repeat (first | ((with_reducible refine zM ?_); refine zI tbOk rfl rfl rfl rfl ?_) | ((with_reducible refine zQ ?_); refine zO tbOk rfl rfl rfl rfl rfl ?_) | ((with_reducible refine zW ?_); refine zh rfl (by first | rfl | assumption) rfl ?_) | ((with_reducible refine zR ?_); refine zS rfl rfl rfl ?_)  | refine zL ?_ | refine zB rfl ?_ | refine zm rfl rfl (by first | rfl | assumption) ?_ | with_reducible refine zG ?_ )
          refine zX rfl (fun h => ?_) (fun h => ?_)
          · rw [if_pos (.inr (by simpa using h))]
            repeat (first | ((with_reducible refine zF ?_); refine zE rfl ?_)  | refine zL ?_ | refine zB rfl ?_ | with_reducible (first | refine zG ?_ | refine zP ?_ | refine zH ?_ | refine zN ?_) | ((with_reducible refine zA ?_ ?_); kernel_rfl))
            refine ze (by first | exact .inr rfl | exact .inl rfl) rfl rfl ?_
            rfl
          · have h' : ¬ 65536 < k.k := by simpa using h
            rw [if_neg (by omega)]
            repeat (first | ((with_reducible refine zF ?_); refine zE rfl ?_)  | refine zL ?_ | refine zB rfl ?_ | with_reducible (first | refine zG ?_ | refine zH ?_ | refine zT ?_ | refine zN ?_) | ((with_reducible refine zA ?_ ?_); kernel_rfl))
            refine ze (by first | exact .inr rfl | exact .inl rfl) rfl rfl ?_
            rfl
      · have b1 : (k.p != 1) = true := by simpa using p1
        repeat (first | ((with_reducible refine zJ ?_); refine zK rfl ?_) | ((with_reducible refine zM ?_); refine zI tbOk rfl rfl rfl rfl ?_) | ((with_reducible refine zQ ?_); refine zO tbOk rfl rfl rfl rfl rfl ?_) | ((with_reducible refine zW ?_); refine zi rfl (by first | rfl | assumption) rfl ?_) | ((with_reducible refine zR ?_); refine zS rfl rfl rfl ?_)  | refine zL ?_ | refine zB rfl ?_ | refine zu rfl rfl (by first | rfl | assumption) ?_ | with_reducible (first | refine zG ?_ | refine zH ?_ | refine zT ?_) | ((with_reducible refine zA ?_ ?_); kernel_rfl))
        refine zX rfl (fun h => ?_) (fun h => ?_)
        · have p2 : k.p ≠ 2 := by simpa using h
          rw [if_pos ⟨p1, p2⟩]
          repeat (first | ((with_reducible refine zF ?_); refine zE rfl ?_)  | refine zL ?_ | refine zB rfl ?_ | with_reducible (first | refine zG ?_ | refine zP ?_ | refine zH ?_ | refine zN ?_) | ((with_reducible refine zA ?_ ?_); kernel_rfl))
          refine ze (by first | exact .inr rfl | exact .inl rfl) rfl rfl ?_
          rfl
        · have p2 : k.p = 2 := by simpa using h
          rw [if_neg (by omega)]
          by_cases k0 : k.k < 0
          · have b2 : decide (k.k < 0) = true := by simpa using k0
            rw [if_pos (.inl k0)]
            repeat (first | ((with_reducible refine zJ ?_); refine zK rfl ?_) | ((with_reducible refine zF ?_); refine zE rfl ?_) | ((with_reducible refine zM ?_); refine zI tbOk rfl rfl rfl rfl ?_) | ((with_reducible refine zQ ?_); refine zO tbOk rfl rfl rfl rfl rfl ?_) | ((with_reducible refine zW ?_); refine zi rfl (by first | rfl | assumption) rfl ?_) | ((with_reducible refine zR ?_); refine zS rfl rfl rfl ?_)  | refine zL ?_ | refine zB rfl ?_ | refine yC rfl rfl (by first | rfl | assumption) ?_ | with_reducible (first | refine zG ?_ | refine zP ?_ | refine zH ?_ | refine zT ?_ | refine zN ?_) | ((with_reducible refine zA ?_ ?_); kernel_rfl) | refine zr rfl (by first | rfl | assumption) ?_)
            refine ze (by first | exact .inr rfl | exact .inl rfl) rfl rfl ?_
            rfl
          · have b2 : decide (k.k < 0) = false := by simpa using k0
            repeat (first | ((with_reducible refine zJ ?_); refine zK rfl ?_) | ((with_reducible refine zM ?_); refine zI tbOk rfl rfl rfl rfl ?_) | ((with_reducible refine zQ ?_); refine zO tbOk rfl rfl rfl rfl rfl ?_) | ((with_reducible refine zW ?_); refine zh rfl (by first | rfl | assumption) rfl ?_) | ((with_reducible refine zR ?_); refine zS rfl rfl rfl ?_)  | refine zL ?_ | refine zB rfl ?_ | refine zm rfl rfl (by first | rfl | assumption) ?_ | with_reducible (first | refine zG ?_ | refine zH ?_ | refine zT ?_) | ((with_reducible refine zA ?_ ?_); kernel_rfl))
            refine zX rfl (fun h => ?_) (fun h => ?_)
            · rw [if_pos (.inr (by simpa using h))]
              repeat (first | ((with_reducible refine zF ?_); refine zE rfl ?_)  | refine zL ?_ | refine zB rfl ?_ | with_reducible (first | refine zG ?_ | refine zP ?_ | refine zH ?_ | refine zN ?_) | ((with_reducible refine zA ?_ ?_); kernel_rfl))
              refine ze (by first | exact .inr rfl | exact .inl rfl) rfl rfl ?_
              rfl
            · have h' : ¬ 65536 < k.k := by simpa using h
              rw [if_neg (by omega)]
              repeat (first | ((with_reducible refine zF ?_); refine zE rfl ?_)  | refine zL ?_ | refine zB rfl ?_ | with_reducible (first | refine zG ?_ | refine zH ?_ | refine zT ?_ | refine zN ?_) | ((with_reducible refine zA ?_ ?_); kernel_rfl))
              refine ze (by first | exact .inr rfl | exact .inl rfl) rfl rfl ?_
              rfl
theorem oH (a b : Lk) : zy Tryz.prog G 95 [a.av, b.av] [] (.v (.bool (befB a b))) [] := by
  unfold befB
  refine zd tbOk (zf Tryz.func95 (by kernel_rfl) rfl) Tryz.func95 rfl _ Tryz.ntmps95 (Nat.le_of_ble_eq_true rfl) fun X hX => ?_
  subst hX
  repeat' (first | ((with_reducible refine zJ ?_); refine zK rfl ?_) | ((with_reducible refine zF ?_); refine zE rfl ?_) | ((with_reducible refine zM ?_); refine zI tbOk rfl rfl rfl rfl ?_) | ((with_reducible refine zQ ?_); refine zO tbOk rfl rfl rfl rfl rfl ?_) | ((with_reducible refine yl ?_); refine yj rfl rfl rfl ?_) | ((with_reducible refine zW ?_); (first | refine zi rfl (by first | rfl | assumption) rfl ?_ | refine zh rfl (by first | rfl | assumption) rfl ?_)) | ((with_reducible refine zR ?_); refine zS rfl rfl rfl ?_)  | refine zL ?_ | refine zB rfl ?_ | refine zu rfl rfl (by first | rfl | assumption) ?_ | refine yB rfl rfl (by first | rfl | assumption) ?_ | refine zm rfl rfl (by first | rfl | assumption) ?_ | refine yC rfl rfl (by first | rfl | assumption) ?_ | refine jA rfl rfl rfl ?_ | with_reducible (first | refine zG ?_ | refine zH ?_ | refine zN ?_) | ((with_reducible refine zA ?_ ?_); kernel_rfl) | refine zn rfl rfl (fun _ => ?_) (fun _ => ?_) | refine zX rfl (fun _ => ?_) (fun _ => ?_))
  all_goals refine ze (by first | exact .inr rfl | exact .inl rfl) rfl rfl ?_
  all_goals refine congrArg (fun b => AV.v (.bool b)) ?_
  all_goals simp_all
  all_goals (by_cases h9 : a.d = b.d <;> simp_all)
set_option maxHeartbeats 4000000 in
theorem pU (N : List Nd) (V : List Dv) (L : List Lk) (hN : ∀ x ∈ N, x.n.size ≤ maxLen) (hV : ∀ x ∈ V, x.n.size ≤ maxLen) (h1 : N.length ≤ maxLen) (h2 : V.length ≤ maxLen) :
    zy Tryz.prog G 69 [jW N V, .sl 3 (L.map Lk.av)] [] (.v (.int .i64 (lksE N V L))) [] := by
  refine zd tbOk (zf Tryz.func69 (by kernel_rfl) rfl) Tryz.func69 rfl _ Tryz.ntmps69 (Nat.le_of_ble_eq_true rfl) fun X hX => ?_
  subst hX
  unfold lksE
  repeat (first | ((with_reducible refine zF ?_); refine zE rfl ?_) | ((with_reducible refine zQ ?_); refine za tbOk rfl rfl rfl rfl (Nat.le_of_ble_eq_true rfl) ?_) | ((with_reducible refine yl ?_); refine yj rfl rfl rfl ?_)  | refine zL ?_ | refine zB rfl ?_ | with_reducible (first | refine zG ?_ | refine zH ?_) | ((with_reducible refine zA ?_ ?_); kernel_rfl))
  refine zC (fG N V hN hV h1 h2) ?_
  repeat (first | ((with_reducible refine zJ ?_); refine zK rfl ?_) | ((with_reducible refine zF ?_); refine zE rfl ?_) | ((with_reducible refine zR ?_); refine zS rfl rfl rfl ?_)  | refine zL ?_ | refine zB rfl ?_ | with_reducible (first | refine zG ?_ | refine zH ?_) | ((with_reducible refine zA ?_ ?_); kernel_rfl))
  refine zX rfl (fun h => ?_) (fun h => ?_)
  · rw [if_pos (by simpa using h)]
    repeat (first | ((with_reducible refine zJ ?_); refine zK rfl ?_) | ((with_reducible refine zF ?_); refine zE rfl ?_)  | refine zL ?_ | refine zB rfl ?_ | with_reducible (first | refine zG ?_ | refine zP ?_ | refine zH ?_ | refine zN ?_) | ((with_reducible refine zA ?_ ?_); kernel_rfl))
    refine ze (by first | exact .inr rfl | exact .inl rfl) rfl rfl ?_
    rfl
  rw [if_neg (by simpa using h)]
  repeat (first | ((with_reducible refine zJ ?_); refine zK rfl ?_) | ((with_reducible refine zq ?_); refine yI tbOk rfl rfl ?_) | ((with_reducible refine zR ?_); refine zS rfl rfl rfl ?_)  | refine zL ?_ | refine zB rfl ?_ | with_reducible (first | refine zG ?_ | refine zH ?_ | refine zT ?_) | ((with_reducible refine zA ?_ ?_); kernel_rfl))
  refine zX rfl (fun h => ?_) (fun h => ?_)
  · have h128 : 128 < L.length := by simp at h; omega
    rw [if_pos h128]
    repeat (first | ((with_reducible refine zF ?_); refine zE rfl ?_)  | refine zL ?_ | refine zB rfl ?_ | with_reducible (first | refine zG ?_ | refine zP ?_ | refine zH ?_ | refine zN ?_) | ((with_reducible refine zA ?_ ?_); kernel_rfl))
    refine ze (by first | exact .inr rfl | exact .inl rfl) rfl rfl ?_
    rfl
  have h128 : ¬ 128 < L.length := by simp at h; omega
  rw [if_neg h128]
  repeat (first | ((with_reducible refine zF ?_); refine zE rfl ?_)  | refine zL ?_ | refine zB rfl ?_ | with_reducible (first | refine zG ?_ | refine zH ?_ | refine zV ?_ | refine zT ?_) | ((with_reducible refine zA ?_ ?_); kernel_rfl))
  refine yJ (ι := Nat) (fun i => i ≤ L.length ∧ lkGo V (L.take i) (L.drop i) = lkGo V [] L) (fun i => L.length - i) (fun v i => [(1, .sl 3 (L.map Lk.av)), (2, .ptr 2 (v 2) 0), (6, .v (.int .i64 i))]) (fun v i => [(2, .box [.sl 3 (N.map Nd.av), .sl 5 (V.map Dv.av)])]) ?_ ?_
  · exact ⟨0, ⟨Nat.zero_le _, rfl⟩, trivial, ⟨rfl, rfl, rfl, trivial⟩, ⟨rfl, trivial⟩⟩
  · rintro v i ⟨hi, hf⟩
    repeat (first | ((with_reducible refine zJ ?_); refine zK rfl ?_) | ((with_reducible refine zq ?_); refine yI tbOk rfl rfl ?_) | ((with_reducible refine zR ?_); refine zS rfl rfl rfl ?_)  | refine zL ?_ | refine zB rfl ?_ | with_reducible (first | refine zG ?_ | refine zH ?_) | ((with_reducible refine zA ?_ ?_); kernel_rfl))
    refine zX rfl (fun h => ?_) (fun h => ?_)
    · have hlt : i < L.length := by simpa using h
      obtain ⟨k, hx⟩ := zc hlt
      have hy := aX hx
      rw [sE hx] at hf
      repeat (first | ((with_reducible refine zJ ?_); refine zK rfl ?_) | ((with_reducible refine zQ ?_); (first | refine za tbOk rfl rfl rfl rfl (Nat.le_of_ble_eq_true rfl) ?_ | refine yK tbOk rfl rfl (Nat.le_of_ble_eq_true rfl) ?_)) | ((with_reducible refine zY ?_); refine zZ tbOk rfl rfl rfl rfl (by assumption) ?_)  | refine zB rfl ?_ | with_reducible (first | refine zG ?_ | refine zH ?_ | refine zV ?_ | refine zT ?_) | ((with_reducible refine yO mixd ?_ ?_); kernel_rfl))
      refine zC (tE N V k) ?_
      repeat (first | ((with_reducible refine zJ ?_); refine zK rfl ?_) | ((with_reducible refine zF ?_); refine zE rfl ?_) | ((with_reducible refine zR ?_); refine zS rfl rfl rfl ?_)  | refine zL ?_ | refine yS (by kernel_rfl) ?_ | refine zB rfl ?_ | with_reducible (first | refine zG ?_ | refine zH ?_) | ((with_reducible refine zA ?_ ?_); kernel_rfl))
      refine zX rfl (fun h => ?_) (fun h => ?_)
      · have hF : yh V k ≠ 0 := by simpa using h
        rw [lkE_f hF, if_pos hF] at hf
        repeat (first | ((with_reducible refine zJ ?_); refine zK rfl ?_) | ((with_reducible refine zF ?_); refine zE rfl ?_)  | refine zL ?_ | refine zB rfl ?_ | with_reducible (first | refine zG ?_ | refine zP ?_ | refine zU ?_ | refine zH ?_ | refine zN ?_) | ((with_reducible refine zA ?_ ?_); kernel_rfl))
        refine ze (by first | exact .inr rfl | exact .inl rfl) rfl rfl ?_
        rw [hf]
      have hF : yh V k = 0 := by simpa using h
      rcases Nat.eq_zero_or_pos i with i0 | i0
      rotate_left
      obtain ⟨q, hq⟩ := zc (L := L) (k := i - 1) (by omega)
      have hqy := aX hq
      have ei : ((i : Nat) : Int) - 1 = ((i - 1 : Nat) : Int) := by omega
      have b0 : decide ((i : Int) > 0) = true := by simpa using i0
      repeat (first | ((with_reducible refine zJ ?_); refine zK rfl ?_) | ((with_reducible refine zR ?_); (first | refine yi rfl rfl (by omega) ?_ | refine zS rfl rfl rfl ?_))  | refine zB rfl ?_ | refine zu rfl rfl (by first | rfl | assumption) ?_ | with_reducible (first | refine zG ?_ | refine zH ?_ | refine zT ?_) | ((with_reducible refine yO mixd ?_ ?_); kernel_rfl))
      with_reducible refine zY ?_
      refine yQ tbOk rfl rfl rfl rfl (by omega) (by rw [ei, Int.toNat_natCast]; exact hqy) ?_
      repeat (first | ((with_reducible refine zJ ?_); refine zK rfl ?_) | ((with_reducible refine zQ ?_); refine yK tbOk rfl rfl (Nat.le_of_ble_eq_true rfl) ?_) | ((with_reducible refine zY ?_); refine zZ tbOk rfl rfl rfl rfl (by assumption) ?_)  | refine zu rfl rfl (by first | rfl | assumption) ?_  )
      refine zC (oH q k) ?_
      repeat (first | ((with_reducible refine k_un ?_); refine yz rfl ?_) | ((with_reducible refine zW ?_); refine zi rfl (by first | rfl | assumption) rfl ?_)  | refine yS (by kernel_rfl) ?_ | refine zB rfl ?_ | refine zu rfl rfl (by first | rfl | assumption) ?_ | with_reducible refine zG ?_ )
      refine zX rfl (fun h => ?_) (fun h => ?_)
      · have hP : qh (L.take i) k = false := by unfold qh; rw [cV i0 hq]; simpa using h
        rw [xS hF hP, if_pos (by decide)] at hf
        repeat (first | ((with_reducible refine zF ?_); refine zE rfl ?_)  | refine zL ?_ | refine zB rfl ?_ | with_reducible (first | refine zG ?_ | refine zP ?_ | refine zU ?_ | refine zH ?_ | refine zN ?_) | ((with_reducible refine zA ?_ ?_); kernel_rfl))
        refine ze (by first | exact .inr rfl | exact .inl rfl) rfl rfl ?_
        rw [← hf]
      have hP : qh (L.take i) k = true := by unfold qh; rw [cV i0 hq]; simpa using h
      repeat (first | ((with_reducible refine zF ?_); refine zE rfl ?_)  | refine zL ?_ | refine zB rfl ?_ | with_reducible (first | refine zG ?_ | refine zH ?_ | refine zV ?_ | refine zT ?_) | ((with_reducible refine zA ?_ ?_); kernel_rfl))
      rotate_left
      have b0 : decide ((i : Int) > 0) = false := by simp [i0]
      have hP : qh (L.take i) k = true := by subst i0; rfl
      repeat (first | ((with_reducible refine zJ ?_); refine zK rfl ?_) | ((with_reducible refine zF ?_); refine zE rfl ?_) | ((with_reducible refine zW ?_); refine zh rfl (by first | rfl | assumption) rfl ?_) | ((with_reducible refine zR ?_); refine zS rfl rfl rfl ?_)  | refine zL ?_ | refine yS (by kernel_rfl) ?_ | refine zB rfl ?_ | refine yB rfl rfl (by first | rfl | assumption) ?_ | with_reducible (first | refine zG ?_ | refine zH ?_ | refine zV ?_ | refine zT ?_) | ((with_reducible refine zA ?_ ?_); kernel_rfl) | ((with_reducible refine yO mixd ?_ ?_); kernel_rfl) | refine yH rfl (by first | rfl | assumption) ?_)
      all_goals
        refine yJ (ι := Nat) (fun j => j ≤ i ∧ qW (L.take j) k = false) (fun j => i - j) (fun v j => [(1, .sl 3 (L.map Lk.av)), (2, .ptr 2 (v 2) 0), (6, .v (.int .i64 i)), (8, .v (.int .i64 j))]) (fun v j => [(2, .box [.sl 3 (N.map Nd.av), .sl 5 (V.map Dv.av)])]) ?_ ?_
        · exact ⟨0, ⟨Nat.zero_le _, rfl⟩, trivial, ⟨rfl, rfl, rfl, rfl, trivial⟩, ⟨rfl, trivial⟩⟩
        · rintro v j ⟨hj, hu⟩
          repeat (first | ((with_reducible refine zJ ?_); refine zK rfl ?_) | ((with_reducible refine zR ?_); refine zS rfl rfl rfl ?_)  | refine zL ?_ | refine zB rfl ?_ | with_reducible (first | refine zG ?_ | refine zH ?_) | ((with_reducible refine zA ?_ ?_); kernel_rfl))
          refine zX rfl (fun h => ?_) (fun h => ?_)
          · have hji : j < i := by simpa using h
            obtain ⟨y, hjy⟩ := zc (L := L) (k := j) (by omega)
            have hz := aX hjy
            repeat (first | ((with_reducible refine zJ ?_); refine zK rfl ?_) | ((with_reducible refine zM ?_); refine yN tbOk rfl rfl rfl rfl ?_) | ((with_reducible refine zQ ?_); refine zb tbOk rfl rfl rfl ?_) | ((with_reducible refine zY ?_); refine zZ tbOk rfl rfl rfl rfl (by assumption) ?_) | ((with_reducible refine zR ?_); refine zS rfl rfl rfl ?_)  | refine zB rfl ?_ | with_reducible (first | refine zG ?_ | refine zH ?_ | refine zV ?_ | refine zT ?_) | ((with_reducible refine yO mixd ?_ ?_); kernel_rfl))
            refine zn rfl rfl (fun c1 => ?_) (fun c1 => ?_)
            · have c1' : y.d = k.d := by simpa using c1
              repeat (first | ((with_reducible refine zJ ?_); refine zK rfl ?_) | ((with_reducible refine zM ?_); refine yN tbOk rfl rfl rfl rfl ?_) | ((with_reducible refine zQ ?_); refine zb tbOk rfl rfl rfl ?_) | ((with_reducible refine zW ?_); refine zi rfl (by first | rfl | assumption) rfl ?_) | ((with_reducible refine zY ?_); refine zZ tbOk rfl rfl rfl rfl (by assumption) ?_) | ((with_reducible refine zR ?_); refine zS rfl rfl rfl ?_)  | refine yS (by kernel_rfl) ?_ | refine zB rfl ?_ | refine zu rfl rfl (by first | rfl | assumption) ?_ | with_reducible refine zG ?_ )
              refine zX rfl (fun c2 => ?_) (fun c2 => ?_)
              · have c2' : ¬ y.p = k.p := by simpa using c2
                rw [xF hF hP (rQ hjy hji c1' c2'), if_pos (by decide)] at hf
                repeat (first | ((with_reducible refine zF ?_); refine zE rfl ?_)  | refine zL ?_ | refine zB rfl ?_ | with_reducible (first | refine zG ?_ | refine zP ?_ | refine zU ?_ | refine zH ?_ | refine zN ?_) | ((with_reducible refine zA ?_ ?_); kernel_rfl))
                refine ze (by first | exact .inr rfl | exact .inl rfl) rfl rfl ?_
                rw [← hf]
              · have c2' : y.p = k.p := by simpa using c2
                repeat (first | ((with_reducible refine zJ ?_); refine zK rfl ?_) | ((with_reducible refine zF ?_); refine zE rfl ?_) | ((with_reducible refine zR ?_); refine zk rfl rfl (by omega) ?_)  | refine zL ?_ | refine zB rfl ?_ | with_reducible (first | refine zG ?_ | refine zo ?_ | refine zT ?_) | ((with_reducible refine zA ?_ ?_); kernel_rfl))
                exact ⟨j + 1, ⟨by omega, by rw [fY hjy, hu, decide_eq_true c2']; simp⟩, by omega, ⟨rfl, rfl, rfl, rfl, trivial⟩, ⟨rfl, trivial⟩⟩
            · have c1' : ¬ y.d = k.d := by simpa using c1
              repeat (first | ((with_reducible refine zJ ?_); refine zK rfl ?_) | ((with_reducible refine zF ?_); refine zE rfl ?_) | ((with_reducible refine zW ?_); refine zh rfl (by first | rfl | assumption) rfl ?_) | ((with_reducible refine zR ?_); refine zk rfl rfl (by omega) ?_)  | refine zL ?_ | refine yS (by kernel_rfl) ?_ | refine zB rfl ?_ | refine yB rfl rfl (by first | rfl | assumption) ?_ | with_reducible (first | refine zG ?_ | refine zo ?_ | refine zT ?_) | ((with_reducible refine zA ?_ ?_); kernel_rfl) | refine yH rfl (by first | rfl | assumption) ?_)
              exact ⟨j + 1, ⟨by omega, by rw [fY hjy, hu, decide_eq_false c1']; simp⟩, by omega, ⟨rfl, rfl, rfl, rfl, trivial⟩, ⟨rfl, trivial⟩⟩
          · obtain rfl : j = i := by simp at h; omega
            have hO := hu
            repeat (first | ((with_reducible refine zF ?_); refine zE rfl ?_)  | refine zL ?_ | refine zB rfl ?_ | with_reducible (first | refine zG ?_ | refine zj ?_ | refine zH ?_ | refine zV ?_ | refine zz ?_) | ((with_reducible refine zg ?_ ?_); rfl) | ((with_reducible refine zA ?_ ?_); kernel_rfl))
            refine yJ (ι := Nat) (fun m => m ≤ j ∧ keyB (L.take m) k.k = false) (fun m => j - m) (fun v m => [(1, .sl 3 (L.map Lk.av)), (2, .ptr 2 (v 2) 0), (6, .v (.int .i64 j)), (9, .v (.int .i64 m))]) (fun v m => [(2, .box [.sl 3 (N.map Nd.av), .sl 5 (V.map Dv.av)])]) ?_ ?_
            · exact ⟨0, ⟨Nat.zero_le _, rfl⟩, trivial, ⟨rfl, rfl, rfl, rfl, trivial⟩, ⟨rfl, trivial⟩⟩
            · rintro v m ⟨hm, hw⟩
              repeat (first | ((with_reducible refine zJ ?_); refine zK rfl ?_) | ((with_reducible refine zR ?_); refine zS rfl rfl rfl ?_)  | refine zL ?_ | refine zB rfl ?_ | with_reducible (first | refine zG ?_ | refine zH ?_) | ((with_reducible refine zA ?_ ?_); kernel_rfl))
              refine zX rfl (fun h => ?_) (fun h => ?_)
              · have hmj : m < j := by simpa using h
                obtain ⟨y, hjy⟩ := zc (L := L) (k := m) (by omega)
                have hz := aX hjy
                repeat (first | ((with_reducible refine zJ ?_); refine zK rfl ?_) | ((with_reducible refine zM ?_); refine yN tbOk rfl rfl rfl rfl ?_) | ((with_reducible refine zQ ?_); refine zb tbOk rfl rfl rfl ?_) | ((with_reducible refine zY ?_); refine zZ tbOk rfl rfl rfl rfl (by assumption) ?_) | ((with_reducible refine zR ?_); refine zS rfl rfl rfl ?_)  | refine yS (by kernel_rfl) ?_ | refine zB rfl ?_ | with_reducible (first | refine zG ?_ | refine zH ?_ | refine zV ?_ | refine zT ?_) | ((with_reducible refine yO mixd ?_ ?_); kernel_rfl))
                refine zX rfl (fun c1 => ?_) (fun c1 => ?_)
                · have c1' : y.k = k.k := by simpa using c1
                  rw [lkE_4 hF hP hO (pF hjy hmj c1'), if_pos (by decide)] at hf
                  repeat (first | ((with_reducible refine zF ?_); refine zE rfl ?_)  | refine zL ?_ | refine zB rfl ?_ | with_reducible (first | refine zG ?_ | refine zP ?_ | refine zU ?_ | refine zH ?_ | refine zN ?_) | ((with_reducible refine zA ?_ ?_); kernel_rfl))
                  refine ze (by first | exact .inr rfl | exact .inl rfl) rfl rfl ?_
                  rw [← hf]
                · have c1' : ¬ y.k = k.k := by simpa using c1
                  repeat (first | ((with_reducible refine zJ ?_); refine zK rfl ?_) | ((with_reducible refine zF ?_); refine zE rfl ?_) | ((with_reducible refine zR ?_); refine zk rfl rfl (by omega) ?_)  | refine zL ?_ | refine zB rfl ?_ | with_reducible (first | refine zG ?_ | refine zo ?_ | refine zT ?_) | ((with_reducible refine zA ?_ ?_); kernel_rfl))
                  exact ⟨m + 1, ⟨by omega, by rw [kE hjy, hw, decide_eq_false c1']; rfl⟩, by omega, ⟨rfl, rfl, rfl, rfl, trivial⟩, ⟨rfl, trivial⟩⟩
              · obtain rfl : m = j := by simp at h; omega
                rw [vM hF hP hO hw, if_neg (by decide)] at hf
                repeat (first | ((with_reducible refine zJ ?_); refine zK rfl ?_) | ((with_reducible refine zF ?_); refine zE rfl ?_) | ((with_reducible refine zR ?_); refine zk rfl rfl (by omega) ?_)  | refine zL ?_ | refine zB rfl ?_ | with_reducible (first | refine zG ?_ | refine zj ?_ | refine zo ?_ | refine zz ?_) | ((with_reducible refine zg ?_ ?_); rfl) | ((with_reducible refine zA ?_ ?_); kernel_rfl))
                exact ⟨m + 1, ⟨by omega, hf⟩, by omega, ⟨rfl, rfl, rfl, trivial⟩, ⟨rfl, trivial⟩⟩
    · have hlt : ¬ i < L.length := by simpa using h
      rw [List.drop_of_length_le (by omega)] at hf
      repeat (first | ((with_reducible refine zF ?_); refine zE rfl ?_)  | refine zL ?_ | refine zB rfl ?_ | with_reducible (first | refine zG ?_ | refine zj ?_ | refine zH ?_ | refine zz ?_ | refine zN ?_) | ((with_reducible refine zg ?_ ?_); rfl) | ((with_reducible refine zA ?_ ?_); kernel_rfl))
      refine ze (by first | exact .inr rfl | exact .inl rfl) rfl rfl ?_
      rw [← hf]; rfl
theorem pA {L : List Lk} {d : Int} {j : Nat} {x : Lk} (h : L[j]? = some x) (h1 : ¬ x.d = d) : yw (L.drop j) d = yw (L.drop (j + 1)) d := by
  rw [yV h]; unfold yw; rw [List.find?_cons_of_neg (by simpa using h1)]
theorem rG {L : List Lk} {d : Int} {j : Nat} {x : Lk} (h : L[j]? = some x) (h1 : x.d = d) : yw (L.drop j) d = (x.p, true) := by
  rw [yV h]; unfold yw; rw [List.find?_cons_of_pos (by simpa using h1)]
theorem vU (L : List Lk) (d : Int) (hm : L.length ≤ maxLen) : zy Tryz.prog G 94 [.sl 3 (L.map Lk.av), .v (.int .i64 d)] [] (.tu [.v (.int .i64 (yw L d).1), .v (.bool (yw L d).2)]) [] := by
  have hml : L.length ≤ 9223372036854775807 := by unfold maxLen at hm; omega
  refine zd tbOk (zf Tryz.func94 (by kernel_rfl) rfl) Tryz.func94 rfl _ Tryz.ntmps94 (Nat.le_of_ble_eq_true rfl) fun X hX => ?_
  subst hX
  repeat (first | ((with_reducible refine zF ?_); refine zE rfl ?_)  | refine zL ?_ | refine zB rfl ?_ | with_reducible (first | refine zG ?_ | refine zH ?_ | refine zV ?_) | ((with_reducible refine zA ?_ ?_); kernel_rfl))
  refine yJ (ι := Nat) (fun j => j ≤ L.length ∧ yw (L.drop j) d = yw L d) (fun j => L.length - j) (fun v j => [(0, .sl 3 (L.map Lk.av)), (1, .v (.int .i64 d)), (6, .v (.int .i64 j))]) (fun v j => []) ?_ ?_
  · exact ⟨0, ⟨Nat.zero_le _, rfl⟩, trivial, ⟨rfl, rfl, rfl, trivial⟩, trivial⟩
  · rintro v j ⟨hj, hf⟩
    repeat (first | ((with_reducible refine zJ ?_); refine zK rfl ?_) | ((with_reducible refine zq ?_); refine yI tbOk rfl rfl ?_) | ((with_reducible refine zR ?_); refine zS rfl rfl rfl ?_)  | refine zL ?_ | refine zB rfl ?_ | with_reducible (first | refine zG ?_ | refine zH ?_) | ((with_reducible refine zA ?_ ?_); kernel_rfl))
    refine zX rfl (fun h => ?_) (fun h => ?_)
    · have hlt : j < L.length := by simpa using h
      obtain ⟨x, hx⟩ := zc hlt
      have hy := aX hx
      repeat (first | ((with_reducible refine zJ ?_); refine zK rfl ?_) | ((with_reducible refine zM ?_); refine yN tbOk rfl rfl rfl rfl ?_) | ((with_reducible refine zQ ?_); refine zb tbOk rfl rfl rfl ?_) | ((with_reducible refine zY ?_); refine zZ tbOk rfl rfl rfl rfl (by assumption) ?_) | ((with_reducible refine zR ?_); refine zS rfl rfl rfl ?_)  | refine zL ?_ | refine zB rfl ?_ | with_reducible (first | refine zG ?_ | refine zH ?_ | refine zV ?_ | refine zT ?_) | ((with_reducible refine zA ?_ ?_); kernel_rfl))
      refine zX rfl (fun h => ?_) (fun h => ?_)
      · have h1 : x.d = d := by simpa using h
        rw [← hf, rG hx h1]
        repeat (first | ((with_reducible refine zJ ?_); refine zK rfl ?_) | ((with_reducible refine zF ?_); refine zE rfl ?_) | ((with_reducible refine zM ?_); refine yN tbOk rfl rfl rfl rfl ?_) | ((with_reducible refine zQ ?_); refine zb tbOk rfl rfl rfl ?_) | ((with_reducible refine zY ?_); refine zZ tbOk rfl rfl rfl rfl (by assumption) ?_)  | refine zL ?_ | refine zB rfl ?_ | with_reducible (first | refine zG ?_ | refine zP ?_ | refine zU ?_ | refine zH ?_ | refine zN ?_) | ((with_reducible refine zA ?_ ?_); kernel_rfl))
        refine jD (by first | exact .inr rfl | exact .inl rfl) rfl rfl rfl ?_
        repeat' (first | exact trivial | exact Ren.v _ | exact Ren.sl _ _ | exact Ren.ep _ | exact Ren.ptr _ _ _ _ rfl | exact Ren.bs _ _ _ _ _ rfl | exact Ren.nil _ | exact Ren.own _ _ _ _ ⟨_, rfl⟩ | refine zv ?_ | refine zx ?_ | refine zw ?_ | refine ⟨?_, ?_⟩)
      · have h1 : ¬ x.d = d := by simpa using h
        rw [pA hx h1] at hf
        repeat (first | ((with_reducible refine zJ ?_); refine zK rfl ?_) | ((with_reducible refine zF ?_); refine zE rfl ?_) | ((with_reducible refine zR ?_); refine zk rfl rfl (by omega) ?_)  | refine zL ?_ | refine zB rfl ?_ | with_reducible (first | refine zG ?_ | refine zo ?_ | refine zT ?_) | ((with_reducible refine zA ?_ ?_); kernel_rfl))
        exact ⟨j + 1, ⟨by omega, hf⟩, by omega, ⟨rfl, rfl, rfl, trivial⟩, trivial⟩
    · have hlt : ¬ j < L.length := by simpa using h
      rw [← hf, List.drop_of_length_le (by omega)]
      repeat (first | ((with_reducible refine zF ?_); refine zE rfl ?_)  | refine zL ?_ | refine zB rfl ?_ | with_reducible (first | refine zG ?_ | refine zj ?_ | refine zH ?_ | refine zz ?_ | refine zN ?_) | ((with_reducible refine zg ?_ ?_); rfl) | ((with_reducible refine zA ?_ ?_); kernel_rfl))
      refine jD (by first | exact .inr rfl | exact .inl rfl) rfl rfl rfl ?_
      repeat' (first | exact trivial | exact Ren.v _ | exact Ren.sl _ _ | exact Ren.ep _ | exact Ren.ptr _ _ _ _ rfl | exact Ren.bs _ _ _ _ _ rfl | exact Ren.nil _ | exact Ren.own _ _ _ _ ⟨_, rfl⟩ | refine zv ?_ | refine zx ?_ | refine zw ?_ | refine ⟨?_, ?_⟩)
end Go.Proofs.YtjamibeffalhaaaGreatDoor
