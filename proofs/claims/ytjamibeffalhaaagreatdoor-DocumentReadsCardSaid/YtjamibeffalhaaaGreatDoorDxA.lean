/- document: kinds, states, positions, heading, fill, and the references' words, by the abstract machine; conditions: none. -/
import Derived.Test.YtjamibeffalhaaaGreatDoorDzP
import Derived.Test.YtjamibeffalhaaaGreatDoorDcC
import Derived.Test.YtjamibeffalhaaaGreatDoorTxB
import Derived.Test.YtjamibeffalhaaaGreatDoorAbsJ
set_option linter.unusedVariables false
set_option linter.unusedSimpArgs false
namespace Go.Proofs.YtjamibeffalhaaaGreatDoor
open Go Go.RowKit
set_option maxRecDepth 10000
variable {G : Nat → Option (List Value)}
theorem sW : zz Tryz.prog G 53 [] [] (.sl 1 (yx.map svL)) [] := by
  refine zb tbOk (zc Tryz.func53 (by kernel_rfl) rfl) Tryz.func53 rfl _ Tryz.ntmps53 (Nat.le_of_ble_eq_true rfl) fun X hX => ?_
  subst hX
  repeat (first | ((with_reducible refine zE ?_); refine zF rfl ?_) | ((with_reducible refine zr ?_); refine zx tbOk rfl rfl rfl rfl rfl (by omega) rfl rfl rfl ?_) | refine zL ?_ | refine zB rfl ?_ | with_reducible (first | refine zG ?_ | refine zH ?_ | refine zN ?_) | ((with_reducible refine zA ?_ ?_); kernel_rfl))
  refine dB (by first | exact .inr rfl | exact .inl rfl) rfl rfl ?_
  repeat' (first | exact trivial | exact Ren.v _ | exact Ren.sl _ _ | exact Ren.ep _ | exact Ren.ptr _ _ _ _ rfl | exact Ren.bs _ _ _ _ _ rfl | exact Ren.nil _ | exact Ren.own _ _ _ _ ⟨_, rfl⟩ | refine zi ?_ | refine zj ?_ | refine zl ?_ | refine ⟨?_, ?_⟩)
theorem oY : zz Tryz.prog G 55 [] [] (.sl 1 (yn.map svL)) [] := by
  refine zb tbOk (zc Tryz.func55 (by kernel_rfl) rfl) Tryz.func55 rfl _ Tryz.ntmps55 (Nat.le_of_ble_eq_true rfl) fun X hX => ?_
  subst hX
  repeat (first | ((with_reducible refine zE ?_); refine zF rfl ?_) | ((with_reducible refine zr ?_); refine zx tbOk rfl rfl rfl rfl rfl (by omega) rfl rfl rfl ?_) | refine zL ?_ | refine zB rfl ?_ | with_reducible (first | refine zG ?_ | refine zH ?_ | refine zN ?_) | ((with_reducible refine zA ?_ ?_); kernel_rfl))
  refine dB (by first | exact .inr rfl | exact .inl rfl) rfl rfl ?_
  repeat' (first | exact trivial | exact Ren.v _ | exact Ren.sl _ _ | exact Ren.ep _ | exact Ren.ptr _ _ _ _ rfl | exact Ren.bs _ _ _ _ _ rfl | exact Ren.nil _ | exact Ren.own _ _ _ _ ⟨_, rfl⟩ | refine zi ?_ | refine zj ?_ | refine zl ?_ | refine ⟨?_, ?_⟩)
theorem poss_A : zz Tryz.prog G 57 [] [] (.sl 1 (posL.map svL)) [] := by
  refine zb tbOk (zc Tryz.func57 (by kernel_rfl) rfl) Tryz.func57 rfl _ Tryz.ntmps57 (Nat.le_of_ble_eq_true rfl) fun X hX => ?_
  subst hX
  repeat (first | ((with_reducible refine zE ?_); refine zF rfl ?_) | ((with_reducible refine zr ?_); refine zx tbOk rfl rfl rfl rfl rfl (by omega) rfl rfl rfl ?_) | refine zL ?_ | refine zB rfl ?_ | with_reducible (first | refine zG ?_ | refine zH ?_ | refine zN ?_) | ((with_reducible refine zA ?_ ?_); kernel_rfl))
  refine dB (by first | exact .inr rfl | exact .inl rfl) rfl rfl ?_
  repeat' (first | exact trivial | exact Ren.v _ | exact Ren.sl _ _ | exact Ren.ep _ | exact Ren.ptr _ _ _ _ rfl | exact Ren.bs _ _ _ _ _ rfl | exact Ren.nil _ | exact Ren.own _ _ _ _ ⟨_, rfl⟩ | refine zi ?_ | refine zj ?_ | refine zl ?_ | refine ⟨?_, ?_⟩)
theorem uP : zz Tryz.prog G 52 [] [] (.sl 1 (yS.map svL)) [] := by
  refine zb tbOk (zc Tryz.func52 (by kernel_rfl) rfl) Tryz.func52 rfl _ Tryz.ntmps52 (Nat.le_of_ble_eq_true rfl) fun X hX => ?_
  subst hX
  repeat (first | ((with_reducible refine zE ?_); refine zF rfl ?_) | ((with_reducible refine zr ?_); refine zx tbOk rfl rfl rfl rfl rfl (by omega) rfl rfl rfl ?_) | refine zL ?_ | refine zB rfl ?_ | with_reducible (first | refine zG ?_ | refine zH ?_ | refine zN ?_) | ((with_reducible refine zA ?_ ?_); kernel_rfl))
  refine dB (by first | exact .inr rfl | exact .inl rfl) rfl rfl ?_
  repeat' (first | exact trivial | exact Ren.v _ | exact Ren.sl _ _ | exact Ren.ep _ | exact Ren.ptr _ _ _ _ rfl | exact Ren.bs _ _ _ _ _ rfl | exact Ren.nil _ | exact Ren.own _ _ _ _ ⟨_, rfl⟩ | refine zi ?_ | refine zj ?_ | refine zl ?_ | refine ⟨?_, ?_⟩)
theorem rB : zz Tryz.prog G 32 [] [] (.sl 1 (yx.map svL)) [] := by
  refine zb tbOk (zc Tryz.func32 (by kernel_rfl) rfl) Tryz.func32 rfl _ Tryz.ntmps32 (Nat.le_of_ble_eq_true rfl) fun X hX => ?_
  subst hX
  repeat (first | ((with_reducible refine zE ?_); refine zF rfl ?_) | ((with_reducible refine zr ?_); refine zx tbOk rfl rfl rfl rfl rfl (by omega) rfl rfl rfl ?_) | refine zL ?_ | refine zB rfl ?_ | with_reducible (first | refine zG ?_ | refine zH ?_ | refine zN ?_) | ((with_reducible refine zA ?_ ?_); kernel_rfl))
  refine dB (by first | exact .inr rfl | exact .inl rfl) rfl rfl ?_
  repeat' (first | exact trivial | exact Ren.v _ | exact Ren.sl _ _ | exact Ren.ep _ | exact Ren.ptr _ _ _ _ rfl | exact Ren.bs _ _ _ _ _ rfl | exact Ren.nil _ | exact Ren.own _ _ _ _ ⟨_, rfl⟩ | refine zi ?_ | refine zj ?_ | refine zl ?_ | refine ⟨?_, ?_⟩)
theorem mI : zz Tryz.prog G 34 [] [] (.sl 1 (yn.map svL)) [] := by
  refine zb tbOk (zc Tryz.func34 (by kernel_rfl) rfl) Tryz.func34 rfl _ Tryz.ntmps34 (Nat.le_of_ble_eq_true rfl) fun X hX => ?_
  subst hX
  repeat (first | ((with_reducible refine zE ?_); refine zF rfl ?_) | ((with_reducible refine zr ?_); refine zx tbOk rfl rfl rfl rfl rfl (by omega) rfl rfl rfl ?_) | refine zL ?_ | refine zB rfl ?_ | with_reducible (first | refine zG ?_ | refine zH ?_ | refine zN ?_) | ((with_reducible refine zA ?_ ?_); kernel_rfl))
  refine dB (by first | exact .inr rfl | exact .inl rfl) rfl rfl ?_
  repeat' (first | exact trivial | exact Ren.v _ | exact Ren.sl _ _ | exact Ren.ep _ | exact Ren.ptr _ _ _ _ rfl | exact Ren.bs _ _ _ _ _ rfl | exact Ren.nil _ | exact Ren.own _ _ _ _ ⟨_, rfl⟩ | refine zi ?_ | refine zj ?_ | refine zl ?_ | refine ⟨?_, ?_⟩)
theorem uJ : nO Tryz.prog G 52 [] 9 1 (yS.map svL) := by
  refine sK tbOk (zc Tryz.func52 (by kernel_rfl) rfl) Tryz.func52 rfl _ Tryz.ntmps52 (Nat.le_of_ble_eq_true rfl) fun X hX => ?_
  subst hX
  repeat (first | ((with_reducible refine zE ?_); refine zF rfl ?_) | refine zL ?_ | refine zB rfl ?_ | with_reducible (first | refine zG ?_ | refine zH ?_) | ((with_reducible refine zA ?_ ?_); kernel_rfl))
  with_reducible refine zr ?_
  refine jR tbOk rfl rfl rfl rfl rfl (by omega) rfl rfl rfl rfl ?_
  repeat (first | ((with_reducible refine zE ?_); refine zF rfl ?_)  | refine zL ?_ | refine zB rfl ?_ | with_reducible (first | refine zG ?_ | refine zN ?_) )
  exact retW (by first | exact .inr rfl | exact .inl rfl) rfl rfl rfl
theorem nX : ∀ L : List (List UInt8), (L.map svL).flatMap AV.cells = L.map svL
  | [] => rfl
  | x :: l => by rw [List.map_cons, List.flatMap_cons, nX l]; rfl
theorem oZ (L : List (List UInt8)) : ∀ x ∈ L.map svL, x.cells.length = 1 := by
  intro x hx
  obtain ⟨r, _, rfl⟩ := List.mem_map.1 hx
  rfl
/-- A pattern whose empty places are filled. -/
def qV : List (List UInt8) → List (List UInt8) → List (List UInt8)
  | [], _ => []
  | p :: P, W => if p = [] then (match W with
    | [] => [] :: qV P []
    | w :: W => w :: qV P W) else p :: qV P W
theorem qj (P W : List (List UInt8)) (w : List UInt8) : qV ([] :: P) (w :: W) = w :: qV P W := by
  show (if ([] : List UInt8) = [] then w :: qV P W else [] :: qV P (w :: W)) = _
  rw [if_pos rfl]
theorem aR {p : List UInt8} (h : ¬ p = []) (P W : List (List UInt8)) : qV (p :: P) W = p :: qV P W := by
  show (if p = [] then _ else p :: qV P W) = _
  rw [if_neg h]
def cF : List (List UInt8) → Nat
  | [] => 0
  | p :: P => (if p = [] then 1 else 0) + cF P
theorem iG (w : List UInt8) : yI (strL w) ⟨#[]⟩ = true ↔ w = [] := jZ w []
set_option maxHeartbeats 4000000 in
theorem fill_J (W : List (List UInt8)) (hW : W.length = 9) (hj : (yl (qV yS W)).length ≤ 1000000) : qw Tryz.prog G 51 [.own (refB + 0) 0, .sl 1 (W.map svL)] [.buf 9 1 (yS.map svL)] (svL (yl (qV yS W))) [.buf 9 1 []] := by
  obtain ⟨H, hH⟩ : ∃ H, H = yS := ⟨_, rfl⟩
  have hH16 : H.length = 16 := by rw [hH]; rfl
  have ho : cF H = 9 := by rw [hH]; rfl
  rw [← hH] at hj ⊢
  obtain ⟨R, hR⟩ : ∃ R, R = qV H W := ⟨_, rfl⟩
  rw [← hR] at hj ⊢
  have hHl : (H.map svL).length = 16 := by simp [hH16]
  clear hH
  refine qe tbOk (zc Tryz.func51 (by kernel_rfl) rfl) Tryz.func51 rfl _ Tryz.ntmps51 (Nat.le_of_ble_eq_true rfl) fun X hX => ?_
  subst hX
  repeat (first | ((with_reducible refine zK ?_); refine zJ rfl ?_) | ((with_reducible refine zE ?_); refine zF rfl ?_) | ((with_reducible refine zt ?_); refine aC tbOk rfl rfl rfl rfl ?_)  | refine zL ?_ | refine zB rfl ?_ | with_reducible (first | refine zG ?_ | refine zH ?_ | refine zY ?_) | ((with_reducible refine zA ?_ ?_); kernel_rfl))
  refine jg (ι := Nat × List (List UInt8) × List (List UInt8)) (fun v i => i.1 ≤ 16 ∧ i.2.1.length = i.1 ∧ cF (H.drop i.1) ≤ i.2.2.length ∧ i.2.1 ++ qV (H.drop i.1) i.2.2 = R) (fun i => 16 - i.1) (fun v i => [(0, .own (refB + 0) (v (refB + 0))), (1, .sl 1 (i.2.2.map svL)), (7, .own (refB + 0) (v (refB + 0))), (8, .v (.int .i64 (H.map svL).length)), (9, .v (.int .i64 (i.1 : Nat)))]) (fun v i => [(refB + 0, .buf 9 1 ((i.2.1 ++ H.drop i.1).map svL))]) ?_ ?_
  · exact ⟨(0, [], W), ⟨Nat.zero_le _, rfl, by show cF H ≤ W.length; omega, by show [] ++ qV H W = R; rw [hR]; rfl⟩, trivial, ⟨rfl, rfl, rfl, rfl, rfl, trivial⟩, ⟨rfl, trivial⟩⟩
  rintro v ⟨k, A, U⟩ ⟨hk, hA, hO, hf⟩
  dsimp only at hk hA hO hf ⊢
  rw [hHl]
  repeat (first | ((with_reducible refine zQ ?_); refine zT rfl rfl rfl ?_)  | refine zL ?_ | refine zB rfl ?_ | with_reducible (first | refine zG ?_ | refine zH ?_) | ((with_reducible refine zA ?_ ?_); kernel_rfl))
  refine zZ rfl (fun h => ?_) (fun h => ?_)
  · have hlt : k < 16 := by simp at h; omega
    obtain ⟨p, hp⟩ := zd (L := H) (k := k) (by omega)
    rw [yT hp] at hO hf
    have hll : ((A ++ H.drop k).map svL).length = 16 := by simp; omega
    have hAp : (A ++ H.drop k)[k]? = some p := by rw [List.getElem?_append_right (by omega), hA, Nat.sub_self, yT hp]; rfl
    have hfl : (((A ++ H.drop k).map svL).flatMap AV.cells).length = 16 := by rw [nX]; exact hll
    repeat (first | ((with_reducible refine zK ?_); refine zJ rfl ?_)  | refine zB rfl ?_ | with_reducible (first | refine zG ?_ | refine zH ?_ | refine zY ?_ | refine zS ?_) | ((with_reducible refine zA ?_ ?_); kernel_rfl))
    with_reducible refine zU ?_
    refine qH tbOk rfl rfl rfl rfl rfl rfl ⟨by omega, by omega⟩ ?_
    repeat (first   | refine zB rfl ?_  )
    with_reducible refine zR ?_
    refine kW (y := svL p) tbOk rfl rfl rfl rfl ?_ (by omega) ?_
    · rw [nX, Int.toNat_natCast, Nat.mul_one]; exact dY hAp
    repeat (first | ((with_reducible refine zK ?_); refine zJ rfl ?_) | ((with_reducible refine zE ?_); refine zF rfl ?_) | ((with_reducible refine zQ ?_); refine yh rfl rfl rfl ?_)  | refine zL ?_ | refine zB rfl ?_ | with_reducible (first | refine zG ?_ | refine zH ?_) | ((with_reducible refine zA ?_ ?_); kernel_rfl))
    refine zZ rfl (fun q => ?_) (fun q => ?_)
    · have hp0 : p = [] := (iG p).1 q
      rw [cF, if_pos hp0] at hO
      cases U with
      | nil => simp at hO
      | cons u U =>
        subst hp0
        rw [qj] at hf
        have hz : ((u :: U).map svL)[(0 : Int).toNat]? = some (svL u) := rfl
        have hul : ((u :: U).map svL).length = U.length + 1 := by simp
        repeat (first | ((with_reducible refine zK ?_); refine zJ rfl ?_) | ((with_reducible refine zR ?_); refine zW tbOk rfl rfl rfl ?_) | ((with_reducible refine zU ?_); refine zX tbOk rfl rfl rfl rfl (by assumption) ?_) | ((with_reducible refine jz ?_); refine dN tbOk rfl rfl rfl rfl rfl (by refine ⟨?_, ?_, ?_⟩ <;> omega) ?_)  | refine zB rfl ?_  | ((with_reducible refine yZ mixd ?_ ?_); kernel_rfl))
        with_reducible refine zU ?_
        refine qH tbOk rfl rfl rfl rfl rfl rfl ⟨by omega, by omega⟩ ?_
        repeat (first   | refine zB rfl ?_  )
        with_reducible refine zp ?_
        refine eQ (L' := (((A ++ [u]) ++ H.drop (k + 1)).map svL)) tbOk rfl rfl rfl rfl rfl rfl rfl rfl rfl (by rw [hfl, Int.toNat_natCast]; omega) (by rw [hll]; simp; omega) (oZ _) ?_ ?_
        · have e : ((A ++ [u]) ++ H.drop (k + 1)).map svL = ((A ++ H.drop k).map svL).set k (svL u) := by
            rw [yT hp, List.map_append, List.map_append, List.map_append, List.map_cons, List.set_append_right _ _ (by simp; omega)]
            simp [hA]
          rw [e, flat_set (sz := 1) _ k (svL u) (oZ _) rfl (by omega), Int.toNat_natCast]
          rfl
        repeat (first | ((with_reducible refine zK ?_); refine zJ rfl ?_) | ((with_reducible refine zE ?_); refine zF rfl ?_) | ((with_reducible refine zQ ?_); refine zg rfl rfl (by omega) ?_)  | refine zL ?_ | refine yf (by kernel_rfl) ?_ | refine zB rfl ?_ | with_reducible (first | refine zG ?_ | refine zu ?_) | ((with_reducible refine zA ?_ ?_); kernel_rfl))
        exact ⟨(k + 1, A ++ [u], U), ⟨by show k + 1 ≤ 16; omega, by simp; omega, by simp only [List.length_cons] at hO; show cF (H.drop (k + 1)) ≤ U.length; omega, by show (A ++ [u]) ++ qV (H.drop (k + 1)) U = R; rw [List.append_assoc]; exact hf⟩, by show 16 - (k + 1) < 16 - k; omega, ⟨rfl, congrArg (AV.sl 1) (by rw [Int.toNat_natCast, List.take_length]; rfl), rfl, rfl, rfl, trivial⟩, ⟨rfl, trivial⟩⟩
    · have hp0 : ¬ p = [] := fun e => by
        have q2 : yI (strL p) ⟨#[]⟩ = false := q
        rw [(iG p).2 e] at q2; cases q2
      rw [cF, if_neg hp0] at hO
      rw [aR hp0] at hf
      repeat (first | ((with_reducible refine zK ?_); refine zJ rfl ?_) | ((with_reducible refine zQ ?_); refine zg rfl rfl (by omega) ?_)  | refine zL ?_ | refine zB rfl ?_ | with_reducible (first | refine zG ?_ | refine zu ?_ | refine zS ?_) | ((with_reducible refine zA ?_ ?_); kernel_rfl))
      exact ⟨(k + 1, A ++ [p], U), ⟨by show k + 1 ≤ 16; omega, by simp; omega, by show cF (H.drop (k + 1)) ≤ U.length; omega, by show (A ++ [p]) ++ qV (H.drop (k + 1)) U = R; rw [List.append_assoc]; exact hf⟩, by show 16 - (k + 1) < 16 - k; omega, ⟨rfl, rfl, rfl, rfl, rfl, trivial⟩, ⟨jr (by rw [yT hp, List.append_assoc]; rfl), trivial⟩⟩
  · have hge : k = 16 := by simp at h; omega
    subst hge
    rw [List.drop_of_length_le (by omega)] at hf ⊢
    rw [qV] at hf
    rw [← hf] at hj ⊢
    repeat (first   | with_reducible (first | refine zG ?_ | refine zo ?_ | refine zH ?_ | refine yB ?_) | ((with_reducible refine ze ?_ ?_); rfl))
    refine yi (s := refB + 0) [(0, .sl 1 ((A ++ []).map svL))] [] rfl ⟨.inl (.inr ⟨rfl, rfl⟩), trivial⟩ trivial ?_
    refine jb (s := 901) 9 1 [] [] rfl trivial trivial ?_
    repeat (first | ((with_reducible refine zK ?_); refine zJ rfl ?_)  | refine zB rfl ?_  | ((with_reducible refine zA ?_ ?_); kernel_rfl))
    refine zC (jn_A (A ++ []) (by simp; omega) (by omega)) ?_
    repeat (first | ((with_reducible refine zE ?_); refine zF rfl ?_)  | refine zL ?_ | refine zB rfl ?_ | with_reducible (first | refine zG ?_ | refine zN ?_) )
    refine retJ (by first | exact .inr rfl | exact .inl rfl) (xs := [svL (yl (A ++ []))]) (fs := [(901, v 901 + 1)]) ?_ (by simp) (Ren.v _) ⟨rfl, trivial⟩
    exact ⟨.tmp _, trivial⟩
end Go.Proofs.YtjamibeffalhaaaGreatDoor
