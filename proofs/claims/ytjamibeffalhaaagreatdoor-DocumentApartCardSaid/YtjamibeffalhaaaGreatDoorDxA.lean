/- document: kinds, states, positions, heading, fill, and the references' words, by the abstract machine; conditions: none. -/
import Derived.Test.YtjamibeffalhaaaGreatDoorDzP
import Derived.Test.YtjamibeffalhaaaGreatDoorDcC
import Derived.Test.YtjamibeffalhaaaGreatDoorFlA
import Derived.Test.YtjamibeffalhaaaGreatDoorTxB
import Derived.Test.YtjamibeffalhaaaGreatDoorAbsJ
set_option linter.unusedVariables false
set_option linter.unusedSimpArgs false
namespace Go.Proofs.YtjamibeffalhaaaGreatDoor
open Go Go.RowKit
set_option maxRecDepth 10000
variable {G : Nat → Option (List Value)}
theorem kinds_A : zy Tryz.prog G 53 [] [] (.sl 1 (qC.map svL)) [] := by
  refine zf tbOk (zg Tryz.func53 (by kernel_rfl) rfl) Tryz.func53 rfl _ Tryz.ntmps53 (Nat.le_of_ble_eq_true rfl) fun X hX => ?_
  subst hX
  repeat (first | ((with_reducible refine zD ?_); refine zC rfl ?_) | ((with_reducible refine zo ?_); refine zt tbOk rfl rfl rfl rfl rfl (by omega) rfl rfl rfl ?_) | refine zH ?_ | refine zB rfl ?_ | with_reducible refine zE ?_ | with_reducible refine zF ?_ | with_reducible refine zL ?_ | ((with_reducible refine zA ?_ ?_); kernel_rfl))
  refine ret0_1 (by first | exact .inr rfl | exact .inl rfl) rfl rfl ?_
  repeat' (first | exact trivial | exact Ren.v _ | exact Ren.sl _ _ | exact Ren.ep _ | exact Ren.ptr _ _ _ _ rfl | exact Ren.bs _ _ _ _ _ rfl | exact Ren.nil _ | exact Ren.own _ _ _ _ ⟨_, rfl⟩ | refine zP ?_ | refine zQ ?_ | refine zR ?_ | refine ⟨?_, ?_⟩)
theorem states_A : zy Tryz.prog G 55 [] [] (.sl 1 (jX.map svL)) [] := by
  refine zf tbOk (zg Tryz.func55 (by kernel_rfl) rfl) Tryz.func55 rfl _ Tryz.ntmps55 (Nat.le_of_ble_eq_true rfl) fun X hX => ?_
  subst hX
  repeat (first | ((with_reducible refine zD ?_); refine zC rfl ?_) | ((with_reducible refine zo ?_); refine zt tbOk rfl rfl rfl rfl rfl (by omega) rfl rfl rfl ?_) | refine zH ?_ | refine zB rfl ?_ | with_reducible refine zE ?_ | with_reducible refine zF ?_ | with_reducible refine zL ?_ | ((with_reducible refine zA ?_ ?_); kernel_rfl))
  refine ret0_1 (by first | exact .inr rfl | exact .inl rfl) rfl rfl ?_
  repeat' (first | exact trivial | exact Ren.v _ | exact Ren.sl _ _ | exact Ren.ep _ | exact Ren.ptr _ _ _ _ rfl | exact Ren.bs _ _ _ _ _ rfl | exact Ren.nil _ | exact Ren.own _ _ _ _ ⟨_, rfl⟩ | refine zP ?_ | refine zQ ?_ | refine zR ?_ | refine ⟨?_, ?_⟩)
theorem poss_A : zy Tryz.prog G 57 [] [] (.sl 1 (posL.map svL)) [] := by
  refine zf tbOk (zg Tryz.func57 (by kernel_rfl) rfl) Tryz.func57 rfl _ Tryz.ntmps57 (Nat.le_of_ble_eq_true rfl) fun X hX => ?_
  subst hX
  repeat (first | ((with_reducible refine zD ?_); refine zC rfl ?_) | ((with_reducible refine zo ?_); refine zt tbOk rfl rfl rfl rfl rfl (by omega) rfl rfl rfl ?_) | refine zH ?_ | refine zB rfl ?_ | with_reducible refine zE ?_ | with_reducible refine zF ?_ | with_reducible refine zL ?_ | ((with_reducible refine zA ?_ ?_); kernel_rfl))
  refine ret0_1 (by first | exact .inr rfl | exact .inl rfl) rfl rfl ?_
  repeat' (first | exact trivial | exact Ren.v _ | exact Ren.sl _ _ | exact Ren.ep _ | exact Ren.ptr _ _ _ _ rfl | exact Ren.bs _ _ _ _ _ rfl | exact Ren.nil _ | exact Ren.own _ _ _ _ ⟨_, rfl⟩ | refine zP ?_ | refine zQ ?_ | refine zR ?_ | refine ⟨?_, ?_⟩)
theorem heading_A : zy Tryz.prog G 52 [] [] (.sl 1 (jM.map svL)) [] := by
  refine zf tbOk (zg Tryz.func52 (by kernel_rfl) rfl) Tryz.func52 rfl _ Tryz.ntmps52 (Nat.le_of_ble_eq_true rfl) fun X hX => ?_
  subst hX
  repeat (first | ((with_reducible refine zD ?_); refine zC rfl ?_) | ((with_reducible refine zo ?_); refine zt tbOk rfl rfl rfl rfl rfl (by omega) rfl rfl rfl ?_) | refine zH ?_ | refine zB rfl ?_ | with_reducible refine zE ?_ | with_reducible refine zF ?_ | with_reducible refine zL ?_ | ((with_reducible refine zA ?_ ?_); kernel_rfl))
  refine ret0_1 (by first | exact .inr rfl | exact .inl rfl) rfl rfl ?_
  repeat' (first | exact trivial | exact Ren.v _ | exact Ren.sl _ _ | exact Ren.ep _ | exact Ren.ptr _ _ _ _ rfl | exact Ren.bs _ _ _ _ _ rfl | exact Ren.nil _ | exact Ren.own _ _ _ _ ⟨_, rfl⟩ | refine zP ?_ | refine zQ ?_ | refine zR ?_ | refine ⟨?_, ?_⟩)
theorem heading_W : ACallsW Tryz.prog G 52 [] 9 1 (jM.map svL) := by
  refine acallsW_of tbOk (zg Tryz.func52 (by kernel_rfl) rfl) Tryz.func52 rfl _ Tryz.ntmps52 (Nat.le_of_ble_eq_true rfl) fun X hX => ?_
  subst hX
  repeat (first | ((with_reducible refine zD ?_); refine zC rfl ?_) | refine zH ?_ | refine zB rfl ?_ | with_reducible refine zE ?_ | with_reducible refine zF ?_ | ((with_reducible refine zA ?_ ?_); kernel_rfl))
  with_reducible refine zo ?_
  refine jA tbOk rfl rfl rfl rfl rfl (by omega) rfl rfl rfl rfl ?_
  repeat (first | ((with_reducible refine zD ?_); refine zC rfl ?_)  | refine zH ?_ | refine zB rfl ?_ | with_reducible refine zE ?_ | with_reducible refine zL ?_ )
  exact retW (by first | exact .inr rfl | exact .inl rfl) rfl rfl rfl
theorem flat_sv : ∀ L : List (List UInt8), (L.map svL).flatMap AV.cells = L.map svL
  | [] => rfl
  | x :: l => by rw [List.map_cons, List.flatMap_cons, flat_sv l]; rfl
theorem sv_cells (L : List (List UInt8)) : ∀ x ∈ L.map svL, x.cells.length = 1 := by
  intro x hx
  obtain ⟨r, _, rfl⟩ := List.mem_map.1 hx
  rfl
/-- A pattern whose empty places are filled. -/
def jx : List (List UInt8) → List (List UInt8) → List (List UInt8)
  | [], _ => []
  | p :: P, W => if p = [] then (match W with
    | [] => [] :: jx P []
    | w :: W => w :: jx P W) else p :: jx P W
theorem qQ (P W : List (List UInt8)) (w : List UInt8) : jx ([] :: P) (w :: W) = w :: jx P W := by
  show (if ([] : List UInt8) = [] then w :: jx P W else [] :: jx P (w :: W)) = _
  rw [if_pos rfl]
theorem qs {p : List UInt8} (h : ¬ p = []) (P W : List (List UInt8)) : jx (p :: P) W = p :: jx P W := by
  show (if p = [] then _ else p :: jx P W) = _
  rw [if_neg h]
def opens : List (List UInt8) → Nat
  | [] => 0
  | p :: P => (if p = [] then 1 else 0) + opens P
theorem strEq_e (w : List UInt8) : yS (strL w) ⟨#[]⟩ = true ↔ w = [] := jZ w []
set_option maxHeartbeats 4000000 in
theorem fill_J (W : List (List UInt8)) (hW : W.length = 9) (hj : (yh (jx jM W)).length ≤ 1000000) : qh Tryz.prog G 51 [.own (refB + 0) 0, .sl 1 (W.map svL)] [.buf 9 1 (jM.map svL)] (svL (yh (jx jM W))) [.buf 9 1 []] := by
  obtain ⟨H, hH⟩ : ∃ H, H = jM := ⟨_, rfl⟩
  have hH16 : H.length = 16 := by rw [hH]; rfl
  have ho : opens H = 9 := by rw [hH]; rfl
  rw [← hH] at hj ⊢
  obtain ⟨R, hR⟩ : ∃ R, R = jx H W := ⟨_, rfl⟩
  rw [← hR] at hj ⊢
  have hHl : (H.map svL).length = 16 := by simp [hH16]
  clear hH
  refine qN tbOk (zg Tryz.func51 (by kernel_rfl) rfl) Tryz.func51 rfl _ Tryz.ntmps51 (Nat.le_of_ble_eq_true rfl) fun X hX => ?_
  subst hX
  repeat (first | ((with_reducible refine zJ ?_); refine zI rfl ?_) | ((with_reducible refine zD ?_); refine zC rfl ?_) | ((with_reducible refine yA ?_); refine x_len_own tbOk rfl rfl rfl rfl ?_)  | refine zH ?_ | refine zB rfl ?_ | with_reducible refine zE ?_ | with_reducible refine zF ?_ | with_reducible refine zY ?_ | ((with_reducible refine zA ?_ ?_); kernel_rfl))
  refine jI (ι := Nat × List (List UInt8) × List (List UInt8)) (fun v i => i.1 ≤ 16 ∧ i.2.1.length = i.1 ∧ opens (H.drop i.1) ≤ i.2.2.length ∧ i.2.1 ++ jx (H.drop i.1) i.2.2 = R) (fun i => 16 - i.1) (fun v i => [(0, .own (refB + 0) (v (refB + 0))), (1, .sl 1 (i.2.2.map svL)), (7, .own (refB + 0) (v (refB + 0))), (8, .v (.int .i64 (H.map svL).length)), (9, .v (.int .i64 (i.1 : Nat)))]) (fun v i => [(refB + 0, .buf 9 1 ((i.2.1 ++ H.drop i.1).map svL))]) ?_ ?_
  · exact ⟨(0, [], W), ⟨Nat.zero_le _, rfl, by show opens H ≤ W.length; omega, by show [] ++ jx H W = R; rw [hR]; rfl⟩, trivial, ⟨rfl, rfl, rfl, rfl, rfl, trivial⟩, ⟨rfl, trivial⟩⟩
  rintro v ⟨k, A, U⟩ ⟨hk, hA, hO, hf⟩
  dsimp only at hk hA hO hf ⊢
  rw [hHl]
  repeat (first | ((with_reducible refine zS ?_); refine zT rfl rfl rfl ?_)  | refine zH ?_ | refine zB rfl ?_ | with_reducible refine zE ?_ | with_reducible refine zF ?_ | ((with_reducible refine zA ?_ ?_); kernel_rfl))
  refine zZ rfl (fun h => ?_) (fun h => ?_)
  · have hlt : k < 16 := by simp at h; omega
    obtain ⟨p, hp⟩ := zc (L := H) (k := k) (by omega)
    rw [yT hp] at hO hf
    have hll : ((A ++ H.drop k).map svL).length = 16 := by simp; omega
    have hAp : (A ++ H.drop k)[k]? = some p := by rw [List.getElem?_append_right (by omega), hA, Nat.sub_self, yT hp]; rfl
    have hfl : (((A ++ H.drop k).map svL).flatMap AV.cells).length = 16 := by rw [flat_sv]; exact hll
    repeat (first | ((with_reducible refine zJ ?_); refine zI rfl ?_)  | refine zB rfl ?_ | with_reducible refine zE ?_ | with_reducible refine zF ?_ | with_reducible refine zY ?_ | with_reducible refine zU ?_ | ((with_reducible refine zA ?_ ?_); kernel_rfl))
    with_reducible refine zb ?_
    refine jg tbOk rfl rfl rfl rfl rfl rfl ⟨by omega, by omega⟩ ?_
    repeat (first   | refine zB rfl ?_  )
    with_reducible refine zO ?_
    refine x_load_po_one (y := svL p) tbOk rfl rfl rfl rfl ?_ (by omega) ?_
    · rw [flat_sv, Int.toNat_natCast, Nat.mul_one]; exact sv_at hAp
    repeat (first | ((with_reducible refine zJ ?_); refine zI rfl ?_) | ((with_reducible refine zD ?_); refine zC rfl ?_) | ((with_reducible refine zS ?_); refine jB rfl rfl rfl ?_)  | refine zH ?_ | refine zB rfl ?_ | with_reducible refine zE ?_ | with_reducible refine zF ?_ | ((with_reducible refine zA ?_ ?_); kernel_rfl))
    refine zZ rfl (fun q => ?_) (fun q => ?_)
    · have hp0 : p = [] := (strEq_e p).1 q
      rw [opens, if_pos hp0] at hO
      cases U with
      | nil => simp at hO
      | cons u U =>
        subst hp0
        rw [qQ] at hf
        have hz : ((u :: U).map svL)[(0 : Int).toNat]? = some (svL u) := rfl
        have hul : ((u :: U).map svL).length = U.length + 1 := by simp
        repeat (first | ((with_reducible refine zJ ?_); refine zI rfl ?_) | ((with_reducible refine zO ?_); refine ze tbOk rfl rfl rfl ?_) | ((with_reducible refine zb ?_); refine zd tbOk rfl rfl rfl rfl (by assumption) ?_) | ((with_reducible refine qg ?_); refine x_slice tbOk rfl rfl rfl rfl rfl (by refine ⟨?_, ?_, ?_⟩ <;> omega) ?_)  | refine zB rfl ?_  | ((with_reducible refine yW mixd ?_ ?_); kernel_rfl))
        with_reducible refine zb ?_
        refine jg tbOk rfl rfl rfl rfl rfl rfl ⟨by omega, by omega⟩ ?_
        repeat (first   | refine zB rfl ?_  )
        with_reducible refine zu ?_
        refine x_store_po (L' := (((A ++ [u]) ++ H.drop (k + 1)).map svL)) tbOk rfl rfl rfl rfl rfl rfl rfl rfl rfl (by rw [hfl, Int.toNat_natCast]; omega) (by rw [hll]; simp; omega) (sv_cells _) ?_ ?_
        · have e : ((A ++ [u]) ++ H.drop (k + 1)).map svL = ((A ++ H.drop k).map svL).set k (svL u) := by
            rw [yT hp, List.map_append, List.map_append, List.map_append, List.map_cons, List.set_append_right _ _ (by simp; omega)]
            simp [hA]
          rw [e, flat_set (sz := 1) _ k (svL u) (sv_cells _) rfl (by omega), Int.toNat_natCast]
          rfl
        repeat (first | ((with_reducible refine zJ ?_); refine zI rfl ?_) | ((with_reducible refine zD ?_); refine zC rfl ?_) | ((with_reducible refine zS ?_); refine zl rfl rfl (by omega) ?_)  | refine zH ?_ | refine yg (by kernel_rfl) ?_ | refine zB rfl ?_ | with_reducible refine zE ?_ | with_reducible refine zq ?_ | ((with_reducible refine zA ?_ ?_); kernel_rfl))
        exact ⟨(k + 1, A ++ [u], U), ⟨by show k + 1 ≤ 16; omega, by simp; omega, by simp only [List.length_cons] at hO; show opens (H.drop (k + 1)) ≤ U.length; omega, by show (A ++ [u]) ++ jx (H.drop (k + 1)) U = R; rw [List.append_assoc]; exact hf⟩, by show 16 - (k + 1) < 16 - k; omega, ⟨rfl, congrArg (AV.sl 1) (by rw [Int.toNat_natCast, List.take_length]; rfl), rfl, rfl, rfl, trivial⟩, ⟨rfl, trivial⟩⟩
    · have hp0 : ¬ p = [] := fun e => by
        have q2 : yS (strL p) ⟨#[]⟩ = false := q
        rw [(strEq_e p).2 e] at q2; cases q2
      rw [opens, if_neg hp0] at hO
      rw [qs hp0] at hf
      repeat (first | ((with_reducible refine zJ ?_); refine zI rfl ?_) | ((with_reducible refine zS ?_); refine zl rfl rfl (by omega) ?_)  | refine zH ?_ | refine zB rfl ?_ | with_reducible refine zE ?_ | with_reducible refine zq ?_ | with_reducible refine zU ?_ | ((with_reducible refine zA ?_ ?_); kernel_rfl))
      exact ⟨(k + 1, A ++ [p], U), ⟨by show k + 1 ≤ 16; omega, by simp; omega, by show opens (H.drop (k + 1)) ≤ U.length; omega, by show (A ++ [p]) ++ jx (H.drop (k + 1)) U = R; rw [List.append_assoc]; exact hf⟩, by show 16 - (k + 1) < 16 - k; omega, ⟨rfl, rfl, rfl, rfl, rfl, trivial⟩, ⟨hc_buf (by rw [yT hp, List.append_assoc]; rfl), trivial⟩⟩
  · have hge : k = 16 := by simp at h; omega
    subst hge
    rw [List.drop_of_length_le (by omega)] at hf ⊢
    rw [jx] at hf
    rw [← hf] at hj ⊢
    repeat (first   | with_reducible refine zE ?_ | with_reducible refine zm ?_ | with_reducible refine zF ?_ | with_reducible refine yB ?_ | ((with_reducible refine zh ?_ ?_); rfl))
    refine yU (s := refB + 0) [(0, .sl 1 ((A ++ []).map svL))] [] rfl ⟨.inl (.inr ⟨rfl, rfl⟩), trivial⟩ trivial ?_
    refine jk (s := 901) 9 1 [] [] rfl trivial trivial ?_
    repeat (first | ((with_reducible refine zJ ?_); refine zI rfl ?_)  | refine zB rfl ?_  | ((with_reducible refine zA ?_ ?_); kernel_rfl))
    refine zj (jn_A (A ++ []) (by simp; omega) (by omega)) (by repeat' (first | exact trivial | exact Ren.v _ | exact Ren.sl _ _ | exact Ren.ep _ | exact Ren.ptr _ _ _ _ rfl | exact Ren.bs _ _ _ _ _ rfl | exact Ren.nil _ | exact Ren.own _ _ _ _ ⟨_, rfl⟩ | refine zP ?_ | refine zQ ?_ | refine zR ?_ | refine ⟨?_, ?_⟩)) (by repeat' (first | exact trivial | exact RenB.v _ | exact RenB.sl _ _ | exact RenB.ep _ | exact RenB.ptr _ _ _ _ rfl | refine zW ?_ | refine zV ?_ | refine ⟨?_, ?_⟩)) ?_
    repeat (first | ((with_reducible refine zD ?_); refine zC rfl ?_)  | refine zH ?_ | refine zB rfl ?_ | with_reducible refine zE ?_ | with_reducible refine zL ?_ )
    refine retJ (by first | exact .inr rfl | exact .inl rfl) (xs := [svL (yh (A ++ []))]) (fs := [(901, v 901 + 1)]) ?_ (by simp) (Ren.v _) ⟨rfl, trivial⟩
    exact ⟨.tmp _, trivial⟩
end Go.Proofs.YtjamibeffalhaaaGreatDoor
