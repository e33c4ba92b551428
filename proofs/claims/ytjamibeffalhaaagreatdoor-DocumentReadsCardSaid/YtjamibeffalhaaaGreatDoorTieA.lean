/- permitofficefield.Tie, by the abstract machine; conditions: none. -/
import Derived.Test.YtjamibeffalhaaaGreatDoorAbsX
import Derived.Test.YtjamibeffalhaaaGreatDoorAbsZ
import Derived.Test.YtjamibeffalhaaaGreatDoorNetA
set_option linter.unusedVariables false
set_option linter.unusedSimpArgs false
namespace Go.Proofs.YtjamibeffalhaaaGreatDoor
open Go Go.RowKit
set_option maxRecDepth 10000
variable {G : Nat → Option (List Value)}
theorem uO {z : Int} (h0 : 0 ≤ z) (h1 : z < 2) : ([.v (.int .i64 1), .v (.int .i64 3)] : List AV)[z.toNat]? = some (.v (.int .i64 (gK z))) := by
  obtain rfl | rfl : z = 0 ∨ z = 1 := by omega
  · rfl
  · rfl
set_option maxHeartbeats 4000000 in
theorem tie_A (D : Dk) (hD : DkOk D) : zz Tryz.prog G 11 [.ptr (refB + 0) 0 0] [D.cells] (.tu [.ag [.sl 3 ((bF D).map Nd.av), .sl 5 ((qK D).map Dv.av)], .sl 1 ((tieSs D).map iv)]) [(tieD D).cells] := by
  refine zb tbOk (zc Tryz.func11 (by kernel_rfl) rfl) Tryz.func11 rfl _ Tryz.ntmps11 (Nat.le_of_ble_eq_true rfl) fun X hX => ?_
  subst hX
  repeat (first | ((with_reducible refine zE ?_); refine zF rfl ?_) | ((with_reducible refine yR ?_); refine yQ tbOk rfl rfl ?_)  | refine zL ?_ | refine zB rfl ?_ | with_reducible (first | refine zG ?_ | refine zH ?_ | refine zY ?_) | ((with_reducible refine zA ?_ ?_); kernel_rfl))
  refine jb (s := 32) 61 3 [] [(4, [.own 32 1, .v (.slice none 0 0)])] rfl trivial ⟨⟨_, _, rfl, .hit (.same .nil)⟩, trivial⟩ ?_
  refine jg (ι := Nat × Nat × Dk × List Nd) (fun v i => v (refB + 0) = 0 ∧ DkOk i.2.2.1 ∧ i.1 + i.2.1 = 6 ∧ i.2.2.2.length = i.2.1 ∧ tieN i.1 i.2.1 i.2.2.1 i.2.2.2 = tieN 6 0 D []) (fun i => i.1) (fun v i => [(0, .ptr (refB + 0) (v (refB + 0)) 0), (2, .ptr 2 (v 2) 0), (3, .v (.slice none 0 0)), (4, .ptr 4 (v 4) 0), (5, .v (.int .i64 (i.2.1 : Nat)))]) (fun v i => [(refB + 0, .box i.2.2.1.cells), (2, .box [.v (.slice none 0 0), .v (.slice none 0 0)]), (4, .box [.own 32 (v 32), .v (.slice none 0 0)]), (32, .buf 61 3 (i.2.2.2.map Nd.av))]) ?_ ?_
  · exact ⟨(6, 0, D, []), ⟨rfl, hD, rfl, rfl, rfl⟩, trivial, ⟨rfl, rfl, rfl, rfl, rfl, trivial⟩, ⟨rfl, rfl, rfl, rfl, trivial⟩⟩
  · rintro v ⟨m, i, E, L⟩ ⟨hv0, hE, hmi, hl, hf⟩
    simp only at hv0 hE hmi hl hf
    dsimp only
    repeat (first | ((with_reducible refine zK ?_); refine zJ rfl ?_) | ((with_reducible refine zQ ?_); refine zT rfl rfl rfl ?_)  | refine zL ?_ | refine zB rfl ?_ | with_reducible (first | refine zG ?_ | refine zH ?_) | ((with_reducible refine zA ?_ ?_); kernel_rfl))
    refine zZ rfl (fun h => ?_) (fun h => ?_)
    · obtain ⟨m, rfl⟩ : ∃ k, m = k + 1 := ⟨m - 1, by simp at h; omega⟩
      have e3 : IntKind.i64.wrap ((i : Int).tdiv 3) = ((i / 3 : Nat) : Int) := by
        rw [Int.tdiv_eq_ediv_of_nonneg (by omega), yg (by omega)]
        omega
      have hi6 : 0 ≤ IntKind.i64.wrap ((i : Int).tdiv 3) ∧ IntKind.i64.wrap ((i : Int).tdiv 3) ≤ 6 := by rw [e3]; omega
      repeat (first | ((with_reducible refine zK ?_); refine zJ rfl ?_) | ((with_reducible refine jS ?_); refine qM tbOk rfl rfl rfl (by first | assumption | exact jQ (by omega) | exact yg (by omega) | exact jj (by omega)) ?_) | ((with_reducible refine zQ ?_); refine zg rfl rfl (by omega) ?_) | ((with_reducible refine zr ?_); refine zx tbOk rfl rfl rfl rfl rfl (by omega) rfl rfl rfl ?_) | refine zB rfl ?_ | with_reducible (first | refine zG ?_ | refine zH ?_ | refine zY ?_ | refine zS ?_) | ((with_reducible refine zA ?_ ?_); kernel_rfl))
      with_reducible refine jS ?_
      refine bO Tryz.underlying42 Tryz.underlying5 Tryz.underlying9 rfl rfl (by simp) ?_
      repeat (first   | refine zB rfl ?_  )
      with_reducible refine zQ ?_
      refine yc rfl rfl (by rw [strOfNums_size]; exact (by decide : (1:Nat) + 1 ≤ 9223372036854775807)) ?_
      repeat (first | ((with_reducible refine zK ?_); refine zJ rfl ?_) | ((with_reducible refine zp ?_); refine zq tbOk rfl rfl rfl rfl rfl rfl rfl (Nat.le_of_ble_eq_true rfl) rfl ?_) | ((with_reducible refine yR ?_); refine yQ tbOk rfl rfl ?_) | ((with_reducible refine yM ?_); refine yN tbOk rfl rfl rfl rfl rfl ?_) | ((with_reducible refine zQ ?_); (first | refine zg rfl rfl (by omega) ?_ | refine lY rfl rfl (by first | decide | assumption | omega) ?_))  | refine zL ?_ | refine zB rfl ?_ | with_reducible (first | refine zG ?_ | refine zH ?_) | ((with_reducible refine zA ?_ ?_); kernel_rfl))
      refine zD (ss := [(refB + 0, v (refB + 0))]) (one_A E 2 hE (by omega) (by omega)) (by simp) (in1 rfl rfl) rfl (ya rfl) ?_
      repeat (first   | refine zL ?_ | with_reducible refine zG ?_ )
      refine zZ rfl (fun h => ?_) (fun h => ?_)
      · have h' : E.val 2 = 0 := by simpa using h
        have r30 := E.next.val_range (n := 30) (by omega)
        have a30 := r30.2.1 (by omega)
        have eX : tieX E i = ⟨nmN i, 1 + E.next.val 30, 1 + ((i / 3 : Nat) : Int)⟩ := by unfold tieX; rw [if_pos h']
        have eD : jv E = E.next.next := by unfold jv; rw [if_pos h']
        repeat (first | ((with_reducible refine zK ?_); refine zJ rfl ?_)  | refine zB rfl ?_  | ((with_reducible refine zA ?_ ?_); kernel_rfl))
        refine zD (ss := [(refB + 0, v (refB + 0))]) (jJ E.next 30 hE.next (by omega) (by omega)) (by simp) (in1 rfl rfl) rfl (ya rfl) ?_
        repeat (first | ((with_reducible refine zM ?_); refine zI tbOk rfl rfl rfl rfl ?_) | ((with_reducible refine zR ?_); (first | refine zP tbOk rfl rfl rfl rfl rfl ?_ | refine zk tbOk rfl rfl rfl rfl (Nat.le_of_ble_eq_true rfl) ?_)) | ((with_reducible refine zp ?_); refine zq tbOk rfl rfl rfl rfl rfl rfl rfl (Nat.le_of_ble_eq_true rfl) rfl ?_) | ((with_reducible refine zQ ?_); refine zg rfl rfl (by omega) ?_) | ((with_reducible refine zr ?_); refine zx tbOk rfl rfl rfl rfl rfl (by omega) rfl rfl rfl ?_) | refine zL ?_ | refine zB rfl ?_ | with_reducible refine zG ?_ | ((with_reducible refine zA ?_ ?_); kernel_rfl))
        refine yG tbOk rfl rfl rfl rfl rfl (by decide) rfl rfl rfl rfl rfl (fun x hx => by simp at hx; subst hx; rfl) (by simp only [List.length_map, List.length_cons, List.length_nil]; omega) (by simp only [List.length_map, List.length_cons, List.length_nil]; omega) ?_
        repeat (first | ((with_reducible refine zK ?_); refine zJ rfl ?_) | ((with_reducible refine zE ?_); refine zF rfl ?_) | ((with_reducible refine zM ?_); refine zI tbOk rfl rfl rfl rfl ?_) | ((with_reducible refine zp ?_); refine zq tbOk rfl rfl rfl rfl rfl rfl rfl (Nat.le_of_ble_eq_true rfl) rfl ?_) | ((with_reducible refine zQ ?_); refine zg rfl rfl (by omega) ?_)  | refine zL ?_ | refine zB rfl ?_ | with_reducible (first | refine zG ?_ | refine zu ?_) | ((with_reducible refine zA ?_ ?_); kernel_rfl))
        rw [tieN, eD, eX] at hf
        refine ⟨(m, i + 1, E.next.next, L ++ [(⟨nmN i, 1 + E.next.val 30, 1 + ((i / 3 : Nat) : Int)⟩ : Nd)]), ⟨hv0, hE.next.next, by show m + (i + 1) = 6; omega, by simp [hl], hf⟩, by show m < m + 1; omega, ⟨rfl, rfl, rfl, rfl, congrArg (fun z => AV.v (.int .i64 z)) (by show (i : Int) + 1 = ((i + 1 : Nat) : Int); omega), trivial⟩, ⟨rfl, rfl, rfl, ?_, trivial⟩⟩
        rw [List.map_append, ← e3]; rfl
      · have h' : ¬ E.val 2 = 0 := by simpa using h
        have eX : tieX E i = ⟨nmN i, 0, 1 + ((i / 3 : Nat) : Int)⟩ := by unfold tieX; rw [if_neg h']
        have eD : jv E = E.next := by unfold jv; rw [if_neg h']
        repeat (first | ((with_reducible refine zM ?_); refine zI tbOk rfl rfl rfl rfl ?_) | ((with_reducible refine zR ?_); (first | refine zP tbOk rfl rfl rfl rfl rfl ?_ | refine zk tbOk rfl rfl rfl rfl (Nat.le_of_ble_eq_true rfl) ?_)) | ((with_reducible refine zr ?_); refine zx tbOk rfl rfl rfl rfl rfl (by omega) rfl rfl rfl ?_) | refine zB rfl ?_ | with_reducible (first | refine zG ?_ | refine zS ?_) | ((with_reducible refine zA ?_ ?_); kernel_rfl))
        refine yG tbOk rfl rfl rfl rfl rfl (by decide) rfl rfl rfl rfl rfl (fun x hx => by simp at hx; subst hx; rfl) (by simp only [List.length_map, List.length_cons, List.length_nil]; omega) (by simp only [List.length_map, List.length_cons, List.length_nil]; omega) ?_
        repeat (first | ((with_reducible refine zK ?_); refine zJ rfl ?_) | ((with_reducible refine zE ?_); refine zF rfl ?_) | ((with_reducible refine zM ?_); refine zI tbOk rfl rfl rfl rfl ?_) | ((with_reducible refine zp ?_); refine zq tbOk rfl rfl rfl rfl rfl rfl rfl (Nat.le_of_ble_eq_true rfl) rfl ?_) | ((with_reducible refine zQ ?_); refine zg rfl rfl (by omega) ?_)  | refine zL ?_ | refine zB rfl ?_ | with_reducible (first | refine zG ?_ | refine zu ?_) | ((with_reducible refine zA ?_ ?_); kernel_rfl))
        rw [tieN, eD, eX] at hf
        refine ⟨(m, i + 1, E.next, L ++ [(⟨nmN i, 0, 1 + ((i / 3 : Nat) : Int)⟩ : Nd)]), ⟨hv0, hE.next, by show m + (i + 1) = 6; omega, by simp [hl], hf⟩, by show m < m + 1; omega, ⟨rfl, rfl, rfl, rfl, congrArg (fun z => AV.v (.int .i64 z)) (by show (i : Int) + 1 = ((i + 1 : Nat) : Int); omega), trivial⟩, ⟨rfl, rfl, rfl, ?_, trivial⟩⟩
        rw [List.map_append, ← e3]; rfl
    · obtain rfl : m = 0 := by simp at h; omega
      have e1 : tieE D = E := by unfold tieE; rw [← hf]; rfl
      have e2 : bF D = L := by unfold bF; rw [← hf]; rfl
      have r2 := E.val_range (n := 2) (by omega)
      have a2 := r2.2.1 (by omega)
      have r2' := E.next.val_range (n := 2) (by omega)
      have a2' := r2'.2.1 (by omega)
      have hk := uO r2.1 a2
      have hE2 := hE.next.next
      have eF : tieF D = E.next.next := by unfold tieF; rw [e1]
      have eV : fS D = tieV (gK (E.val 2)) (1 + E.next.val 2) := by unfold fS; rw [e1]
      rw [e2]
      unfold qK tieSs tieD
      rw [eF, eV]
      repeat (first | ((with_reducible refine zK ?_); refine zJ rfl ?_) | ((with_reducible refine yM ?_); refine yN tbOk rfl rfl rfl rfl rfl ?_) | ((with_reducible refine zr ?_); refine zx tbOk rfl rfl rfl rfl rfl (by omega) rfl rfl rfl ?_) | refine zB rfl ?_ | with_reducible (first | refine zG ?_ | refine zo ?_ | refine zH ?_ | refine yB ?_) | ((with_reducible refine ze ?_ ?_); rfl) | ((with_reducible refine yZ mixd ?_ ?_); kernel_rfl))
      refine zD (ss := [(refB + 0, v (refB + 0))]) (jJ E 2 hE (by omega) (by omega)) (by simp) (in1 rfl rfl) rfl (ya rfl) ?_
      repeat (first | ((with_reducible refine zK ?_); refine zJ rfl ?_) | ((with_reducible refine zR ?_); refine zW tbOk rfl rfl rfl ?_) | ((with_reducible refine zU ?_); refine yY tbOk rfl rfl rfl rfl (by omega) (by assumption) ?_)  | refine zB rfl ?_  )
      refine zD (ss := [(refB + 0, v (refB + 0))]) (jJ E.next 2 hE.next (by omega) (by omega)) (by simp) (in1 rfl rfl) rfl (ya rfl) ?_
      repeat (first | ((with_reducible refine yM ?_); refine yN tbOk rfl rfl rfl rfl rfl ?_) | ((with_reducible refine zQ ?_); refine zg rfl rfl (by omega) ?_) | refine zB rfl ?_  )
      with_reducible refine zr ?_
      refine jR tbOk rfl rfl rfl rfl rfl (by omega) rfl rfl rfl rfl ?_
      repeat (first | ((with_reducible refine zM ?_); refine zI tbOk rfl rfl rfl rfl ?_) | ((with_reducible refine zp ?_); refine zq tbOk rfl rfl rfl rfl rfl rfl rfl (Nat.le_of_ble_eq_true rfl) rfl ?_) | refine yf (by kernel_rfl) ?_ | refine zB rfl ?_ | with_reducible (first | refine zG ?_ | refine zH ?_) | ((with_reducible refine zA ?_ ?_); kernel_rfl))
      with_reducible refine zr ?_
      refine jR tbOk rfl rfl rfl rfl rfl (by omega) rfl rfl rfl rfl ?_
      repeat (first | ((with_reducible refine zK ?_); refine zJ rfl ?_) | ((with_reducible refine zE ?_); refine zF rfl ?_) | refine zL ?_ | refine zB rfl ?_ | with_reducible (first | refine zG ?_ | refine zH ?_) | ((with_reducible refine zA ?_ ?_); kernel_rfl))
      refine zD (ss := [(refB + 0, v (refB + 0))]) (jJ E.next.next 4 hE2 (by omega) (by omega)) (by simp) (in1 rfl rfl) rfl (ya rfl) ?_
      repeat (first | ((with_reducible refine zE ?_); refine zF rfl ?_) | ((with_reducible refine zQ ?_); refine zT rfl rfl rfl ?_)  | refine zL ?_ | refine zB rfl ?_ | with_reducible (first | refine zG ?_ | refine zH ?_ | refine zY ?_) | ((with_reducible refine zA ?_ ?_); kernel_rfl))
      have r3 := E.next.next.next.val_range (n := 2) (by omega)
      have a3 := r3.2.1 (by omega)
      refine zZ rfl (fun h => ?_) (fun h => ?_)
      · have h' : E.next.next.val 4 = 0 := by simpa using h
        rw [if_pos h', if_pos h', if_pos (.inl h')]
        repeat (first | ((with_reducible refine zM ?_); refine zI tbOk rfl rfl rfl rfl ?_) | ((with_reducible refine zR ?_); refine zP tbOk rfl rfl rfl rfl rfl ?_) | ((with_reducible refine yM ?_); refine yN tbOk rfl rfl rfl rfl rfl ?_) | ((with_reducible refine zr ?_); refine zx tbOk rfl rfl rfl rfl rfl (by omega) rfl rfl rfl ?_) | refine zB rfl ?_ | with_reducible refine zH ?_ | ((with_reducible refine zA ?_ ?_); kernel_rfl))
        refine yG tbOk rfl rfl rfl rfl rfl (by decide) rfl rfl rfl rfl rfl (fun x hx => by simp at hx; subst hx; rfl) (Nat.le_of_ble_eq_true rfl) (Nat.le_of_ble_eq_true rfl) ?_
        repeat (first | ((with_reducible refine zK ?_); refine zJ rfl ?_) | ((with_reducible refine zM ?_); refine zI tbOk rfl rfl rfl rfl ?_) | ((with_reducible refine zp ?_); refine zq tbOk rfl rfl rfl rfl rfl rfl rfl (Nat.le_of_ble_eq_true rfl) rfl ?_)  | refine zL ?_ | refine zB rfl ?_ | with_reducible refine zG ?_ | ((with_reducible refine zA ?_ ?_); kernel_rfl))
        refine zD (ss := [(refB + 0, v (refB + 0))]) (jJ E.next.next.next 2 hE2.next (by omega) (by omega)) (by simp) (in1 rfl rfl) rfl (ya rfl) ?_
        repeat (first | ((with_reducible refine zQ ?_); refine zg rfl rfl (by omega) ?_) | ((with_reducible refine zr ?_); refine zx tbOk rfl rfl rfl rfl rfl (by omega) rfl rfl rfl ?_) | refine zB rfl ?_  )
        refine yG tbOk rfl rfl rfl rfl rfl (by decide) rfl rfl rfl rfl rfl (fun x hx => by simp at hx; subst hx; rfl) (Nat.le_of_ble_eq_true rfl) (Nat.le_of_ble_eq_true rfl) ?_
        repeat (first | ((with_reducible refine zK ?_); refine zJ rfl ?_) | ((with_reducible refine zE ?_); refine zF rfl ?_) | ((with_reducible refine zR ?_); refine zk tbOk rfl rfl rfl rfl (Nat.le_of_ble_eq_true rfl) ?_) | ((with_reducible refine zp ?_); refine zq tbOk rfl rfl rfl rfl rfl rfl rfl (Nat.le_of_ble_eq_true rfl) rfl ?_)  | refine zL ?_ | refine zB rfl ?_ | with_reducible (first | refine zG ?_ | refine zu ?_ | refine zH ?_ | refine zN ?_) | ((with_reducible refine zA ?_ ?_); kernel_rfl))
        refine fQ (by first | exact .inr rfl | exact .inl rfl) rfl rfl rfl rfl rfl rfl rfl hv0 ?_ (by repeat' (first | exact trivial | exact Ren.v _ | exact Ren.sl _ _ | exact Ren.ep _ | exact Ren.ptr _ _ _ _ rfl | exact Ren.bs _ _ _ _ _ rfl | exact Ren.nil _ | exact Ren.own _ _ _ _ ⟨_, rfl⟩ | refine zi ?_ | refine zj ?_ | refine zl ?_ | refine ⟨?_, ?_⟩))
        repeat' (first | exact trivial | exact Ren.v _ | exact Ren.sl _ _ | exact Ren.ep _ | exact Ren.ptr _ _ _ _ rfl | exact Ren.bs _ _ _ _ _ rfl | exact Ren.nil _ | exact Ren.own _ _ _ _ ⟨_, rfl⟩ | refine zi ?_ | refine zj ?_ | refine zl ?_ | refine ⟨?_, ?_⟩)
      · have h' : ¬ E.next.next.val 4 = 0 := by simpa using h
        rw [if_neg h', if_neg h']
        repeat (first | ((with_reducible refine zE ?_); refine zF rfl ?_) | ((with_reducible refine zQ ?_); refine zT rfl rfl rfl ?_)  | refine zL ?_ | refine zB rfl ?_ | with_reducible (first | refine zG ?_ | refine zH ?_) | ((with_reducible refine zA ?_ ?_); kernel_rfl))
        refine zZ rfl (fun h => ?_) (fun h => ?_)
        · have h1 : E.next.next.val 4 = 1 := by simpa using h
          rw [if_pos h1, if_pos h1, if_pos (.inr (.inl h1))]
          repeat (first | ((with_reducible refine zK ?_); refine zJ rfl ?_) | ((with_reducible refine zM ?_); refine zI tbOk rfl rfl rfl rfl ?_) | ((with_reducible refine zR ?_); refine zP tbOk rfl rfl rfl rfl rfl ?_)  | refine zB rfl ?_ | with_reducible refine zH ?_ | ((with_reducible refine yZ mixd ?_ ?_); kernel_rfl))
          refine zD (ss := [(refB + 0, v (refB + 0))]) (jJ E.next.next.next 2 hE2.next (by omega) (by omega)) (by simp) (in1 rfl rfl) rfl (ya rfl) ?_
          repeat (first | ((with_reducible refine yM ?_); refine yN tbOk rfl rfl rfl rfl rfl ?_) | ((with_reducible refine zQ ?_); refine zg rfl rfl (by omega) ?_) | ((with_reducible refine zr ?_); refine zx tbOk rfl rfl rfl rfl rfl (by omega) rfl rfl rfl ?_) | refine zB rfl ?_  )
          refine yG tbOk rfl rfl rfl rfl rfl (by decide) rfl rfl rfl rfl rfl (fun x hx => by simp at hx; subst hx; rfl) (Nat.le_of_ble_eq_true rfl) (Nat.le_of_ble_eq_true rfl) ?_
          repeat (first | ((with_reducible refine zK ?_); refine zJ rfl ?_) | ((with_reducible refine zM ?_); refine zI tbOk rfl rfl rfl rfl ?_) | ((with_reducible refine zp ?_); refine zq tbOk rfl rfl rfl rfl rfl rfl rfl (Nat.le_of_ble_eq_true rfl) rfl ?_) | ((with_reducible refine zr ?_); refine zx tbOk rfl rfl rfl rfl rfl (by omega) rfl rfl rfl ?_) | refine yf (by kernel_rfl) ?_ | refine zB rfl ?_ | with_reducible refine zG ?_ | ((with_reducible refine zA ?_ ?_); kernel_rfl))
          refine yG tbOk rfl rfl rfl rfl rfl (by decide) rfl rfl rfl rfl rfl (fun x hx => by simp at hx; subst hx; rfl) (Nat.le_of_ble_eq_true rfl) (Nat.le_of_ble_eq_true rfl) ?_
          repeat (first | ((with_reducible refine zK ?_); refine zJ rfl ?_) | ((with_reducible refine zE ?_); refine zF rfl ?_) | ((with_reducible refine zR ?_); refine zk tbOk rfl rfl rfl rfl (Nat.le_of_ble_eq_true rfl) ?_) | ((with_reducible refine zp ?_); refine zq tbOk rfl rfl rfl rfl rfl rfl rfl (Nat.le_of_ble_eq_true rfl) rfl ?_)  | refine zL ?_ | refine zB rfl ?_ | with_reducible (first | refine zG ?_ | refine zu ?_ | refine zH ?_ | refine zN ?_) | ((with_reducible refine zA ?_ ?_); kernel_rfl))
          refine fQ (by first | exact .inr rfl | exact .inl rfl) rfl rfl rfl rfl rfl rfl rfl hv0 ?_ (by repeat' (first | exact trivial | exact Ren.v _ | exact Ren.sl _ _ | exact Ren.ep _ | exact Ren.ptr _ _ _ _ rfl | exact Ren.bs _ _ _ _ _ rfl | exact Ren.nil _ | exact Ren.own _ _ _ _ ⟨_, rfl⟩ | refine zi ?_ | refine zj ?_ | refine zl ?_ | refine ⟨?_, ?_⟩))
          repeat' (first | exact trivial | exact Ren.v _ | exact Ren.sl _ _ | exact Ren.ep _ | exact Ren.ptr _ _ _ _ rfl | exact Ren.bs _ _ _ _ _ rfl | exact Ren.nil _ | exact Ren.own _ _ _ _ ⟨_, rfl⟩ | refine zi ?_ | refine zj ?_ | refine zl ?_ | refine ⟨?_, ?_⟩)
        · have h1 : ¬ E.next.next.val 4 = 1 := by simpa using h
          rw [if_neg h1, if_neg h1]
          repeat (first | ((with_reducible refine zE ?_); refine zF rfl ?_) | ((with_reducible refine zQ ?_); refine zT rfl rfl rfl ?_)  | refine zL ?_ | refine zB rfl ?_ | with_reducible (first | refine zG ?_ | refine zH ?_) | ((with_reducible refine zA ?_ ?_); kernel_rfl))
          refine zZ rfl (fun h => ?_) (fun h => ?_)
          · have h2 : E.next.next.val 4 = 2 := by simpa using h
            rw [if_pos h2, if_pos (.inr (.inr h2))]
            have hz : E.next.next.next.val 2 = 0 ∨ E.next.next.next.val 2 = 1 := by omega
            have hn := jJ (G := X.G) E.next.next.next 2 hE2.next (by omega) (by omega)
            rcases hz with hz | hz
            · rw [hz] at hn ⊢
              repeat (first | ((with_reducible refine zK ?_); refine zJ rfl ?_)  | refine zB rfl ?_  | ((with_reducible refine zA ?_ ?_); kernel_rfl))
              refine zD (ss := [(refB + 0, v (refB + 0))]) (hn) (by simp) (in1 rfl rfl) rfl (ya rfl) ?_
              repeat (first | ((with_reducible refine zQ ?_); refine zg rfl rfl (by omega) ?_)  | refine zB rfl ?_  )
              with_reducible refine zU ?_
              refine qH tbOk rfl rfl rfl rfl rfl rfl (by constructor <;> decide) ?_
              repeat (first   | refine zB rfl ?_  )
              with_reducible refine zp ?_
              refine eQ (L' := (mD.set 1 1).map iv) tbOk rfl rfl rfl rfl rfl rfl rfl rfl rfl (Nat.le_of_ble_eq_true rfl) rfl (fun x hx => by obtain ⟨z, _, rfl⟩ := List.mem_map.1 hx; rfl) rfl ?_
              repeat (first | ((with_reducible refine zK ?_); refine zJ rfl ?_) | ((with_reducible refine zE ?_); refine zF rfl ?_) | ((with_reducible refine zR ?_); refine zk tbOk rfl rfl rfl rfl (Nat.le_of_ble_eq_true rfl) ?_) | ((with_reducible refine zp ?_); refine zq tbOk rfl rfl rfl rfl rfl rfl rfl (Nat.le_of_ble_eq_true rfl) rfl ?_)  | refine zL ?_ | refine zB rfl ?_ | with_reducible (first | refine zG ?_ | refine zu ?_ | refine zH ?_ | refine zN ?_) | ((with_reducible refine zA ?_ ?_); kernel_rfl))
              refine fQ (by first | exact .inr rfl | exact .inl rfl) rfl rfl rfl rfl rfl rfl rfl hv0 ?_ (by repeat' (first | exact trivial | exact Ren.v _ | exact Ren.sl _ _ | exact Ren.ep _ | exact Ren.ptr _ _ _ _ rfl | exact Ren.bs _ _ _ _ _ rfl | exact Ren.nil _ | exact Ren.own _ _ _ _ ⟨_, rfl⟩ | refine zi ?_ | refine zj ?_ | refine zl ?_ | refine ⟨?_, ?_⟩))
              repeat' (first | exact trivial | exact Ren.v _ | exact Ren.sl _ _ | exact Ren.ep _ | exact Ren.ptr _ _ _ _ rfl | exact Ren.bs _ _ _ _ _ rfl | exact Ren.nil _ | exact Ren.own _ _ _ _ ⟨_, rfl⟩ | refine zi ?_ | refine zj ?_ | refine zl ?_ | refine ⟨?_, ?_⟩)
            · rw [hz] at hn ⊢
              repeat (first | ((with_reducible refine zK ?_); refine zJ rfl ?_)  | refine zB rfl ?_  | ((with_reducible refine zA ?_ ?_); kernel_rfl))
              refine zD (ss := [(refB + 0, v (refB + 0))]) (hn) (by simp) (in1 rfl rfl) rfl (ya rfl) ?_
              repeat (first | ((with_reducible refine zQ ?_); refine zg rfl rfl (by omega) ?_)  | refine zB rfl ?_  )
              with_reducible refine zU ?_
              refine qH tbOk rfl rfl rfl rfl rfl rfl (by constructor <;> decide) ?_
              repeat (first   | refine zB rfl ?_  )
              with_reducible refine zp ?_
              refine eQ (L' := (mD.set 2 1).map iv) tbOk rfl rfl rfl rfl rfl rfl rfl rfl rfl (Nat.le_of_ble_eq_true rfl) rfl (fun x hx => by obtain ⟨z, _, rfl⟩ := List.mem_map.1 hx; rfl) rfl ?_
              repeat (first | ((with_reducible refine zK ?_); refine zJ rfl ?_) | ((with_reducible refine zE ?_); refine zF rfl ?_) | ((with_reducible refine zR ?_); refine zk tbOk rfl rfl rfl rfl (Nat.le_of_ble_eq_true rfl) ?_) | ((with_reducible refine zp ?_); refine zq tbOk rfl rfl rfl rfl rfl rfl rfl (Nat.le_of_ble_eq_true rfl) rfl ?_)  | refine zL ?_ | refine zB rfl ?_ | with_reducible (first | refine zG ?_ | refine zu ?_ | refine zH ?_ | refine zN ?_) | ((with_reducible refine zA ?_ ?_); kernel_rfl))
              refine fQ (by first | exact .inr rfl | exact .inl rfl) rfl rfl rfl rfl rfl rfl rfl hv0 ?_ (by repeat' (first | exact trivial | exact Ren.v _ | exact Ren.sl _ _ | exact Ren.ep _ | exact Ren.ptr _ _ _ _ rfl | exact Ren.bs _ _ _ _ _ rfl | exact Ren.nil _ | exact Ren.own _ _ _ _ ⟨_, rfl⟩ | refine zi ?_ | refine zj ?_ | refine zl ?_ | refine ⟨?_, ?_⟩))
              repeat' (first | exact trivial | exact Ren.v _ | exact Ren.sl _ _ | exact Ren.ep _ | exact Ren.ptr _ _ _ _ rfl | exact Ren.bs _ _ _ _ _ rfl | exact Ren.nil _ | exact Ren.own _ _ _ _ ⟨_, rfl⟩ | refine zi ?_ | refine zj ?_ | refine zl ?_ | refine ⟨?_, ?_⟩)
          · have h2 : ¬ E.next.next.val 4 = 2 := by simpa using h
            rw [if_neg h2, if_neg (by omega)]
            repeat (first | ((with_reducible refine zK ?_); refine zJ rfl ?_) | ((with_reducible refine zE ?_); refine zF rfl ?_) | ((with_reducible refine zR ?_); refine zk tbOk rfl rfl rfl rfl (Nat.le_of_ble_eq_true rfl) ?_) | ((with_reducible refine zp ?_); refine zq tbOk rfl rfl rfl rfl rfl rfl rfl (Nat.le_of_ble_eq_true rfl) rfl ?_)  | refine zL ?_ | refine zB rfl ?_ | with_reducible (first | refine zG ?_ | refine zu ?_ | refine zH ?_ | refine zS ?_ | refine zN ?_) | ((with_reducible refine zA ?_ ?_); kernel_rfl))
            refine fQ (by first | exact .inr rfl | exact .inl rfl) rfl rfl rfl rfl rfl rfl rfl hv0 ?_ (by repeat' (first | exact trivial | exact Ren.v _ | exact Ren.sl _ _ | exact Ren.ep _ | exact Ren.ptr _ _ _ _ rfl | exact Ren.bs _ _ _ _ _ rfl | exact Ren.nil _ | exact Ren.own _ _ _ _ ⟨_, rfl⟩ | refine zi ?_ | refine zj ?_ | refine zl ?_ | refine ⟨?_, ?_⟩))
            repeat' (first | exact trivial | exact Ren.v _ | exact Ren.sl _ _ | exact Ren.ep _ | exact Ren.ptr _ _ _ _ rfl | exact Ren.bs _ _ _ _ _ rfl | exact Ren.nil _ | exact Ren.own _ _ _ _ ⟨_, rfl⟩ | refine zi ?_ | refine zj ?_ | refine zl ?_ | refine ⟨?_, ?_⟩)
end Go.Proofs.YtjamibeffalhaaaGreatDoor
