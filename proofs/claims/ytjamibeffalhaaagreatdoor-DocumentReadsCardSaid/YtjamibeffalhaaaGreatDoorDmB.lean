/- permitofficefield.Document, by the abstract machine; conditions: a network with nodes and devices. -/
import Derived.Test.YtjamibeffalhaaaGreatDoorDmA
import Derived.Test.YtjamibeffalhaaaGreatDoorDcC
set_option linter.unusedVariables false
set_option linter.unusedSimpArgs false
namespace Go.Proofs.YtjamibeffalhaaaGreatDoor
open Go Go.RowKit
set_option maxRecDepth 10000
variable {G : Nat → Option (List Value)}
theorem iss_at {z : Int} (h : 0 ≤ z ∧ z < 3) : ([.v (.string ⟨#[65, 49]⟩), .v (.string ⟨#[65, 50]⟩), .v (.string ⟨#[67, 49]⟩)] : List AV)[z.toNat]? = some (.v (.string (issW z))) := by
  rcases (by omega : z = 0 ∨ z = 1 ∨ z = 2) with e | e | e <;> subst e <;> rfl
theorem hol_at {z : Int} (h : 0 ≤ z ∧ z < 3) : ([.v (.string ⟨#[66, 49]⟩), .v (.string ⟨#[66, 50]⟩), .v (.string ⟨#[67, 50]⟩)] : List AV)[z.toNat]? = some (.v (.string (holW z))) := by
  rcases (by omega : z = 0 ∨ z = 1 ∨ z = 2) with e | e | e <;> subst e <;> rfl
theorem vR {a b z : Int} (h : 0 ≤ z ∧ z < 2) : ([.v (.int .i64 a), .v (.int .i64 b)] : List AV)[z.toNat]? = some (.v (.int .i64 (if z = 0 then a else b))) := by
  rcases (by omega : z = 0 ∨ z = 1) with e | e <;> subst e <;> rfl
theorem rU {c : Int} (h : 8 ≤ c) (E : Dk) (d : Dc) : docC c E d = (d, E) := by
  unfold docC
  rw [if_neg (by omega), if_neg (by omega), if_neg (by omega), if_neg (by omega), if_neg (by omega), if_neg (by omega), if_neg (by omega), if_neg (by omega)]
set_option maxHeartbeats 16000000 in
theorem fdoc_A (N : List Nd) (V : List Dv) (D : Dk) (hD : DkOk D) (ok : NwOk N V) (hN0 : 0 < N.length) (hN1 : N.length ≤ 1000) (hV0 : 0 < V.length) (hV1 : V.length ≤ 64) :
    zz Tryz.prog G 13 [.ptr (refB + 0) 0 0, jo N V] [D.cells] (docD N V D).1.av [(docD N V D).2.cells] := by
  have r1 := D.in_ (n := 60) (by omega) (by omega)
  have r2 := D.next.in_ (n := 3) (by omega) (by omega)
  have r3 := D.next.next.in_ (n := 5) (by omega) (by omega)
  have r4 := D.next.next.next.in_ (n := 3) (by omega) (by omega)
  have hD4 := hD.next.next.next.next
  have hz := zone_J (G := G) N V D.next.next.next.next hD4 hN0 hN1
  have hzo := pC (n := N.length) hD4
  have e := (rfl : docD N V D = docD N V D)
  conv at e =>
    rhs
    unfold docD doc0 dc5 dc4 dc3 dc2 dc1
  obtain ⟨⟨F, Z⟩, hFZ⟩ : ∃ q, q = fH N.length D.next.next.next.next := ⟨_, rfl⟩
  rw [← hFZ] at hz hzo e
  obtain ⟨hF, hZl⟩ := hzo
  dsimp only at hF hZl hz e
  have hF5 := hF.next.next.next.next.next
  have hlk := wS (G := G) 5 (by omega) F.next.next.next.next.next N V hF5 ok.n ok.v ok.l1 hV0 hV1
  have hlo := eU N V [] 5 0 F.next.next.next.next.next [] hF5
  rw [show ((5 : Nat) : Int) = 5 from rfl] at hlk
  obtain ⟨⟨H, K⟩, hHK⟩ : ∃ q, q = ji N V [] 5 0 F.next.next.next.next.next [] := ⟨_, rfl⟩
  rw [← hHK] at hlk hlo e
  dsimp only at hlk hlo e
  have q1 := F.in_ (n := 4) (by omega) (by omega)
  have q2 := F.next.in_ (n := 3) (by omega) (by omega)
  have q3 := F.next.next.in_ (n := 3) (by omega) (by omega)
  have q4 := H.in_ (n := 3) (by omega) (by omega)
  have i1 := iss_at q2
  have i2 := hol_at q3
  clear hFZ hHK
  refine zb tbOk (zc Tryz.func13 (by kernel_rfl) rfl) Tryz.func13 rfl _ Tryz.ntmps13 (Nat.le_of_ble_eq_true rfl) fun X hX => ?_
  subst hX
  refine jb (s := 83) 3 1 [] [] rfl trivial trivial ?_
  repeat (first | ((with_reducible refine zK ?_); refine zJ rfl ?_) | ((with_reducible refine yR ?_); refine yQ tbOk rfl rfl ?_) | ((with_reducible refine yr ?_); refine yu rfl rfl rfl ?_)  | refine zL ?_ | refine zB rfl ?_ | with_reducible (first | refine zG ?_ | refine zH ?_) | ((with_reducible refine zA ?_ ?_); kernel_rfl) | ((with_reducible refine yZ mixd ?_ ?_); kernel_rfl))
  refine zD (ss := [(refB + 0, 0)]) (jJ D 60 hD (by omega) (by omega)) (by simp) (in1 rfl rfl) rfl (ya rfl) ?_
  repeat (first | ((with_reducible refine zK ?_); refine zJ rfl ?_) | ((with_reducible refine zQ ?_); refine zg rfl rfl (by omega) ?_)  | refine zB rfl ?_  )
  refine zD (ss := [(refB + 0, 0)]) (jJ D.next 3 hD.next (by omega) (by omega)) (by simp) (in1 rfl rfl) rfl (ya rfl) ?_
  repeat (first | ((with_reducible refine zK ?_); refine zJ rfl ?_) | ((with_reducible refine zQ ?_); refine zg rfl rfl (by omega) ?_)  | refine zB rfl ?_  )
  refine zD (ss := [(refB + 0, 0)]) (jJ D.next.next 5 hD.next.next (by omega) (by omega)) (by simp) (in1 rfl rfl) rfl (ya rfl) ?_
  repeat (first | ((with_reducible refine zK ?_); refine zJ rfl ?_) | ((with_reducible refine zQ ?_); refine zg rfl rfl (by omega) ?_)  | refine zB rfl ?_  )
  refine zD (ss := [(refB + 0, 0)]) (jJ D.next.next.next 3 hD.next.next.next (by omega) (by omega)) (by simp) (in1 rfl rfl) rfl (ya rfl) ?_
  repeat (first | ((with_reducible refine zK ?_); refine zJ rfl ?_) | ((with_reducible refine zR ?_); refine zk tbOk rfl rfl rfl rfl (Nat.le_of_ble_eq_true rfl) ?_)  | refine zB rfl ?_  )
  refine dW (ss := [(refB + 0, 0), (83, 1)]) (ss' := [(refB + 0, 0), (83, 2)]) (cs' := [.box F.cells, .buf 3 1 (Z.map iv)]) (y := .own 83 2) hz (by repeat' (first | exact trivial | exact Ren.v _ | exact Ren.sl _ _ | exact Ren.ep _ | exact Ren.ptr _ _ _ _ rfl | exact Ren.ownr _ _ _ rfl | exact Ren.bs _ _ _ _ _ rfl | refine zi ?_ | refine zj ?_ | refine zl ?_ | refine ⟨?_, ?_⟩)) (by simp [refB]) ⟨⟨_, rfl, by repeat' (first | exact trivial | exact Ren.v _ | exact Ren.sl _ _ | exact Ren.ep _ | exact Ren.ptr _ _ _ _ rfl | exact Ren.ownr _ _ _ rfl | exact Ren.bs _ _ _ _ _ rfl | refine zi ?_ | refine zj ?_ | refine zl ?_ | refine ⟨?_, ?_⟩)⟩, rfl, trivial⟩ ⟨⟨⟨rfl, rfl⟩, _, rfl, by repeat' (first | exact trivial | exact RenB.v _ | exact RenB.sl _ _ | exact RenB.ep _ | exact RenB.ptr _ _ _ _ rfl | exact RenB.own _ _ _ rfl | refine jX ?_ | refine jW ?_ | refine ⟨?_, ?_⟩)⟩, ⟨⟨rfl, rfl⟩, rfl⟩, trivial⟩ (by repeat' (first | exact trivial | exact RenB.v _ | exact RenB.sl _ _ | exact RenB.ep _ | exact RenB.ptr _ _ _ _ rfl | exact RenB.own _ _ _ rfl | refine jX ?_ | refine jW ?_ | refine ⟨?_, ?_⟩)) ?_
  repeat (first | ((with_reducible refine zK ?_); refine zJ rfl ?_)  | refine zB rfl ?_  )
  refine zD (ss := [(refB + 0, 0)]) (jJ F 4 hF (by omega) (by omega)) (by simp) (in1 rfl rfl) rfl (ya rfl) ?_
  repeat (first | ((with_reducible refine zK ?_); refine zJ rfl ?_) | ((with_reducible refine zQ ?_); refine zg rfl rfl (by omega) ?_) | ((with_reducible refine zr ?_); refine zx tbOk rfl rfl rfl rfl rfl (by omega) rfl rfl rfl ?_) | refine zB rfl ?_  )
  refine zD (ss := [(refB + 0, 0)]) (jJ F.next 3 hF.next (by omega) (by omega)) (by simp) (in1 rfl rfl) rfl (ya rfl) ?_
  repeat (first | ((with_reducible refine zK ?_); refine zJ rfl ?_) | ((with_reducible refine zR ?_); refine zW tbOk rfl rfl rfl ?_) | ((with_reducible refine zU ?_); refine yY tbOk rfl rfl rfl rfl (by omega) (by assumption) ?_) | ((with_reducible refine zr ?_); refine zx tbOk rfl rfl rfl rfl rfl (by omega) rfl rfl rfl ?_) | refine zB rfl ?_  )
  refine zD (ss := [(refB + 0, 0)]) (jJ F.next.next 3 hF.next.next (by omega) (by omega)) (by simp) (in1 rfl rfl) rfl (ya rfl) ?_
  repeat (first | ((with_reducible refine zK ?_); refine zJ rfl ?_) | ((with_reducible refine zR ?_); refine zW tbOk rfl rfl rfl ?_) | ((with_reducible refine zU ?_); refine yY tbOk rfl rfl rfl rfl (by omega) (by assumption) ?_)  | refine zB rfl ?_  )
  refine zD (y := .ag [.v (.int .i64 (F.next.next.next.val 100)), .v (.int .i64 (F.next.next.next.val 100 + 1 + F.next.next.next.next.val 51))]) (ss := [(refB + 0, 0)]) (span_A F.next.next.next hF.next.next.next) (by simp) (in1 rfl rfl) rfl (ya rfl) ?_
  repeat (first | ((with_reducible refine zK ?_); refine zJ rfl ?_) | ((with_reducible refine zR ?_); refine zk tbOk rfl rfl rfl rfl (Nat.le_of_ble_eq_true rfl) ?_) | ((with_reducible refine zp ?_); refine zq tbOk rfl rfl rfl rfl rfl rfl rfl (Nat.le_of_ble_eq_true rfl) rfl ?_) | ((with_reducible refine yR ?_); refine yQ tbOk rfl rfl ?_) | ((with_reducible refine yM ?_); refine yN tbOk rfl rfl rfl rfl rfl ?_)  | refine yf (by kernel_rfl) ?_ | refine zB rfl ?_ | with_reducible (first | refine zG ?_ | refine zH ?_) | ((with_reducible refine zA ?_ ?_); kernel_rfl))
  refine zD (ss := [(refB + 0, 0)]) (hlk) (by simp) (in1 rfl rfl) rfl (ya rfl) ?_
  repeat (first | ((with_reducible refine zK ?_); refine zJ rfl ?_) | ((with_reducible refine zM ?_); refine zI tbOk rfl rfl rfl rfl ?_) | ((with_reducible refine zp ?_); refine zq tbOk rfl rfl rfl rfl rfl rfl rfl (Nat.le_of_ble_eq_true rfl) rfl ?_)  | refine zL ?_ | refine zB rfl ?_ | with_reducible (first | refine zG ?_ | refine zH ?_) | ((with_reducible refine zA ?_ ?_); kernel_rfl))
  refine zD (ss := [(refB + 0, 0)]) (jJ H 3 hlo (by omega) (by omega)) (by simp) (in1 rfl rfl) rfl (ya rfl) ?_
  repeat (first | ((with_reducible refine zE ?_); refine zF rfl ?_)  | refine zL ?_ | refine zB rfl ?_ | with_reducible (first | refine zG ?_ | refine zY ?_) )
  refine jb (s := 56) 3 1 [] [(5, [.v (.int .i64 (1 + D.val 60)), .v (.int .i64 (1 + D.next.val 3)), .v (.int .i64 (1 + D.next.next.val 5)), .v (.int .i64 (D.next.next.next.val 3)), .own 83 2, .v (.int .i64 (1 + F.val 4)), .sl 3 (K.map Lk.av), .v (.string (issW (F.next.val 3))), .v (.string (holW (F.next.next.val 3))), .v (.int .i64 (F.next.next.next.val 100)), .v (.int .i64 (F.next.next.next.val 100 + 1 + F.next.next.next.next.val 51)), .own 56 1])] rfl trivial ⟨⟨_, _, rfl, .same (.same (.same (.same (.same (.same (.same (.same (.same (.same (.same (.hit .nil)))))))))))⟩, trivial⟩ ?_
  obtain ⟨k0, hk0⟩ : ∃ k0 : Nat, H.val 3 = (k0 : Int) := ⟨(H.val 3).toNat, by omega⟩
  rw [hk0]
  rw [hk0, Int.toNat_natCast] at e
  refine jg (ι := Nat × Dk × List Int) (fun v i => v (refB + 0) = 0 ∧ DkOk i.2.1 ∧ i.1 ≤ 3 ∧ i.2.2.length ≤ 3 - i.1 ∧ eB i.1 i.2.1 i.2.2 = eB k0 H.next []) (fun i => i.1) (fun v i => [(0, .ptr (refB + 0) (v (refB + 0)) 0), (4, .ptr 4 (v 4) 0), (5, .ptr 5 (v 5) 0), (6, .v (.int .i64 (i.1 : Nat)))]) (fun v i => [(refB + 0, .box i.2.1.cells), (4, .box [.v (.int .i64 0), .v (.int .i64 0), .v (.int .i64 0), .v (.int .i64 0), .v (.slice none 0 0), .v (.int .i64 0), .v (.slice none 0 0), .v (.string ⟨#[]⟩), .v (.string ⟨#[]⟩), .v (.int .i64 0), .v (.int .i64 0), .v (.slice none 0 0)]), (5, .box [.v (.int .i64 (1 + D.val 60)), .v (.int .i64 (1 + D.next.val 3)), .v (.int .i64 (1 + D.next.next.val 5)), .v (.int .i64 (D.next.next.next.val 3)), .own 83 (v 83), .v (.int .i64 (1 + F.val 4)), .sl 3 (K.map Lk.av), .v (.string (issW (F.next.val 3))), .v (.string (holW (F.next.next.val 3))), .v (.int .i64 (F.next.next.next.val 100)), .v (.int .i64 (F.next.next.next.val 100 + 1 + F.next.next.next.next.val 51)), .own 56 (v 56)]), (83, .buf 3 1 (Z.map iv)), (56, .buf 3 1 (i.2.2.map iv))]) ?_ ?_
  · exact ⟨(k0, H.next, []), ⟨rfl, hlo.next, by show k0 ≤ 3; omega, Nat.zero_le _, rfl⟩, trivial, ⟨rfl, rfl, rfl, rfl, trivial⟩, ⟨rfl, rfl, rfl, rfl, rfl, trivial⟩⟩
  rintro v ⟨m, E, L⟩ ⟨hv0, hE, hm, hl, hf⟩
  dsimp only at hv0 hE hm hl hf ⊢
  repeat (first | ((with_reducible refine zK ?_); refine zJ rfl ?_) | ((with_reducible refine zQ ?_); refine zT rfl rfl rfl ?_)  | refine zL ?_ | refine zB rfl ?_ | with_reducible (first | refine zG ?_ | refine zH ?_) | ((with_reducible refine zA ?_ ?_); kernel_rfl))
  refine zZ rfl (fun h => ?_) (fun h => ?_)
  · obtain ⟨m, rfl⟩ : ∃ p, m = p + 1 := ⟨m - 1, by simp at h; omega⟩
    have q9 := E.in_ (n := 9) (by omega) (by omega)
    rw [eB] at hf
    have hw : IntKind.i64.wrap (10 * (4 - ((m + 1 : Nat) : Int))) = 10 * (4 - ((m + 1 : Nat) : Int)) := yg (by omega)
    have hw2 : 10 * (4 - ((m + 1 : Nat) : Int)) = 10 * (4 - ((m + 1 : Nat) : Int)) ∧ 10 ≤ 10 * (4 - ((m + 1 : Nat) : Int)) ∧ 10 * (4 - ((m + 1 : Nat) : Int)) ≤ 40 := by omega
    repeat (first | ((with_reducible refine zK ?_); refine zJ rfl ?_) | ((with_reducible refine zM ?_); refine zI tbOk rfl rfl rfl rfl ?_) | ((with_reducible refine zR ?_); refine zP tbOk rfl rfl rfl rfl rfl ?_) | ((with_reducible refine zQ ?_); (first | refine jm rfl rfl (by omega) ?_ | refine zT rfl rfl rfl ?_))  | refine zB rfl ?_ | with_reducible (first | refine zG ?_ | refine zH ?_ | refine zY ?_ | refine zS ?_) | ((with_reducible refine yZ mixd ?_ ?_); kernel_rfl))
    refine zD (ss := [(refB + 0, v (refB + 0))]) (jJ E 9 hE (by omega) (by omega)) (by simp) (in1 rfl rfl) rfl (ya rfl) ?_
    repeat (first | ((with_reducible refine zQ ?_); refine zg rfl rfl (by omega) ?_) | ((with_reducible refine zr ?_); refine zx tbOk rfl rfl rfl rfl rfl (by omega) rfl rfl rfl ?_) | refine zB rfl ?_  )
    refine yG tbOk rfl rfl rfl rfl rfl (by decide) rfl rfl rfl rfl rfl (fun x hx => by simp at hx; subst hx; rfl) (by simp only [List.length_map, List.length_cons, List.length_nil]; omega) (by simp only [List.length_map, List.length_cons, List.length_nil]; omega) ?_
    repeat (first | ((with_reducible refine zK ?_); refine zJ rfl ?_) | ((with_reducible refine zE ?_); refine zF rfl ?_) | ((with_reducible refine zM ?_); refine zI tbOk rfl rfl rfl rfl ?_) | ((with_reducible refine zp ?_); refine zq tbOk rfl rfl rfl rfl rfl rfl rfl (Nat.le_of_ble_eq_true rfl) rfl ?_) | ((with_reducible refine zQ ?_); refine jm rfl rfl (by omega) ?_)  | refine zL ?_ | refine yf (by kernel_rfl) ?_ | refine zB rfl ?_ | with_reducible (first | refine zG ?_ | refine zu ?_) | ((with_reducible refine zA ?_ ?_); kernel_rfl))
    exact ⟨(m, E.next, L ++ [10 * (4 - ((m + 1 : Nat) : Int)) + E.val 9]), ⟨hv0, hE.next, by show m ≤ 3; omega, by simp; omega, hf⟩, by show m < m + 1; omega, ⟨rfl, rfl, rfl, congrArg (fun z => AV.v (.int .i64 z)) (show ((m + 1 : Nat) : Int) - 1 = ((m : Nat) : Int) by omega), trivial⟩, ⟨rfl, rfl, rfl, rfl, jr (by rw [List.map_append]; exact congrArg (fun z => L.map iv ++ [AV.v (.int .i64 (z + E.val 9))]) hw), trivial⟩⟩
  obtain rfl : m = 0 := by simp at h; omega
  rw [eB] at hf
  rw [← hf] at e
  dsimp only at e
  rw [e]
  clear e hf
  have r20 := E.in_ (n := 20) (by omega) (by omega)
  have hn := jJ (G := X.G) E 20 hE (by omega) (by omega)
  have hE1 := hE.next
  obtain ⟨c, hc⟩ : ∃ c, c = E.val 20 := ⟨_, rfl⟩
  rw [← hc] at hn r20 ⊢
  have g2 := E.next.in_ (n := 2) (by omega) (by omega)
  have t2 := vR (a := 0) (b := 65537) g2
  have t3 := vR (a := 0) (b := 17) g2
  have hL : L.length ≤ 3 := hl
  by_cases h2 : c = 2
  · subst h2
    refine yi (s := 56) [] [(5, [.v (.int .i64 (1 + D.val 60)), .v (.int .i64 (1 + D.next.val 3)), .v (.int .i64 (1 + D.next.next.val 5)), .v (.int .i64 (D.next.next.next.val 3)), .own 83 (v 83), .v (.int .i64 (1 + F.val 4)), .sl 3 (K.map Lk.av), .v (.string (issW (F.next.val 3))), .v (.string (holW (F.next.next.val 3))), .v (.int .i64 (F.next.next.next.val 100)), .v (.int .i64 (F.next.next.next.val 100 + 1 + F.next.next.next.next.val 51)), .sl 1 (L.map iv)])] rfl trivial ⟨⟨_, _, rfl, .same (.same (.same (.same (.same (.same (.same (.same (.same (.same (.same (.hit .nil)))))))))))⟩, trivial⟩ ?_
    repeat (first | ((with_reducible refine zK ?_); refine zJ rfl ?_)  | refine zB rfl ?_ | with_reducible (first | refine zG ?_ | refine zo ?_ | refine zH ?_ | refine yB ?_) | ((with_reducible refine ze ?_ ?_); rfl) | ((with_reducible refine zA ?_ ?_); kernel_rfl))
    refine zD (ss := [(refB + 0, v (refB + 0))]) (hn) (by simp) (in1 rfl rfl) rfl (ya rfl) ?_
    repeat (first | ((with_reducible refine zK ?_); refine zJ rfl ?_) | ((with_reducible refine zE ?_); refine zF rfl ?_) | ((with_reducible refine zM ?_); refine zI tbOk rfl rfl rfl rfl ?_) | ((with_reducible refine zR ?_); refine zP tbOk rfl rfl rfl rfl rfl ?_) | ((with_reducible refine zQ ?_); refine zT rfl rfl rfl ?_)  | refine zL ?_ | refine zB rfl ?_ | with_reducible (first | refine zG ?_ | refine zH ?_ | refine zY ?_) | ((with_reducible refine zA ?_ ?_); kernel_rfl) | ((with_reducible refine yZ mixd ?_ ?_); kernel_rfl) | refine zn rfl (by first | rfl | assumption) ?_ | refine yF rfl (by first | rfl | assumption) ?_)
    refine zD (ss := [(refB + 0, v (refB + 0))]) (jJ E.next 6 hE1 (by omega) (by omega)) (by simp) (in1 rfl rfl) rfl (ya rfl) ?_
    repeat (first  | ((with_reducible refine zr ?_); refine zx tbOk rfl rfl rfl rfl rfl (by omega) rfl rfl rfl ?_) | refine zB rfl ?_  )
    refine yG tbOk rfl rfl rfl rfl rfl (by decide) rfl rfl rfl rfl rfl (fun x hx => by simp at hx; subst hx; rfl) (by simp only [List.length_map, List.length_cons, List.length_nil]; omega) (by simp only [List.length_map, List.length_cons, List.length_nil]; omega) ?_
    repeat (first | ((with_reducible refine zM ?_); refine zI tbOk rfl rfl rfl rfl ?_) | ((with_reducible refine zp ?_); refine zq tbOk rfl rfl rfl rfl rfl rfl rfl (Nat.le_of_ble_eq_true rfl) rfl ?_)  | refine yf (by kernel_rfl) ?_ | refine zB rfl ?_ | with_reducible (first | refine zG ?_ | refine zu ?_ | refine zH ?_))
    refine yi (s := 83) [] [(5, [.v (.int .i64 (1 + D.val 60)), .v (.int .i64 (1 + D.next.val 3)), .v (.int .i64 (1 + D.next.next.val 5)), .v (.int .i64 (D.next.next.next.val 3)), .sl 1 (Z.map iv ++ [.v (.int .i64 (E.next.val 6))]), .v (.int .i64 (1 + F.val 4)), .sl 3 (K.map Lk.av), .v (.string (issW (F.next.val 3))), .v (.string (holW (F.next.next.val 3))), .v (.int .i64 (F.next.next.next.val 100)), .v (.int .i64 (F.next.next.next.val 100 + 1 + F.next.next.next.next.val 51)), .sl 1 (L.map iv)])] rfl trivial ⟨⟨_, _, rfl, .same (.same (.same (.same (.hit (.same (.same (.same (.same (.same (.same (.same .nil)))))))))))⟩, trivial⟩ ?_
    repeat (first | ((with_reducible refine zR ?_); refine zk tbOk rfl rfl rfl rfl (Nat.le_of_ble_eq_true rfl) ?_) | ((with_reducible refine zp ?_); refine zq tbOk rfl rfl rfl rfl rfl rfl rfl (Nat.le_of_ble_eq_true rfl) rfl ?_)  | refine zL ?_ | refine zB rfl ?_ | with_reducible (first | refine zG ?_ | refine zN ?_) | ((with_reducible refine zA ?_ ?_); kernel_rfl))
    refine jp (by first | exact .inr rfl | exact .inl rfl) rfl rfl rfl rfl rfl rfl (by first | rfl | assumption) ?_ rfl ?_ rfl
    · first
        | rfl
        | (simp [docC, Dc.av, Dc.cells, iv]; rfl)
    · rfl
  by_cases h6 : c = 6
  · subst h6
    refine yi (s := 83) [] [(5, [.v (.int .i64 (1 + D.val 60)), .v (.int .i64 (1 + D.next.val 3)), .v (.int .i64 (1 + D.next.next.val 5)), .v (.int .i64 (D.next.next.next.val 3)), .sl 1 (Z.map iv), .v (.int .i64 (1 + F.val 4)), .sl 3 (K.map Lk.av), .v (.string (issW (F.next.val 3))), .v (.string (holW (F.next.next.val 3))), .v (.int .i64 (F.next.next.next.val 100)), .v (.int .i64 (F.next.next.next.val 100 + 1 + F.next.next.next.next.val 51)), .own 56 (v 56)])] rfl trivial ⟨⟨_, _, rfl, .same (.same (.same (.same (.hit (.same (.same (.same (.same (.same (.same (.same .nil)))))))))))⟩, trivial⟩ ?_
    repeat (first | ((with_reducible refine zK ?_); refine zJ rfl ?_)  | refine zB rfl ?_ | with_reducible (first | refine zG ?_ | refine zo ?_ | refine zH ?_ | refine yB ?_) | ((with_reducible refine ze ?_ ?_); rfl) | ((with_reducible refine zA ?_ ?_); kernel_rfl))
    refine zD (ss := [(refB + 0, v (refB + 0))]) (hn) (by simp) (in1 rfl rfl) rfl (ya rfl) ?_
    repeat (first | ((with_reducible refine zE ?_); refine zF rfl ?_) | ((with_reducible refine zM ?_); refine zI tbOk rfl rfl rfl rfl ?_) | ((with_reducible refine zR ?_); refine zP tbOk rfl rfl rfl rfl rfl ?_) | ((with_reducible refine zQ ?_); refine zT rfl rfl rfl ?_) | ((with_reducible refine zr ?_); refine zx tbOk rfl rfl rfl rfl rfl (by omega) rfl rfl rfl ?_) | refine zL ?_ | refine zB rfl ?_ | with_reducible (first | refine zG ?_ | refine zH ?_ | refine zY ?_) | ((with_reducible refine zA ?_ ?_); kernel_rfl) | refine zn rfl (by first | rfl | assumption) ?_ | refine yF rfl (by first | rfl | assumption) ?_)
    refine yG tbOk rfl rfl rfl rfl rfl (by decide) rfl rfl rfl rfl rfl (fun x hx => by simp at hx; subst hx; rfl) (by simp only [List.length_map, List.length_cons, List.length_nil]; omega) (by simp only [List.length_map, List.length_cons, List.length_nil]; omega) ?_
    repeat (first | ((with_reducible refine zM ?_); refine zI tbOk rfl rfl rfl rfl ?_) | ((with_reducible refine zp ?_); refine zq tbOk rfl rfl rfl rfl rfl rfl rfl (Nat.le_of_ble_eq_true rfl) rfl ?_)  | refine zL ?_ | refine zB rfl ?_ | with_reducible (first | refine zG ?_ | refine zu ?_ | refine zH ?_))
    refine yi (s := 107) [] [(5, [.v (.int .i64 (1 + D.val 60)), .v (.int .i64 (1 + D.next.val 3)), .v (.int .i64 (1 + D.next.next.val 5)), .v (.int .i64 (D.next.next.next.val 3)), .sl 1 (Z.map iv), .v (.int .i64 (1 + F.val 4)), .sl 3 (K.map Lk.av), .v (.string (issW (F.next.val 3))), .v (.string (holW (F.next.next.val 3))), .v (.int .i64 (F.next.next.next.val 100)), .v (.int .i64 (F.next.next.next.val 100 + 1 + F.next.next.next.next.val 51)), .sl 1 (L.map iv ++ [.v (.int .i64 5)])])] rfl trivial ⟨⟨_, _, rfl, .same (.same (.same (.same (.same (.same (.same (.same (.same (.same (.same (.hit .nil)))))))))))⟩, trivial⟩ ?_
    repeat (first | ((with_reducible refine zR ?_); refine zk tbOk rfl rfl rfl rfl (Nat.le_of_ble_eq_true rfl) ?_) | ((with_reducible refine zp ?_); refine zq tbOk rfl rfl rfl rfl rfl rfl rfl (Nat.le_of_ble_eq_true rfl) rfl ?_)  | refine zL ?_ | refine zB rfl ?_ | with_reducible (first | refine zG ?_ | refine zN ?_) | ((with_reducible refine zA ?_ ?_); kernel_rfl))
    refine jp (by first | exact .inr rfl | exact .inl rfl) rfl rfl rfl rfl rfl rfl (by first | rfl | assumption) ?_ rfl ?_ rfl
    · first
        | rfl
        | (simp [docC, Dc.av, Dc.cells, iv]; rfl)
    · rfl
  refine yi (s := 56) [] [(5, [.v (.int .i64 (1 + D.val 60)), .v (.int .i64 (1 + D.next.val 3)), .v (.int .i64 (1 + D.next.next.val 5)), .v (.int .i64 (D.next.next.next.val 3)), .own 83 (v 83), .v (.int .i64 (1 + F.val 4)), .sl 3 (K.map Lk.av), .v (.string (issW (F.next.val 3))), .v (.string (holW (F.next.next.val 3))), .v (.int .i64 (F.next.next.next.val 100)), .v (.int .i64 (F.next.next.next.val 100 + 1 + F.next.next.next.next.val 51)), .sl 1 (L.map iv)])] rfl trivial ⟨⟨_, _, rfl, .same (.same (.same (.same (.same (.same (.same (.same (.same (.same (.same (.hit .nil)))))))))))⟩, trivial⟩ ?_
  refine yi (s := 83) [] [(5, [.v (.int .i64 (1 + D.val 60)), .v (.int .i64 (1 + D.next.val 3)), .v (.int .i64 (1 + D.next.next.val 5)), .v (.int .i64 (D.next.next.next.val 3)), .sl 1 (Z.map iv), .v (.int .i64 (1 + F.val 4)), .sl 3 (K.map Lk.av), .v (.string (issW (F.next.val 3))), .v (.string (holW (F.next.next.val 3))), .v (.int .i64 (F.next.next.next.val 100)), .v (.int .i64 (F.next.next.next.val 100 + 1 + F.next.next.next.next.val 51)), .sl 1 (L.map iv)])] rfl trivial ⟨⟨_, _, rfl, .same (.same (.same (.same (.hit (.same (.same (.same (.same (.same (.same (.same .nil)))))))))))⟩, trivial⟩ ?_
  by_cases h0 : c = 0
  · subst h0
    repeat (first | ((with_reducible refine zK ?_); refine zJ rfl ?_)  | refine zB rfl ?_ | with_reducible (first | refine zG ?_ | refine zo ?_ | refine zH ?_ | refine yB ?_) | ((with_reducible refine ze ?_ ?_); rfl) | ((with_reducible refine zA ?_ ?_); kernel_rfl))
    refine zD (ss := [(refB + 0, v (refB + 0))]) (hn) (by simp) (in1 rfl rfl) rfl (ya rfl) ?_
    repeat (first | ((with_reducible refine zK ?_); refine zJ rfl ?_) | ((with_reducible refine zE ?_); refine zF rfl ?_) | ((with_reducible refine zQ ?_); refine zT rfl rfl rfl ?_) | ((with_reducible refine zr ?_); refine zx tbOk rfl rfl rfl rfl rfl (by omega) rfl rfl rfl ?_) | refine zL ?_ | refine zB rfl ?_ | with_reducible (first | refine zG ?_ | refine zH ?_ | refine zY ?_) | ((with_reducible refine zA ?_ ?_); kernel_rfl) | refine zn rfl (by first | rfl | assumption) ?_)
    refine zD (ss := [(refB + 0, v (refB + 0))]) (jJ E.next 2 hE1 (by omega) (by omega)) (by simp) (in1 rfl rfl) rfl (ya rfl) ?_
    repeat (first | ((with_reducible refine zM ?_); refine zI tbOk rfl rfl rfl rfl ?_) | ((with_reducible refine zR ?_); (first | refine zk tbOk rfl rfl rfl rfl (Nat.le_of_ble_eq_true rfl) ?_ | refine zW tbOk rfl rfl rfl ?_)) | ((with_reducible refine zp ?_); refine zq tbOk rfl rfl rfl rfl rfl rfl rfl (Nat.le_of_ble_eq_true rfl) rfl ?_) | ((with_reducible refine zU ?_); refine yY tbOk rfl rfl rfl rfl (by omega) (by assumption) ?_)  | refine zL ?_ | refine zB rfl ?_ | with_reducible (first | refine zG ?_ | refine zu ?_ | refine zH ?_ | refine zN ?_) | ((with_reducible refine zA ?_ ?_); kernel_rfl))
    refine jp (by first | exact .inr rfl | exact .inl rfl) rfl rfl rfl rfl rfl rfl (by first | rfl | assumption) ?_ rfl ?_ rfl
    · first
        | rfl
        | (simp [docC, Dc.av, Dc.cells, iv]; rfl)
    · rfl
  by_cases h1 : c = 1
  · subst h1
    repeat (first | ((with_reducible refine zK ?_); refine zJ rfl ?_)  | refine zB rfl ?_ | with_reducible (first | refine zG ?_ | refine zo ?_ | refine zH ?_ | refine yB ?_) | ((with_reducible refine ze ?_ ?_); rfl) | ((with_reducible refine zA ?_ ?_); kernel_rfl))
    refine zD (ss := [(refB + 0, v (refB + 0))]) (hn) (by simp) (in1 rfl rfl) rfl (ya rfl) ?_
    repeat (first | ((with_reducible refine zK ?_); refine zJ rfl ?_) | ((with_reducible refine zE ?_); refine zF rfl ?_) | ((with_reducible refine zQ ?_); refine zT rfl rfl rfl ?_)  | refine zL ?_ | refine zB rfl ?_ | with_reducible (first | refine zG ?_ | refine zH ?_ | refine zY ?_) | ((with_reducible refine zA ?_ ?_); kernel_rfl) | refine zn rfl (by first | rfl | assumption) ?_ | refine yF rfl (by first | rfl | assumption) ?_)
    refine zD (ss := [(refB + 0, v (refB + 0))]) (jJ E.next 5 hE1 (by omega) (by omega)) (by simp) (in1 rfl rfl) rfl (ya rfl) ?_
    repeat (first | ((with_reducible refine zK ?_); refine zJ rfl ?_)  | refine zB rfl ?_  )
    refine zD (ss := [(refB + 0, v (refB + 0))]) (jJ E.next.next 8 hE1.next (by omega) (by omega)) (by simp) (in1 rfl rfl) rfl (ya rfl) ?_
    repeat (first | ((with_reducible refine zM ?_); refine zI tbOk rfl rfl rfl rfl ?_) | ((with_reducible refine zR ?_); refine zk tbOk rfl rfl rfl rfl (Nat.le_of_ble_eq_true rfl) ?_) | ((with_reducible refine zp ?_); refine zq tbOk rfl rfl rfl rfl rfl rfl rfl (Nat.le_of_ble_eq_true rfl) rfl ?_)  | refine zL ?_ | refine zB rfl ?_ | with_reducible (first | refine zG ?_ | refine zu ?_ | refine zH ?_ | refine zN ?_) | ((with_reducible refine zA ?_ ?_); kernel_rfl))
    refine jp (by first | exact .inr rfl | exact .inl rfl) rfl rfl rfl rfl rfl rfl (by first | rfl | assumption) ?_ rfl ?_ rfl
    · first
        | rfl
        | (simp [docC, Dc.av, Dc.cells, iv]; rfl)
    · rfl
  by_cases h3 : c = 3
  · subst h3
    repeat (first | ((with_reducible refine zK ?_); refine zJ rfl ?_)  | refine zB rfl ?_ | with_reducible (first | refine zG ?_ | refine zo ?_ | refine zH ?_ | refine yB ?_) | ((with_reducible refine ze ?_ ?_); rfl) | ((with_reducible refine zA ?_ ?_); kernel_rfl))
    refine zD (ss := [(refB + 0, v (refB + 0))]) (hn) (by simp) (in1 rfl rfl) rfl (ya rfl) ?_
    repeat (first | ((with_reducible refine zK ?_); refine zJ rfl ?_) | ((with_reducible refine zE ?_); refine zF rfl ?_) | ((with_reducible refine zQ ?_); refine zT rfl rfl rfl ?_) | ((with_reducible refine zr ?_); refine zx tbOk rfl rfl rfl rfl rfl (by omega) rfl rfl rfl ?_) | refine zL ?_ | refine zB rfl ?_ | with_reducible (first | refine zG ?_ | refine zH ?_ | refine zY ?_) | ((with_reducible refine zA ?_ ?_); kernel_rfl) | refine zn rfl (by first | rfl | assumption) ?_ | refine yF rfl (by first | rfl | assumption) ?_)
    refine zD (ss := [(refB + 0, v (refB + 0))]) (jJ E.next 2 hE1 (by omega) (by omega)) (by simp) (in1 rfl rfl) rfl (ya rfl) ?_
    repeat (first | ((with_reducible refine zM ?_); refine zI tbOk rfl rfl rfl rfl ?_) | ((with_reducible refine zR ?_); (first | refine zk tbOk rfl rfl rfl rfl (Nat.le_of_ble_eq_true rfl) ?_ | refine zW tbOk rfl rfl rfl ?_)) | ((with_reducible refine zp ?_); refine zq tbOk rfl rfl rfl rfl rfl rfl rfl (Nat.le_of_ble_eq_true rfl) rfl ?_) | ((with_reducible refine zU ?_); refine yY tbOk rfl rfl rfl rfl (by omega) (by assumption) ?_)  | refine zL ?_ | refine zB rfl ?_ | with_reducible (first | refine zG ?_ | refine zu ?_ | refine zH ?_ | refine zN ?_) | ((with_reducible refine zA ?_ ?_); kernel_rfl))
    refine jp (by first | exact .inr rfl | exact .inl rfl) rfl rfl rfl rfl rfl rfl (by first | rfl | assumption) ?_ rfl ?_ rfl
    · first
        | rfl
        | (simp [docC, Dc.av, Dc.cells, iv]; rfl)
    · rfl
  by_cases h4 : c = 4
  · subst h4
    repeat (first | ((with_reducible refine zK ?_); refine zJ rfl ?_)  | refine zB rfl ?_ | with_reducible (first | refine zG ?_ | refine zo ?_ | refine zH ?_ | refine yB ?_) | ((with_reducible refine ze ?_ ?_); rfl) | ((with_reducible refine zA ?_ ?_); kernel_rfl))
    refine zD (ss := [(refB + 0, v (refB + 0))]) (hn) (by simp) (in1 rfl rfl) rfl (ya rfl) ?_
    repeat (first | ((with_reducible refine zE ?_); refine zF rfl ?_) | ((with_reducible refine zM ?_); refine zI tbOk rfl rfl rfl rfl ?_) | ((with_reducible refine zR ?_); (first | refine zP tbOk rfl rfl rfl rfl rfl ?_ | refine zk tbOk rfl rfl rfl rfl (Nat.le_of_ble_eq_true rfl) ?_)) | ((with_reducible refine zp ?_); refine zq tbOk rfl rfl rfl rfl rfl rfl rfl (Nat.le_of_ble_eq_true rfl) rfl ?_) | ((with_reducible refine zQ ?_); refine zT rfl rfl rfl ?_)  | refine zL ?_ | refine zB rfl ?_ | with_reducible (first | refine zG ?_ | refine zu ?_ | refine zH ?_ | refine zY ?_ | refine zN ?_) | ((with_reducible refine zA ?_ ?_); kernel_rfl) | refine zn rfl (by first | rfl | assumption) ?_ | refine yF rfl (by first | rfl | assumption) ?_)
    refine jp (by first | exact .inr rfl | exact .inl rfl) rfl rfl rfl rfl rfl rfl (by first | rfl | assumption) ?_ rfl ?_ rfl
    · first
        | rfl
        | (simp [docC, Dc.av, Dc.cells, iv]; rfl)
    · rfl
  by_cases h5 : c = 5
  · subst h5
    repeat (first | ((with_reducible refine zK ?_); refine zJ rfl ?_)  | refine zB rfl ?_ | with_reducible (first | refine zG ?_ | refine zo ?_ | refine zH ?_ | refine yB ?_) | ((with_reducible refine ze ?_ ?_); rfl) | ((with_reducible refine zA ?_ ?_); kernel_rfl))
    refine zD (ss := [(refB + 0, v (refB + 0))]) (hn) (by simp) (in1 rfl rfl) rfl (ya rfl) ?_
    repeat (first | ((with_reducible refine zE ?_); refine zF rfl ?_) | ((with_reducible refine zM ?_); refine zI tbOk rfl rfl rfl rfl ?_) | ((with_reducible refine zR ?_); refine zk tbOk rfl rfl rfl rfl (Nat.le_of_ble_eq_true rfl) ?_) | ((with_reducible refine zp ?_); refine zq tbOk rfl rfl rfl rfl rfl rfl rfl (Nat.le_of_ble_eq_true rfl) rfl ?_) | ((with_reducible refine yM ?_); refine yN tbOk rfl rfl rfl rfl rfl ?_) | ((with_reducible refine zQ ?_); refine zT rfl rfl rfl ?_)  | refine zL ?_ | refine zB rfl ?_ | with_reducible (first | refine zG ?_ | refine zu ?_ | refine zH ?_ | refine zY ?_ | refine zN ?_) | ((with_reducible refine zA ?_ ?_); kernel_rfl) | refine zn rfl (by first | rfl | assumption) ?_ | refine yF rfl (by first | rfl | assumption) ?_)
    refine jp (by first | exact .inr rfl | exact .inl rfl) rfl rfl rfl rfl rfl rfl (by first | rfl | assumption) ?_ rfl ?_ rfl
    · first
        | rfl
        | (simp [docC, Dc.av, Dc.cells, iv]; rfl)
    · rfl
  by_cases h7 : c = 7
  · subst h7
    repeat (first | ((with_reducible refine zK ?_); refine zJ rfl ?_)  | refine zB rfl ?_ | with_reducible (first | refine zG ?_ | refine zo ?_ | refine zH ?_ | refine yB ?_) | ((with_reducible refine ze ?_ ?_); rfl) | ((with_reducible refine zA ?_ ?_); kernel_rfl))
    refine zD (ss := [(refB + 0, v (refB + 0))]) (hn) (by simp) (in1 rfl rfl) rfl (ya rfl) ?_
    repeat (first | ((with_reducible refine zE ?_); refine zF rfl ?_) | ((with_reducible refine zM ?_); refine zI tbOk rfl rfl rfl rfl ?_) | ((with_reducible refine zR ?_); refine zk tbOk rfl rfl rfl rfl (Nat.le_of_ble_eq_true rfl) ?_) | ((with_reducible refine zp ?_); refine zq tbOk rfl rfl rfl rfl rfl rfl rfl (Nat.le_of_ble_eq_true rfl) rfl ?_) | ((with_reducible refine zQ ?_); refine zT rfl rfl rfl ?_)  | refine zL ?_ | refine zB rfl ?_ | with_reducible (first | refine zG ?_ | refine zu ?_ | refine zH ?_ | refine zY ?_ | refine zN ?_) | ((with_reducible refine zA ?_ ?_); kernel_rfl) | refine zn rfl (by first | rfl | assumption) ?_ | refine yF rfl (by first | rfl | assumption) ?_)
    refine jp (by first | exact .inr rfl | exact .inl rfl) rfl rfl rfl rfl rfl rfl (by first | rfl | assumption) ?_ rfl ?_ rfl
    · first
        | rfl
        | (simp [docC, Dc.av, Dc.cells, iv]; rfl)
    · rfl
  rw [rU (by omega)]
  have c0 : (c == 0) = false := by simpa using h0
  have c1 : (c == 1) = false := by simpa using h1
  have c2 : (c == 2) = false := by simpa using h2
  have c3 : (c == 3) = false := by simpa using h3
  have c4 : (c == 4) = false := by simpa using h4
  have c5 : (c == 5) = false := by simpa using h5
  have c6 : (c == 6) = false := by simpa using h6
  have c7 : (c == 7) = false := by simpa using h7
  repeat (first | ((with_reducible refine zK ?_); refine zJ rfl ?_)  | refine zB rfl ?_ | with_reducible (first | refine zG ?_ | refine zo ?_ | refine zH ?_ | refine yB ?_) | ((with_reducible refine ze ?_ ?_); rfl) | ((with_reducible refine zA ?_ ?_); kernel_rfl))
  refine zD (ss := [(refB + 0, v (refB + 0))]) (hn) (by simp) (in1 rfl rfl) rfl (ya rfl) ?_
  repeat (first | ((with_reducible refine zE ?_); refine zF rfl ?_) | ((with_reducible refine zR ?_); refine zk tbOk rfl rfl rfl rfl (Nat.le_of_ble_eq_true rfl) ?_) | ((with_reducible refine zp ?_); refine zq tbOk rfl rfl rfl rfl rfl rfl rfl (Nat.le_of_ble_eq_true rfl) rfl ?_) | ((with_reducible refine zQ ?_); refine zT rfl rfl rfl ?_)  | refine zL ?_ | refine zB rfl ?_ | with_reducible (first | refine zG ?_ | refine zu ?_ | refine zH ?_ | refine zY ?_ | refine zS ?_ | refine zN ?_) | ((with_reducible refine zA ?_ ?_); kernel_rfl) | refine yF rfl (by first | rfl | assumption) ?_)
  refine jp (by first | exact .inr rfl | exact .inl rfl) rfl rfl rfl rfl rfl rfl (by first | rfl | assumption) ?_ rfl ?_ rfl
  · first
      | rfl
      | (simp [docC, Dc.av, Dc.cells, iv]; rfl)
  · rfl
end Go.Proofs.YtjamibeffalhaaaGreatDoor
