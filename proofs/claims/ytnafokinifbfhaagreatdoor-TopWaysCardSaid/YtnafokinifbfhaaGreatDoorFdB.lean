/- zone.enough, lockset.those, Gaps, zone.locked, Isolated, by the abstract machine; conditions: a valid network, valid locks, a zone of it. -/
import Derived.Test.YtnafokinifbfhaaGreatDoorFdA
set_option linter.unusedVariables false
set_option linter.unusedSimpArgs false
namespace Go.Proofs.YtnafokinifbfhaaGreatDoor
open Go Go.RowKit
set_option maxRecDepth 10000
variable {G : Nat → Option (List Value)}
theorem vW (O : List Int) (x : Nat) : (rd O).getD x false = decide (0 ≤ O.getD x (-1)) := by
  unfold rd
  rw [List.getD_eq_getElem?_getD, List.getD_eq_getElem?_getD, List.getElem?_map]
  cases O[x]? <;> simp
theorem atR_rd (O : List Int) (d : Dv) : atR (rd O) d = atB O d := by
  unfold atR atB at0
  rw [vW, vW]
set_option maxHeartbeats 4000000 in
theorem enough_A (N : List Nd) (V : List Dv) (z g : List Int) (hV : ∀ d ∈ V, yY d N.length = true) (hL : ∀ v ∈ z, 0 ≤ v ∧ v < N.length) (h0 : 0 < z.length) (hl : z.length ≤ 32) (hn : N.length ≤ 32) (hv : V.length ≤ 64) (hm : g.length ≤ maxLen) :
    zu Tryz.prog G 65 [qE N V, .sl 1 (z.map iv), .sl 1 (g.map iv)] [] (.v (.bool (jv (fun i => !hasI g i) (flood (fun i => !hasI g i) V N.length z) 0 V))) [] := by
  have hvl : (V.map Dv.av).length = V.length := by simp
  have hR := region_A (G := G) N V z g hV hL h0 hl hn hv hm
  have hOl : (flood (fun i => !hasI g i) V N.length z).length = N.length := (jn (U := fun i => !hasI g i) hV hL).ok.len
  obtain ⟨O, hO⟩ : ∃ O, O = flood (fun i => !hasI g i) V N.length z := ⟨_, rfl⟩
  rw [← hO] at hR hOl ⊢
  refine zf tbOk (zM Tryz.func65 (by kernel_rfl) rfl) Tryz.func65 rfl _ Tryz.ntmps65 (Nat.le_of_ble_eq_true rfl) fun X hX => ?_
  subst hX
  repeat (first | ((with_reducible refine zI ?_); refine zH rfl ?_) | ((with_reducible refine zE ?_); refine zD rfl ?_) | ((with_reducible refine zO ?_); refine zk tbOk rfl rfl rfl rfl (Nat.le_of_ble_eq_true rfl) ?_) | ((with_reducible refine yw ?_); refine yv rfl rfl rfl ?_)  | refine zJ ?_ | refine zB rfl ?_ | with_reducible (first | refine zC ?_ | refine zF ?_) | ((with_reducible refine zA ?_ ?_); kernel_rfl))
  refine zl (hR) (by repeat' (first | exact trivial | exact Ren.sl _ _ | refine zn ?_ | refine ⟨?_, ?_⟩)) (by repeat' exact RenB.sl _ _) ?_
  repeat (first | ((with_reducible refine zI ?_); refine zH rfl ?_) | ((with_reducible refine zE ?_); refine zD rfl ?_) | ((with_reducible refine zK ?_); refine zG tbOk rfl rfl rfl rfl ?_) | ((with_reducible refine zO ?_); refine zL tbOk rfl rfl rfl rfl rfl ?_) | ((with_reducible refine zp ?_); refine yU tbOk rfl rfl ?_)  | refine zJ ?_ | refine zB rfl ?_ | with_reducible (first | refine zC ?_ | refine zF ?_ | refine zU ?_) | ((with_reducible refine zA ?_ ?_); kernel_rfl))
  refine yL (ι := Nat) (fun i => i ≤ V.length ∧ jv (fun i => !hasI g i) O i (V.drop i) = jv (fun i => !hasI g i) O 0 V) (fun i => V.length - i) (fun v i => [(2, .sl 1 (g.map iv)), (3, .ptr 3 (v 3) 0), (7, .sl 1 (bsv (rd O))), (16, .sl 5 (V.map Dv.av)), (17, .v (.int .i64 (V.map Dv.av).length)), (18, .v (.int .i64 (i : Nat)))]) (fun v i => [(3, .box [.sl 3 (N.map Nd.av), .sl 5 (V.map Dv.av)])]) ?_ ?_
  · exact ⟨0, ⟨Nat.zero_le _, rfl⟩, trivial, ⟨rfl, rfl, rfl, rfl, rfl, rfl, trivial⟩, ⟨rfl, trivial⟩⟩
  rintro v i ⟨hi, hf⟩
  repeat (first | ((with_reducible refine zP ?_); refine zS rfl rfl rfl ?_)  | refine zJ ?_ | refine zB rfl ?_ | with_reducible (first | refine zC ?_ | refine zF ?_) | ((with_reducible refine zA ?_ ?_); kernel_rfl))
  refine zX rfl (fun h => ?_) (fun h => ?_)
  · have hlt : i < V.length := by simpa using h
    obtain ⟨d, hd⟩ := zT hlt
    have hy := fW hd
    rw [yq hd, jv] at hf
    have hat := zat_A (G := X.G) (rd O) d (by rw [jR, hOl]; exact hV d (List.mem_of_getElem? hd))
    rw [atR_rd] at hat
    repeat (first | ((with_reducible refine zI ?_); refine zH rfl ?_) | ((with_reducible refine zE ?_); refine zD rfl ?_) | ((with_reducible refine zK ?_); refine zG tbOk rfl rfl rfl rfl ?_) | ((with_reducible refine zO ?_); (first | refine zL tbOk rfl rfl rfl rfl rfl ?_ | refine yQ tbOk rfl rfl (Nat.le_of_ble_eq_true rfl) ?_)) | ((with_reducible refine yN ?_); refine yT tbOk rfl rfl rfl rfl rfl rfl rfl (Nat.le_of_ble_eq_true rfl) rfl ?_) | ((with_reducible refine jB ?_); refine jA tbOk rfl rfl ?_) | ((with_reducible refine zW ?_); refine zb tbOk rfl rfl rfl rfl (by assumption) ?_) | ((with_reducible refine zP ?_); refine zS rfl rfl rfl ?_)  | refine zJ ?_ | refine zB rfl ?_ | with_reducible (first | refine zC ?_ | refine zF ?_ | refine zU ?_ | refine zN ?_) | ((with_reducible refine zA ?_ ?_); kernel_rfl))
    by_cases k5 : d.k = 5
    · have b5 : (d.k == 5) = true := by simpa using k5
      have el : jd (fun i => !hasI g i) i d = true := by unfold jd; simp [k5]
      rw [el, Bool.true_and] at hf
      repeat (first | ((with_reducible refine zI ?_); refine zH rfl ?_) | ((with_reducible refine zO ?_); refine zk tbOk rfl rfl rfl rfl (Nat.le_of_ble_eq_true rfl) ?_) | ((with_reducible refine zZ ?_); refine zh rfl (by first | rfl | assumption) rfl ?_)  | refine zB rfl ?_ | refine zq rfl rfl (by first | rfl | assumption) ?_ | refine yF rfl rfl (by first | rfl | assumption) ?_ | refine qF rfl rfl rfl ?_  )
      refine zl (hat) (by repeat' (first | exact trivial | exact Ren.v _ | exact Ren.sl _ _ | refine zn ?_ | refine ⟨?_, ?_⟩)) (by repeat' exact RenB.v _) ?_
      repeat (first | ((with_reducible refine zZ ?_); refine zh rfl (by first | rfl | assumption) rfl ?_)  | refine zJ ?_ | refine zB rfl ?_ | with_reducible refine zC ?_ )
      refine zX rfl (fun c => ?_) (fun c => ?_)
      · rw [if_pos c] at hf
        repeat (first | ((with_reducible refine zE ?_); refine zD rfl ?_)  | refine zJ ?_ | refine zB rfl ?_ | with_reducible (first | refine zC ?_ | refine zR ?_ | refine zV ?_ | refine zF ?_ | refine zQ ?_) | ((with_reducible refine zA ?_ ?_); kernel_rfl))
        refine zj (by first | exact .inr rfl | exact .inl rfl) rfl rfl ?_
        rw [← hf]
      · rw [if_neg (by rw [c]; decide)] at hf
        repeat (first | ((with_reducible refine zI ?_); refine zH rfl ?_) | ((with_reducible refine zP ?_); refine zY rfl rfl (by omega) ?_)  | refine zJ ?_ | refine zB rfl ?_ | with_reducible (first | refine zC ?_ | refine zd ?_ | refine zN ?_) | ((with_reducible refine zA ?_ ?_); kernel_rfl))
        exact ⟨i + 1, ⟨hlt, hf⟩, by omega, ⟨rfl, rfl, rfl, rfl, rfl, rfl, trivial⟩, ⟨rfl, trivial⟩⟩
    · have b5 : (d.k == 5) = false := by simpa using k5
      by_cases k6 : d.k = 6
      · have b6 : (d.k == 6) = true := by simpa using k6
        repeat (first | ((with_reducible refine zI ?_); refine zH rfl ?_) | ((with_reducible refine zK ?_); refine zG tbOk rfl rfl rfl rfl ?_) | ((with_reducible refine zO ?_); refine zL tbOk rfl rfl rfl rfl rfl ?_) | ((with_reducible refine zP ?_); refine zS rfl rfl rfl ?_)  | refine zq rfl rfl (by first | rfl | assumption) ?_ | refine zt rfl rfl (by first | rfl | assumption) ?_  )
        refine zl (con_I g i hm) (by repeat' (first | exact trivial | exact Ren.v _ | exact Ren.sl _ _ | refine ⟨?_, ?_⟩)) (by repeat' exact RenB.v _) ?_
        cases hg : hasI g i with
        | true =>
          have el : jd (fun i => !hasI g i) i d = false := by unfold jd; simp [k5, k6, hg]
          rw [el, Bool.false_and, if_neg (by decide)] at hf
          repeat (first | ((with_reducible refine zI ?_); refine zH rfl ?_) | ((with_reducible refine k_un ?_); refine jL rfl ?_) | ((with_reducible refine zZ ?_); (first | refine zh rfl (by first | rfl | assumption) rfl ?_ | refine zi rfl (by first | rfl | assumption) rfl ?_)) | ((with_reducible refine zP ?_); refine zY rfl rfl (by omega) ?_)  | refine zJ ?_ | refine zB rfl ?_ | refine zq rfl rfl (by first | rfl | assumption) ?_ | refine yH rfl rfl (by first | rfl | assumption) ?_ | refine zt rfl rfl (by first | rfl | assumption) ?_ | with_reducible (first | refine zC ?_ | refine zd ?_ | refine zN ?_) | ((with_reducible refine zA ?_ ?_); kernel_rfl) | refine zy rfl (by first | rfl | assumption) ?_)
          exact ⟨i + 1, ⟨hlt, hf⟩, by omega, ⟨rfl, rfl, rfl, rfl, rfl, rfl, trivial⟩, ⟨rfl, trivial⟩⟩
        | false =>
          have el : jd (fun i => !hasI g i) i d = true := by unfold jd; simp [k5, k6, hg]
          rw [el, Bool.true_and] at hf
          repeat (first | ((with_reducible refine zI ?_); refine zH rfl ?_) | ((with_reducible refine zO ?_); refine zk tbOk rfl rfl rfl rfl (Nat.le_of_ble_eq_true rfl) ?_) | ((with_reducible refine k_un ?_); refine jL rfl ?_) | ((with_reducible refine zZ ?_); (first | refine zh rfl (by first | rfl | assumption) rfl ?_ | refine zi rfl (by first | rfl | assumption) rfl ?_))  | refine zB rfl ?_ | refine zq rfl rfl (by first | rfl | assumption) ?_ | refine zt rfl rfl (by first | rfl | assumption) ?_  )
          refine zl (hat) (by repeat' (first | exact trivial | exact Ren.v _ | exact Ren.sl _ _ | refine zn ?_ | refine ⟨?_, ?_⟩)) (by repeat' exact RenB.v _) ?_
          repeat (first | ((with_reducible refine zZ ?_); refine zh rfl (by first | rfl | assumption) rfl ?_)  | refine zJ ?_ | refine zB rfl ?_ | with_reducible refine zC ?_ )
          refine zX rfl (fun c => ?_) (fun c => ?_)
          · rw [if_pos c] at hf
            repeat (first | ((with_reducible refine zE ?_); refine zD rfl ?_)  | refine zJ ?_ | refine zB rfl ?_ | with_reducible (first | refine zC ?_ | refine zR ?_ | refine zV ?_ | refine zF ?_ | refine zQ ?_) | ((with_reducible refine zA ?_ ?_); kernel_rfl))
            refine zj (by first | exact .inr rfl | exact .inl rfl) rfl rfl ?_
            rw [← hf]
          · rw [if_neg (by rw [c]; decide)] at hf
            repeat (first | ((with_reducible refine zI ?_); refine zH rfl ?_) | ((with_reducible refine zP ?_); refine zY rfl rfl (by omega) ?_)  | refine zJ ?_ | refine zB rfl ?_ | with_reducible (first | refine zC ?_ | refine zd ?_ | refine zN ?_) | ((with_reducible refine zA ?_ ?_); kernel_rfl))
            exact ⟨i + 1, ⟨hlt, hf⟩, by omega, ⟨rfl, rfl, rfl, rfl, rfl, rfl, trivial⟩, ⟨rfl, trivial⟩⟩
      · have b6 : (d.k == 6) = false := by simpa using k6
        have el : jd (fun i => !hasI g i) i d = false := by unfold jd; simp [k5, k6]
        rw [el, Bool.false_and, if_neg (by decide)] at hf
        repeat (first | ((with_reducible refine zI ?_); refine zH rfl ?_) | ((with_reducible refine zK ?_); refine zG tbOk rfl rfl rfl rfl ?_) | ((with_reducible refine zO ?_); refine zL tbOk rfl rfl rfl rfl rfl ?_) | ((with_reducible refine zZ ?_); refine zi rfl (by first | rfl | assumption) rfl ?_) | ((with_reducible refine zP ?_); (first | refine zY rfl rfl (by omega) ?_ | refine zS rfl rfl rfl ?_))  | refine zJ ?_ | refine zB rfl ?_ | refine yH rfl rfl (by first | rfl | assumption) ?_ | refine zt rfl rfl (by first | rfl | assumption) ?_ | with_reducible (first | refine zC ?_ | refine zd ?_ | refine zN ?_) | ((with_reducible refine zA ?_ ?_); kernel_rfl) | refine zy rfl (by first | rfl | assumption) ?_)
        exact ⟨i + 1, ⟨hlt, hf⟩, by omega, ⟨rfl, rfl, rfl, rfl, rfl, rfl, trivial⟩, ⟨rfl, trivial⟩⟩
  · have hge : ¬ i < V.length := by simpa using h
    rw [List.drop_of_length_le (by omega)] at hf
    repeat (first | ((with_reducible refine zE ?_); refine zD rfl ?_)  | refine zJ ?_ | refine zB rfl ?_ | with_reducible (first | refine zC ?_ | refine ze ?_ | refine zF ?_ | refine zr ?_ | refine zQ ?_) | ((with_reducible refine za ?_ ?_); rfl) | ((with_reducible refine zA ?_ ?_); kernel_rfl))
    refine zj (by first | exact .inr rfl | exact .inl rfl) rfl rfl ?_
    rw [← hf]; rfl
theorem rP (L : List Lk) (p : Int) (e : Bool) : ∀ (W : List Dv) (i : Nat), (aP L p e i W).length ≤ W.length
  | [], i => Nat.le_refl _
  | x :: W, i => by
    rw [aP]
    have := rP L p e W (i + 1)
    split
    · simp; omega
    · simp; omega
set_option maxHeartbeats 4000000 in
theorem those_A (N : List Nd) (V : List Dv) (L : List Lk) (hG : GCls G) (hN : ∀ x ∈ N, x.n.size ≤ maxLen) (hVs : ∀ x ∈ V, x.n.size ≤ maxLen) (h1 : N.length ≤ maxLen) (hv : V.length ≤ 64) (hl : L.length ≤ maxLen) (he : lksE N V L = 0) :
    zu Tryz.prog G 62 [qE N V, .sl 3 (L.map Lk.av), .v (.int .i64 1), .fn 63 []] [] (.tu [.sl 1 ((someP V L 1 false).map iv), .v (.int .i64 0)]) [] := by
  have hvl : (V.map Dv.av).length = V.length := by simp
  have hck := lcheck_A N V L hG hN hVs h1 (by unfold maxLen; omega)
  rw [he] at hck
  unfold someP
  refine zf tbOk (zM Tryz.func62 (by kernel_rfl) rfl) Tryz.func62 rfl _ Tryz.ntmps62 (Nat.le_of_ble_eq_true rfl) fun X hX => ?_
  subst hX
  repeat (first | ((with_reducible refine zI ?_); refine zH rfl ?_) | ((with_reducible refine zE ?_); refine zD rfl ?_) | ((with_reducible refine zO ?_); refine zk tbOk rfl rfl rfl rfl (Nat.le_of_ble_eq_true rfl) ?_) | ((with_reducible refine yw ?_); refine yv rfl rfl rfl ?_)  | refine zJ ?_ | refine zB rfl ?_ | with_reducible (first | refine zC ?_ | refine zF ?_) | ((with_reducible refine zA ?_ ?_); kernel_rfl))
  refine zl (hck) (by repeat' (first | exact trivial | exact Ren.sl _ _ | refine zn ?_ | refine ⟨?_, ?_⟩)) (by repeat' exact RenB.v _) ?_
  repeat (first | ((with_reducible refine zI ?_); refine zH rfl ?_) | ((with_reducible refine zE ?_); refine zD rfl ?_) | ((with_reducible refine zK ?_); refine zG tbOk rfl rfl rfl rfl ?_) | ((with_reducible refine zO ?_); refine zL tbOk rfl rfl rfl rfl rfl ?_) | ((with_reducible refine zp ?_); refine yU tbOk rfl rfl ?_) | ((with_reducible refine zP ?_); refine zS rfl rfl rfl ?_)  | refine zJ ?_ | refine zB rfl ?_ | with_reducible (first | refine zC ?_ | refine zF ?_ | refine zU ?_ | refine zN ?_) | ((with_reducible refine zA ?_ ?_); kernel_rfl) | refine zy rfl (by first | rfl | assumption) ?_)
  refine kN (t := 11) (s := 51) 3 1 rfl rfl ?_
  refine yL (ι := Nat × List Int) (fun i => i.1 ≤ V.length ∧ i.2.length ≤ i.1 ∧ i.2 ++ aP L 1 false i.1 (V.drop i.1) = aP L 1 false 0 V) (fun i => V.length - i.1) (fun v i => [(1, .sl 3 (L.map Lk.av)), (2, .v (.int .i64 1)), (3, .fn 63 []), (4, .ptr 4 (v 4) 0), (11, .own 51 (v 51)), (23, .sl 5 (V.map Dv.av)), (24, .v (.int .i64 (V.map Dv.av).length)), (25, .v (.int .i64 (i.1 : Nat)))]) (fun v i => [(4, .box [.sl 3 (N.map Nd.av), .sl 5 (V.map Dv.av)]), (51, .buf 3 1 (i.2.map iv))]) ?_ ?_
  · exact ⟨(0, []), ⟨Nat.zero_le _, Nat.le_refl _, rfl⟩, trivial, ⟨rfl, rfl, rfl, rfl, rfl, rfl, rfl, rfl, trivial⟩, ⟨rfl, rfl, trivial⟩⟩
  rintro v ⟨i, E⟩ ⟨hi, hE, hf⟩
  dsimp only at hi hE hf ⊢
  have hml : (E.map iv).length = E.length := by simp
  repeat (first | ((with_reducible refine zP ?_); refine zS rfl rfl rfl ?_)  | refine zJ ?_ | refine zB rfl ?_ | with_reducible (first | refine zC ?_ | refine zF ?_) | ((with_reducible refine zA ?_ ?_); kernel_rfl))
  refine zX rfl (fun h => ?_) (fun h => ?_)
  · have hlt : i < V.length := by simpa using h
    obtain ⟨d, hd⟩ := zT hlt
    have hy := fW hd
    rw [yq hd, aP] at hf
    unfold holdsB at hf
    rw [show (if false = true then decide (d.k = 4) else gapB d.k) = gapB d.k from if_neg (fun h => by cases h)] at hf
    obtain ⟨q, hq⟩ : ∃ q, q = yZ L i := ⟨_, rfl⟩
    have hlk := wK (G := X.G) L i hl
    rw [← hq] at hf hlk
    obtain ⟨p, b⟩ := q
    dsimp only at hf hlk
    repeat (first | ((with_reducible refine zI ?_); refine zH rfl ?_) | ((with_reducible refine zE ?_); refine zD rfl ?_) | ((with_reducible refine zO ?_); refine yQ tbOk rfl rfl (Nat.le_of_ble_eq_true rfl) ?_) | ((with_reducible refine yN ?_); refine yT tbOk rfl rfl rfl rfl rfl rfl rfl (Nat.le_of_ble_eq_true rfl) rfl ?_) | ((with_reducible refine jB ?_); refine jA tbOk rfl rfl ?_) | ((with_reducible refine zW ?_); refine zb tbOk rfl rfl rfl rfl (by assumption) ?_)  | refine zJ ?_ | refine zB rfl ?_ | with_reducible (first | refine zC ?_ | refine zF ?_ | refine zU ?_ | refine zN ?_) | ((with_reducible refine zA ?_ ?_); kernel_rfl))
    refine zl (hlk) (by repeat' (first | exact trivial | exact Ren.v _ | exact Ren.sl _ _ | refine ⟨?_, ?_⟩)) (by repeat' (first | exact trivial | exact RenB.v _ | refine yM ?_ | refine ⟨?_, ?_⟩)) ?_
    repeat (first | ((with_reducible refine zI ?_); refine zH rfl ?_) | ((with_reducible refine zE ?_); refine zD rfl ?_) | ((with_reducible refine jP ?_); refine jN rfl rfl ?_)  | refine zJ ?_ | refine zB rfl ?_ | with_reducible (first | refine zC ?_ | refine zF ?_) | ((with_reducible refine zA ?_ ?_); kernel_rfl))
    cases b with
    | false =>
      rw [Bool.false_and, Bool.false_and, if_neg (by decide)] at hf
      repeat (first | ((with_reducible refine zI ?_); refine zH rfl ?_) | ((with_reducible refine zZ ?_); refine zi rfl (by first | rfl | assumption) rfl ?_) | ((with_reducible refine zP ?_); refine zY rfl rfl (by omega) ?_)  | refine zJ ?_ | refine zB rfl ?_ | refine yH rfl rfl (by first | rfl | assumption) ?_ | with_reducible (first | refine zC ?_ | refine zd ?_ | refine zN ?_) | ((with_reducible refine zA ?_ ?_); kernel_rfl) | refine zy rfl (by first | rfl | assumption) ?_)
      exact ⟨(i + 1, E), ⟨hlt, by show E.length ≤ i + 1; omega, hf⟩, by show V.length - (i + 1) < V.length - i; omega, ⟨rfl, rfl, rfl, rfl, rfl, rfl, rfl, rfl, trivial⟩, ⟨rfl, rfl, trivial⟩⟩
    | true =>
      rw [Bool.true_and] at hf
      by_cases hp : p = 1
      · have bp : (p == 1) = true := by simpa using hp
        rw [decide_eq_true hp, Bool.true_and] at hf
        repeat (first | ((with_reducible refine zI ?_); refine zH rfl ?_) | ((with_reducible refine zK ?_); refine zG tbOk rfl rfl rfl rfl ?_) | ((with_reducible refine zO ?_); refine zL tbOk rfl rfl rfl rfl rfl ?_) | ((with_reducible refine zZ ?_); refine zh rfl (by first | rfl | assumption) rfl ?_) | ((with_reducible refine zP ?_); refine zS rfl rfl rfl ?_)  | refine zB rfl ?_ | refine zq rfl rfl (by first | rfl | assumption) ?_  )
        refine kI (ss := []) (cs' := []) (gap_A d.k) rfl (by repeat' (first | exact trivial | exact Ren.v _ | refine ⟨?_, ?_⟩)) (by simp) trivial rfl trivial (by repeat' exact RenB.v _) ?_
        cases hk : gapB d.k with
        | true =>
          rw [hk, if_pos rfl] at hf
          repeat (first | ((with_reducible refine zI ?_); refine zH rfl ?_) | ((with_reducible refine zZ ?_); refine zh rfl (by first | rfl | assumption) rfl ?_) | ((with_reducible refine yP ?_); refine yO tbOk rfl rfl rfl rfl rfl (by omega) rfl rfl rfl ?_) | refine zJ ?_ | refine zB rfl ?_ | with_reducible refine zC ?_ | ((with_reducible refine zA ?_ ?_); kernel_rfl) | refine yJ rfl (by first | rfl | assumption) ?_)
          refine ye tbOk rfl rfl rfl rfl rfl (by decide) rfl rfl rfl rfl rfl (fun x hx => by simp at hx; subst hx; rfl) (by simp only [List.length_map, List.length_cons, List.length_nil]; omega) (by simp only [List.length_map, List.length_cons, List.length_nil]; omega) ?_
          repeat (first | ((with_reducible refine zI ?_); refine zH rfl ?_) | ((with_reducible refine zE ?_); refine zD rfl ?_) | ((with_reducible refine zP ?_); refine zY rfl rfl (by omega) ?_)  | refine zJ ?_ | refine zB rfl ?_ | with_reducible (first | refine zC ?_ | refine zd ?_) | ((with_reducible refine zA ?_ ?_); kernel_rfl))
          exact ⟨(i + 1, E ++ [(i : Int)]), ⟨hlt, by simp; omega, by rw [← hf]; simp⟩, by show V.length - (i + 1) < V.length - i; omega, ⟨rfl, rfl, rfl, rfl, rfl, rfl, rfl, rfl, trivial⟩, ⟨rfl, jV (by rw [List.map_append]; rfl), trivial⟩⟩
        | false =>
          rw [hk, if_neg (by decide)] at hf
          repeat (first | ((with_reducible refine zI ?_); refine zH rfl ?_) | ((with_reducible refine zZ ?_); refine zh rfl (by first | rfl | assumption) rfl ?_) | ((with_reducible refine zP ?_); refine zY rfl rfl (by omega) ?_)  | refine zJ ?_ | refine zB rfl ?_ | with_reducible (first | refine zC ?_ | refine zd ?_ | refine zN ?_) | ((with_reducible refine zA ?_ ?_); kernel_rfl) | refine zy rfl (by first | rfl | assumption) ?_)
          exact ⟨(i + 1, E), ⟨hlt, by show E.length ≤ i + 1; omega, hf⟩, by show V.length - (i + 1) < V.length - i; omega, ⟨rfl, rfl, rfl, rfl, rfl, rfl, rfl, rfl, trivial⟩, ⟨rfl, rfl, trivial⟩⟩
      · have bp : (p == 1) = false := by simpa using hp
        rw [decide_eq_false hp, Bool.false_and, if_neg (by decide)] at hf
        repeat (first | ((with_reducible refine zI ?_); refine zH rfl ?_) | ((with_reducible refine zZ ?_); (first | refine zh rfl (by first | rfl | assumption) rfl ?_ | refine zi rfl (by first | rfl | assumption) rfl ?_)) | ((with_reducible refine zP ?_); (first | refine zY rfl rfl (by omega) ?_ | refine zS rfl rfl rfl ?_))  | refine zJ ?_ | refine zB rfl ?_ | refine zq rfl rfl (by first | rfl | assumption) ?_ | refine yH rfl rfl (by first | rfl | assumption) ?_ | with_reducible (first | refine zC ?_ | refine zd ?_ | refine zN ?_) | ((with_reducible refine zA ?_ ?_); kernel_rfl) | refine zy rfl (by first | rfl | assumption) ?_)
        exact ⟨(i + 1, E), ⟨hlt, by show E.length ≤ i + 1; omega, hf⟩, by show V.length - (i + 1) < V.length - i; omega, ⟨rfl, rfl, rfl, rfl, rfl, rfl, rfl, rfl, trivial⟩, ⟨rfl, rfl, trivial⟩⟩
  · have hge : ¬ i < V.length := by simpa using h
    rw [List.drop_of_length_le (by omega)] at hf
    have hf' : aP L 1 false 0 V = E := by rw [← hf]; simp [aP]
    rw [hf']
    repeat (first | ((with_reducible refine zI ?_); refine zH rfl ?_) | ((with_reducible refine zE ?_); refine zD rfl ?_)  | refine zJ ?_ | refine zB rfl ?_ | with_reducible (first | refine zC ?_ | refine ze ?_ | refine zF ?_ | refine zr ?_ | refine zQ ?_) | ((with_reducible refine za ?_ ?_); rfl) | ((with_reducible refine zA ?_ ?_); kernel_rfl))
    refine jx (by first | exact .inr rfl | exact .inl rfl) rfl rfl rfl ?_
    repeat' (first | exact trivial | exact Ren.v _ | exact Ren.own _ _ _ _ ⟨_, rfl⟩ | refine zz ?_ | refine ⟨?_, ?_⟩)
def fH (V : List Dv) (L : List Lk) : List Int := someP V L 1 false
theorem nY (V : List Dv) (L : List Lk) : (fH V L).length ≤ V.length := rP L 1 false V 0
theorem gaps_A (N : List Nd) (V : List Dv) (L : List Lk) (hG : GCls G) (hN : ∀ x ∈ N, x.n.size ≤ maxLen) (hVs : ∀ x ∈ V, x.n.size ≤ maxLen) (h1 : N.length ≤ maxLen) (hv : V.length ≤ 64) (hl : L.length ≤ maxLen) (he : lksE N V L = 0) :
    zu Tryz.prog G 30 [qE N V, .sl 3 (L.map Lk.av)] [] (.tu [.sl 1 ((fH V L).map iv), .v (.int .i64 0)]) [] := by
  have ht := those_A (G := G) N V L hG hN hVs h1 hv hl he
  unfold fH
  refine zf tbOk (zM Tryz.func30 (by kernel_rfl) rfl) Tryz.func30 rfl _ Tryz.ntmps30 (Nat.le_of_ble_eq_true rfl) fun X hX => ?_
  subst hX
  repeat (first | ((with_reducible refine zI ?_); refine zH rfl ?_) | ((with_reducible refine zE ?_); refine zD rfl ?_) | ((with_reducible refine zO ?_); refine zk tbOk rfl rfl rfl rfl (Nat.le_of_ble_eq_true rfl) ?_) | ((with_reducible refine yw ?_); refine yv rfl rfl rfl ?_)  | refine zJ ?_ | refine zB rfl ?_ | with_reducible (first | refine zC ?_ | refine zF ?_) | ((with_reducible refine zA ?_ ?_); kernel_rfl))
  refine zl (ht) (by repeat' (first | exact trivial | exact Ren.v _ | exact Ren.sl _ _ | refine zn ?_ | refine yG ?_ | refine ⟨?_, ?_⟩)) (by repeat' (first | exact trivial | exact RenB.v _ | exact RenB.sl _ _ | refine yM ?_ | refine ⟨?_, ?_⟩)) ?_
  repeat (first | ((with_reducible refine zE ?_); refine zD rfl ?_) | ((with_reducible refine jP ?_); refine jN rfl rfl ?_)  | refine zJ ?_ | refine zB rfl ?_ | with_reducible (first | refine zC ?_ | refine zQ ?_) )
  refine jx (by first | exact .inr rfl | exact .inl rfl) rfl rfl rfl ?_
  repeat' (first | exact trivial | exact Ren.v _ | exact Ren.sl _ _ | refine zz ?_ | refine ⟨?_, ?_⟩)
theorem xI (N : List Nd) (V : List Dv) (L : List Lk) (z : List Int) (hG : GCls G) (hN : ∀ x ∈ N, x.n.size ≤ maxLen) (hVs : ∀ x ∈ V, x.n.size ≤ maxLen) (h1 : N.length ≤ maxLen) (hv : V.length ≤ 64) (hl : L.length ≤ maxLen) (h0 : netE N V = 0) (he : lksE N V L = 0) (hz : z ≠ []) (hr : risB N.length (-1) z = true) (hm : z.length ≤ maxLen) :
    zu Tryz.prog G 64 [qE N V, .sl 3 (L.map Lk.av), .sl 1 (z.map iv)] [] (.tu [.sl 1 ((fH V L).map iv), .v (.int .i64 0)]) [] := by
  have ht := gaps_A (G := G) N V L hG hN hVs h1 hv hl he
  have hc := zcheck_A (G := G) N V z hG hN hVs h1 (by unfold maxLen; omega) h0 hz hr hm
  refine zf tbOk (zM Tryz.func64 (by kernel_rfl) rfl) Tryz.func64 rfl _ Tryz.ntmps64 (Nat.le_of_ble_eq_true rfl) fun X hX => ?_
  subst hX
  repeat (first | ((with_reducible refine zI ?_); refine zH rfl ?_) | ((with_reducible refine zE ?_); refine zD rfl ?_) | ((with_reducible refine zO ?_); refine zk tbOk rfl rfl rfl rfl (Nat.le_of_ble_eq_true rfl) ?_) | ((with_reducible refine yw ?_); refine yv rfl rfl rfl ?_)  | refine zJ ?_ | refine zB rfl ?_ | with_reducible (first | refine zC ?_ | refine zF ?_) | ((with_reducible refine zA ?_ ?_); kernel_rfl))
  refine zl (ht) (by repeat' (first | exact trivial | exact Ren.sl _ _ | refine zn ?_ | refine ⟨?_, ?_⟩)) (by repeat' (first | exact trivial | exact RenB.v _ | exact RenB.sl _ _ | refine yM ?_ | refine ⟨?_, ?_⟩)) ?_
  repeat (first | ((with_reducible refine zI ?_); refine zH rfl ?_) | ((with_reducible refine zE ?_); refine zD rfl ?_) | ((with_reducible refine zO ?_); refine zk tbOk rfl rfl rfl rfl (Nat.le_of_ble_eq_true rfl) ?_) | ((with_reducible refine jP ?_); refine jN rfl rfl ?_) | ((with_reducible refine zP ?_); refine zS rfl rfl rfl ?_)  | refine zJ ?_ | refine zB rfl ?_ | with_reducible (first | refine zC ?_ | refine zF ?_) | ((with_reducible refine zA ?_ ?_); kernel_rfl) | refine yJ rfl (by first | rfl | assumption) ?_)
  refine zl (hc) (by repeat' (first | exact trivial | exact Ren.sl _ _ | refine zn ?_ | refine ⟨?_, ?_⟩)) (by repeat' exact RenB.v _) ?_
  repeat (first | ((with_reducible refine zI ?_); refine zH rfl ?_) | ((with_reducible refine zE ?_); refine zD rfl ?_)  | refine zJ ?_ | refine zB rfl ?_ | with_reducible (first | refine zC ?_ | refine zF ?_ | refine zQ ?_) | ((with_reducible refine zA ?_ ?_); kernel_rfl))
  refine jx (by first | exact .inr rfl | exact .inl rfl) rfl rfl rfl ?_
  repeat' (first | exact trivial | exact Ren.v _ | exact Ren.sl _ _ | refine zz ?_ | refine ⟨?_, ?_⟩)
theorem tI (N : List Nd) (V : List Dv) (L : List Lk) (z : List Int) (hG : GCls G) (hN : ∀ x ∈ N, x.n.size ≤ maxLen) (hVs : ∀ x ∈ V, x.n.size ≤ maxLen) (hV : ∀ d ∈ V, yY d N.length = true) (hn : N.length ≤ 32) (hv : V.length ≤ 64) (hl : L.length ≤ maxLen) (h0 : netE N V = 0) (he : lksE N V L = 0) (hz : z ≠ []) (hr : risB N.length (-1) z = true) (hm : z.length ≤ 32) (hL : ∀ v ∈ z, 0 ≤ v ∧ v < N.length) :
    zu Tryz.prog G 31 [qE N V, .sl 3 (L.map Lk.av), .sl 1 (z.map iv)] [] (.tu [.v (.bool (jv (fun i => !hasI (fH V L) i) (flood (fun i => !hasI (fH V L) i) V N.length z) 0 V)), .v (.int .i64 0)]) [] := by
  have ht := xI (G := G) N V L z hG hN hVs (by unfold maxLen; omega) hv hl h0 he hz hr (by unfold maxLen; omega)
  have hg := nY V L
  have hc := enough_A (G := G) N V z (fH V L) hV hL (List.length_pos_iff.2 hz) hm hn hv (by unfold maxLen; omega)
  refine zf tbOk (zM Tryz.func31 (by kernel_rfl) rfl) Tryz.func31 rfl _ Tryz.ntmps31 (Nat.le_of_ble_eq_true rfl) fun X hX => ?_
  subst hX
  repeat (first | ((with_reducible refine zI ?_); refine zH rfl ?_) | ((with_reducible refine zE ?_); refine zD rfl ?_) | ((with_reducible refine zO ?_); refine zk tbOk rfl rfl rfl rfl (Nat.le_of_ble_eq_true rfl) ?_) | ((with_reducible refine yw ?_); refine yv rfl rfl rfl ?_)  | refine zJ ?_ | refine zB rfl ?_ | with_reducible (first | refine zC ?_ | refine zF ?_) | ((with_reducible refine zA ?_ ?_); kernel_rfl))
  refine zl (ht) (by repeat' (first | exact trivial | exact Ren.sl _ _ | refine zn ?_ | refine ⟨?_, ?_⟩)) (by repeat' (first | exact trivial | exact RenB.v _ | exact RenB.sl _ _ | refine yM ?_ | refine ⟨?_, ?_⟩)) ?_
  repeat (first | ((with_reducible refine zI ?_); refine zH rfl ?_) | ((with_reducible refine zE ?_); refine zD rfl ?_) | ((with_reducible refine zO ?_); refine zk tbOk rfl rfl rfl rfl (Nat.le_of_ble_eq_true rfl) ?_) | ((with_reducible refine jP ?_); refine jN rfl rfl ?_) | ((with_reducible refine zP ?_); refine zS rfl rfl rfl ?_)  | refine zJ ?_ | refine zB rfl ?_ | with_reducible (first | refine zC ?_ | refine zF ?_ | refine zN ?_) | ((with_reducible refine zA ?_ ?_); kernel_rfl) | refine zy rfl (by first | rfl | assumption) ?_)
  refine zl (hc) (by repeat' (first | exact trivial | exact Ren.sl _ _ | refine zn ?_ | refine ⟨?_, ?_⟩)) (by repeat' exact RenB.v _) ?_
  repeat (first | ((with_reducible refine zE ?_); refine zD rfl ?_)  | refine zJ ?_ | refine zB rfl ?_ | with_reducible (first | refine zC ?_ | refine zQ ?_) )
  refine jx (by first | exact .inr rfl | exact .inl rfl) rfl rfl rfl ?_
  repeat' (first | exact trivial | exact Ren.v _ | refine zz ?_ | refine ⟨?_, ?_⟩)
end Go.Proofs.YtnafokinifbfhaaGreatDoor
