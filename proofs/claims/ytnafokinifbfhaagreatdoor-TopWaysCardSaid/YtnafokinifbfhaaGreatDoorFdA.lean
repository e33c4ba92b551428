/- network.Flood with a closure that says which devices may be used, and zone.region, by the abstract machine; conditions: a network whose ends are right. -/
import Derived.Test.YtnafokinifbfhaaGreatDoorDiA
import Derived.Test.YtnafokinifbfhaaGreatDoorLcC
set_option linter.unusedVariables false
set_option linter.unusedSimpArgs false
namespace Go.Proofs.YtnafokinifbfhaaGreatDoor
open Go Go.RowKit
set_option maxRecDepth 10000
variable {G : Nat → Option (List Value)}
def rd (O : List Int) : List Bool := O.map fun x => decide (0 ≤ x)
theorem jR (O : List Int) : (rd O).length = O.length := by simp [rd]
theorem rd_set (O : List Int) (k : Nat) (x : Int) (h : 0 ≤ x) : (rd O).set k true = rd (O.set k x) := by
  unfold rd; rw [List.map_set]; simp [h]
theorem rd_get {O : List Int} {k : Nat} (h : k < O.length) : (rd O)[k]? = some (!decide (O.getD k 0 < 0)) := by
  obtain ⟨z, hz⟩ := zT h
  unfold rd
  rw [List.getElem?_map, hz, List.getD_eq_getElem?_getD, hz]
  simp only [Option.map_some, Option.getD_some]
  by_cases h : 0 ≤ z
  · rw [decide_eq_true h, decide_eq_false (by omega)]; rfl
  · rw [decide_eq_false h, decide_eq_true (by omega)]; rfl
theorem qJ : ∀ R : List Bool, (bsv R).flatMap AV.cells = bsv R
  | [] => rfl
  | b :: R => by
    have := qJ R
    unfold bsv at this ⊢
    rw [List.map_cons, List.flatMap_cons, this]; rfl
theorem rd_at {O : List Int} {z : Int} (h : z.toNat < O.length) : ((bsv (rd O)).flatMap AV.cells)[z.toNat * 1]? = some (.v (.bool (!decide (O.getD z.toNat 0 < 0)))) := by
  rw [qJ, Nat.mul_one, oK (rd_get h)]
theorem rd_put {O : List Int} {z x : Int} (h : 0 ≤ x) : (bsv (rd (O.set z.toNat x))).flatMap AV.cells = putL ((bsv (rd O)).flatMap AV.cells) (z.toNat * 1) [.v (.bool true)] := by
  rw [qJ, qJ, Nat.mul_one, vK, rd_set _ _ _ h]
theorem iI (R : List Bool) : ∀ x ∈ bsv R, x.cells.length = 1 := fun x hx => by
  unfold bsv at hx
  obtain ⟨b, _, rfl⟩ := List.mem_map.1 hx
  rfl
set_option maxHeartbeats 8000000 in
theorem flood_A (N : List Nd) (V : List Dv) (U : Nat → Bool) (L : List Int) (f : FuncId) (c : List AV) (hV : ∀ d ∈ V, yY d N.length = true) (hf : ∀ i : Nat, i < V.length → zu Tryz.prog G f [.v (.int .i64 (i : Nat)), .ptr (refB + 0) 0 0] [c] (.v (.bool (U i))) [c]) (hc : qD c = true) (hL : ∀ v ∈ L, 0 ≤ v ∧ v < N.length) (h0 : 0 < L.length) (hl : L.length ≤ 32) (hn : N.length ≤ 32) (hv : V.length ≤ 64) :
    zu Tryz.prog G 149 [qE N V, .sl 1 (L.map iv), .fn f [.ptr (refB + 0) 0 0], .fn 150 []] [c] (.sl 1 (bsv (rd (Go.Proofs.YtnafokinifbfhaaGreatDoor.flood U V N.length L)))) [c] := by
  have hml : (L.map iv).length = L.length := by simp
  have hvl : (V.map Dv.av).length = V.length := by simp
  have hnl : (N.map Nd.av).length = N.length := by simp
  refine zf tbOk (zM Tryz.func149 (by kernel_rfl) rfl) Tryz.func149 rfl _ Tryz.ntmps149 (Nat.le_of_ble_eq_true rfl) fun X hX => ?_
  subst hX
  repeat (first | ((with_reducible refine zE ?_); refine zD rfl ?_) | ((with_reducible refine zK ?_); refine zG tbOk rfl rfl rfl rfl ?_) | ((with_reducible refine zO ?_); refine zL tbOk rfl rfl rfl rfl rfl ?_) | ((with_reducible refine yw ?_); refine yv rfl rfl rfl ?_) | ((with_reducible refine zp ?_); refine yU tbOk rfl rfl ?_)  | refine zJ ?_ | refine zB rfl ?_ | with_reducible (first | refine zC ?_ | refine zF ?_) | ((with_reducible refine zA ?_ ?_); kernel_rfl))
  with_reducible refine iX ?_
  refine lF (zc := .v (.bool false)) tbOk rfl rfl rfl rfl rfl (by decide) rfl (by intro z hz; simp at hz; subst hz; rfl) rfl rfl (by omega) (by omega) rfl ?_
  repeat (first | ((with_reducible refine zI ?_); refine zH rfl ?_) | ((with_reducible refine zE ?_); refine zD rfl ?_)  | refine zJ ?_ | refine zB rfl ?_ | with_reducible (first | refine zC ?_ | refine zF ?_) | ((with_reducible refine zA ?_ ?_); kernel_rfl))
  refine iS (sT (L.map iv) (iv_one L) (by omega)) (by omega) (by repeat' (first | exact trivial | exact Ren.sl _ _ | refine ⟨?_, ?_⟩)) rfl ?_
  repeat (first | ((with_reducible refine zI ?_); refine zH rfl ?_) | ((with_reducible refine zE ?_); refine zD rfl ?_) | ((with_reducible refine zp ?_); refine yU tbOk rfl rfl ?_)  | refine zJ ?_ | refine zB rfl ?_ | with_reducible (first | refine zC ?_ | refine zF ?_ | refine zU ?_) | ((with_reducible refine zA ?_ ?_); kernel_rfl))
  refine jG (ι := Nat) (fun v j => v (refB + 0) = 0 ∧ j ≤ L.length) (fun j => L.length - j) (fun v j => [(2, .fn f [.ptr (refB + 0) (v (refB + 0)) 0]), (3, .fn 150 []), (4, .ptr 4 (v 4) 0), (9, .own 19 (v 19)), (10, .own 21 (v 21)), (22, .sl 1 (L.map iv)), (23, .v (.int .i64 (L.map iv).length)), (24, .v (.int .i64 (j : Nat)))]) (fun v j => [(refB + 0, .box c), (4, .box [.sl 3 (N.map Nd.av), .sl 5 (V.map Dv.av)]), (19, .buf 4 1 (bsv (rd (yu N.length (L.take j))))), (21, .ob (.qu 3 1 (L.map iv)))]) ?_ ?_
  · refine ⟨0, ⟨rfl, Nat.zero_le _⟩, trivial, ⟨rfl, rfl, rfl, rfl, rfl, rfl, rfl, rfl, trivial⟩, ⟨rfl, rfl, jV ?_, rfl, trivial⟩⟩
    rw [hnl, show yu N.length (L.take 0) = List.replicate N.length (-1) from rfl]
    unfold rd bsv
    rw [List.map_replicate, List.map_replicate]; rfl
  rintro v j ⟨hv0, hj⟩
  repeat (first | ((with_reducible refine zP ?_); refine zS rfl rfl rfl ?_)  | refine zJ ?_ | refine zB rfl ?_ | with_reducible (first | refine zC ?_ | refine zF ?_) | ((with_reducible refine zA ?_ ?_); kernel_rfl))
  refine zX rfl (fun h => ?_) (fun h => ?_)
  · have hlt : j < L.length := by simpa using h
    obtain ⟨x, hx⟩ := zT hlt
    have hy := mM hx
    have hxr := hL x (List.mem_of_getElem? hx)
    have hmk : (yu N.length (L.take j)).length = N.length := qA
    repeat (first | ((with_reducible refine zI ?_); refine zH rfl ?_) | ((with_reducible refine zE ?_); refine zD rfl ?_) | ((with_reducible refine zO ?_); refine zm tbOk rfl rfl rfl ?_) | ((with_reducible refine zW ?_); refine zb tbOk rfl rfl rfl rfl (by assumption) ?_)  | refine zJ ?_ | refine zB rfl ?_ | with_reducible (first | refine zC ?_ | refine zF ?_ | refine zU ?_ | refine zN ?_) | ((with_reducible refine zA ?_ ?_); kernel_rfl))
    (with_reducible refine zW ?_); refine jY tbOk rfl rfl rfl rfl rfl rfl ⟨by omega, by rw [yr, jR]; omega⟩ ?_
    repeat (first   | refine zB rfl ?_  )
    (with_reducible refine yN ?_); refine fE (L' := bsv (rd ((yu N.length (L.take j)).set x.toNat 0))) tbOk rfl rfl rfl rfl rfl rfl rfl rfl rfl (by rw [qJ, yr, jR]; omega) (by simp [yr, jR]) (iI _) (rd_put (by omega)) ?_
    repeat (first | ((with_reducible refine zI ?_); refine zH rfl ?_) | ((with_reducible refine zP ?_); refine zY rfl rfl (by omega) ?_)  | refine zJ ?_ | refine zB rfl ?_ | with_reducible (first | refine zC ?_ | refine zd ?_) | ((with_reducible refine zA ?_ ?_); kernel_rfl))
    exact ⟨j + 1, ⟨hv0, by omega⟩, by omega, ⟨rfl, rfl, rfl, rfl, rfl, rfl, rfl, rfl, trivial⟩, ⟨rfl, rfl, jV (by rw [mO hx]), rfl, trivial⟩⟩
  have hjl : L.take j = L := by rw [List.take_of_length_le]; simp at h; omega
  rw [hjl]
  repeat (first    | with_reducible (first | refine zC ?_ | refine ze ?_ | refine zF ?_ | refine zU ?_ | refine zr ?_) | ((with_reducible refine za ?_ ?_); rfl) )
  refine jG (ι := Fl) (fun v S => v (refB + 0) = 0 ∧ FlInv U V L N.length S ∧ mu S ≤ 1000 ∧ ∃ k, S = brun U V k (yu N.length L, L)) mu (fun v S => [(2, .fn f [.ptr (refB + 0) (v (refB + 0)) 0]), (3, .fn 150 []), (4, .ptr 4 (v 4) 0), (9, .own 19 (v 19)), (10, .own 21 (v 21))]) (fun v S => [(refB + 0, .box c), (4, .box [.sl 3 (N.map Nd.av), .sl 5 (V.map Dv.av)]), (19, .buf 4 1 (bsv (rd S.1))), (21, .ob (.qu 3 1 (S.2.map iv)))]) ?_ ?_
  · refine ⟨(yu N.length L, L), ⟨hv0, cD hL, ?_, 0, rfl⟩, trivial, ⟨rfl, rfl, rfl, rfl, rfl, trivial⟩, ⟨rfl, rfl, rfl, rfl, trivial⟩⟩
    refine Nat.le_trans mu_le ?_
    dsimp only
    rw [qA]; omega
  clear v h hj hjl hv0
  rintro v S ⟨hv0, hI, hmu, kk, hS⟩
  have hlS : S.1.length = N.length := hI.ok.len
  repeat (first | ((with_reducible refine zI ?_); refine zH rfl ?_)  | refine zB rfl ?_ | with_reducible refine zF ?_ | ((with_reducible refine zA ?_ ?_); kernel_rfl))
  with_reducible refine zp ?_
  refine sR (e := 3) (sz := 1) (q := some (S.2.map iv)) tbOk rfl rfl rfl rfl ?_
  repeat (first | ((with_reducible refine zP ?_); refine zS rfl rfl rfl ?_)  | refine zJ ?_ | refine zB rfl ?_ | with_reducible refine zC ?_ )
  have hqm : (S.2.map iv).length = S.2.length := by simp
  refine zX rfl (fun h => ?_) (fun h => ?_)
  · have hq0 : 0 < S.2.length := by rw [← hqm]; simpa [qL] using h
    obtain ⟨x, Q, hSQ⟩ : ∃ x Q, S.2 = x :: Q := by
      cases hq : S.2 with
      | nil => rw [hq] at hq0; simp at hq0
      | cons x Q => exact ⟨x, Q, rfl⟩
    obtain ⟨hx0, kx, hkx⟩ := hI.ok.wait x (by rw [hSQ]; simp)
    have hxn : x.toNat < N.length := by rw [← hlS]; exact zo hkx
    obtain ⟨hIr, hlt⟩ := aW (U := U) hV hI
    have hlt := hlt (by rw [hSQ]; simp)
    have hok0 : FlOk U V L N.length (S.1, Q) := ⟨hI.ok.len, fun q hq' => hI.ok.wait q (by rw [hSQ]; simp [hq']), hI.ok.low, hI.ok.rch, hI.ok.pre⟩
    have hbr : aD U x 0 V (S.1, Q) = jq U V S := by unfold jq; rw [hSQ]
    have hmu0 : mu (S.1, Q) ≤ 1000 := by unfold mu at hmu ⊢; rw [hSQ] at hmu; simp at hmu ⊢; omega
    rw [hSQ]
    repeat (first | ((with_reducible refine zI ?_); refine zH rfl ?_)  | refine zB rfl ?_ | with_reducible (first | refine zC ?_ | refine zF ?_ | refine zU ?_ | refine zN ?_) | ((with_reducible refine zA ?_ ?_); kernel_rfl))
    with_reducible refine zW ?_
    refine qt (Q := (x :: Q).map iv) tbOk rfl rfl rfl rfl rfl rfl ⟨by decide, by simp⟩ ?_
    repeat (first   | refine zB rfl ?_  )
    with_reducible refine zO ?_
    refine aO (y := iv x) (Q := (x :: Q).map iv) tbOk rfl rfl rfl rfl rfl ?_
    repeat (first   | refine zB rfl ?_  )
    refine kI (ss := []) (cs' := []) (stops_A x) rfl (by repeat' (first | exact trivial | exact Ren.v _ | refine ⟨?_, ?_⟩)) (by simp) trivial rfl trivial (by repeat' exact RenB.v _) ?_
    repeat (first | ((with_reducible refine zI ?_); refine zH rfl ?_) | ((with_reducible refine zK ?_); refine zG tbOk rfl rfl rfl rfl ?_) | ((with_reducible refine zO ?_); refine zL tbOk rfl rfl rfl rfl rfl ?_) | ((with_reducible refine zp ?_); refine yU tbOk rfl rfl ?_)  | refine zJ ?_ | refine zB rfl ?_ | with_reducible (first | refine zC ?_ | refine zF ?_ | refine zU ?_ | refine zN ?_) | ((with_reducible refine zA ?_ ?_); kernel_rfl) | refine zy rfl (by first | rfl | assumption) ?_)
    refine jG (ι := Nat × Fl) (fun v i => v (refB + 0) = 0 ∧ i.1 ≤ V.length ∧ FlOk U V L N.length i.2 ∧ i.2.1[x.toNat]? = some (kx : Int) ∧ aD U x i.1 (V.drop i.1) i.2 = jq U V S ∧ mu i.2 ≤ 1000) (fun i => V.length - i.1) (fun v i => [(2, .fn f [.ptr (refB + 0) (v (refB + 0)) 0]), (3, .fn 150 []), (4, .ptr 4 (v 4) 0), (9, .own 19 (v 19)), (10, .own 21 (v 21)), (43, .sl 5 (V.map Dv.av)), (44, .v (.int .i64 (V.map Dv.av).length)), (45, .v (.int .i64 (i.1 : Nat)))]) (fun v i => [(refB + 0, .box c), (4, .box [.sl 3 (N.map Nd.av), .sl 5 (V.map Dv.av)]), (19, .buf 4 1 (bsv (rd i.2.1))), (21, .ob (.qu 3 1 ((x :: i.2.2).map iv)))]) ?_ ?_
    · exact ⟨(0, (S.1, Q)), ⟨hv0, Nat.zero_le _, hok0, hkx, hbr, hmu0⟩, trivial, ⟨rfl, rfl, rfl, rfl, rfl, rfl, rfl, rfl, trivial⟩, ⟨rfl, rfl, rfl, rfl, trivial⟩⟩
    clear v h hv0
    rintro v ⟨i, T⟩ ⟨hv0, hi, hT, hTx, hTb, hTm⟩
    dsimp only at hv0 hi hT hTx hTb hTm ⊢
    have hlT : T.1.length = N.length := hT.len
    have hTq : T.2.length ≤ 1000 := by unfold mu at hTm; omega
    repeat (first | ((with_reducible refine zP ?_); refine zS rfl rfl rfl ?_)  | refine zJ ?_ | refine zB rfl ?_ | with_reducible (first | refine zC ?_ | refine zF ?_) | ((with_reducible refine zA ?_ ?_); kernel_rfl))
    refine zX rfl (fun h => ?_) (fun h => ?_)
    · have hlt2 : i < V.length := by simpa using h
      obtain ⟨d, hd⟩ := zT hlt2
      have hy := fW hd
      obtain ⟨b1, b2, -, -, -, b6⟩ := oS hV hT hx0 hTx hd
      rw [yq hd, aD] at hTb
      repeat (first | ((with_reducible refine zI ?_); refine zH rfl ?_) | ((with_reducible refine zE ?_); refine zD rfl ?_) | ((with_reducible refine zO ?_); (first | refine zk tbOk rfl rfl rfl rfl (Nat.le_of_ble_eq_true rfl) ?_ | refine yQ tbOk rfl rfl (Nat.le_of_ble_eq_true rfl) ?_)) | ((with_reducible refine yN ?_); refine yT tbOk rfl rfl rfl rfl rfl rfl rfl (Nat.le_of_ble_eq_true rfl) rfl ?_) | ((with_reducible refine jB ?_); refine jA tbOk rfl rfl ?_) | ((with_reducible refine zW ?_); refine zb tbOk rfl rfl rfl rfl (by assumption) ?_)  | refine zJ ?_ | refine zB rfl ?_ | with_reducible (first | refine zC ?_ | refine zF ?_ | refine zU ?_ | refine zN ?_) | ((with_reducible refine zA ?_ ?_); kernel_rfl) | ((with_reducible refine yz mixd ?_ ?_); kernel_rfl))
      with_reducible refine zW ?_
      refine qt (Q := (x :: T.2).map iv) tbOk rfl rfl rfl rfl rfl rfl ⟨by decide, by simp⟩ ?_
      repeat (first   | refine zB rfl ?_  )
      with_reducible refine zO ?_
      refine aO (y := iv x) (Q := (x :: T.2).map iv) tbOk rfl rfl rfl rfl rfl ?_
      repeat (first   | refine zB rfl ?_  )
      refine zl (kY d x) (by repeat' (first | exact trivial | exact Ren.v _ | refine zn ?_ | refine ⟨?_, ?_⟩)) (by repeat' exact RenB.v _) ?_
      obtain ⟨w, hw⟩ : ∃ w, w = acr d x := ⟨_, rfl⟩
      rw [← hw]
      repeat (first | ((with_reducible refine zI ?_); refine zH rfl ?_) | ((with_reducible refine zE ?_); refine zD rfl ?_) | ((with_reducible refine zP ?_); refine zS rfl rfl rfl ?_)  | refine jD (by kernel_rfl) ?_ | refine zB rfl ?_ | with_reducible (first | refine zC ?_ | refine zF ?_) | ((with_reducible refine zA ?_ ?_); kernel_rfl))
      by_cases c1 : 0 ≤ w
      · have d1 : decide (w ≥ 0) = true := decide_eq_true c1
        have hwn : w < N.length := (eF (hV d (List.mem_of_getElem? hd)) hw.symm c1).1
        by_cases c2 : T.1.getD w.toNat 0 < 0
        · have d2 : (!(!decide (T.1.getD w.toNat 0 < 0))) = true := by rw [decide_eq_true c2]; rfl
          repeat (first | ((with_reducible refine zI ?_); refine zH rfl ?_)  | refine zq rfl rfl (by first | rfl | assumption) ?_  )
          (with_reducible refine zW ?_); refine jY tbOk rfl rfl rfl rfl rfl rfl ⟨by omega, by rw [yr, jR]; omega⟩ ?_
          repeat (first   | refine zq rfl rfl (by first | rfl | assumption) ?_  )
          (with_reducible refine zO ?_); refine dT tbOk rfl rfl rfl rfl (rd_at (by omega)) (by rw [yr, jR]; omega) ?_
          repeat (first | ((with_reducible refine zI ?_); refine zH rfl ?_) | ((with_reducible refine k_un ?_); refine jL rfl ?_) | ((with_reducible refine zZ ?_); refine zh rfl (by first | rfl | assumption) rfl ?_)  | refine zB rfl ?_ | refine zq rfl rfl (by first | rfl | assumption) ?_  )
          with_reducible refine zp ?_
          refine kI (ss := [(refB + 0, v (refB + 0))]) (hf i hlt2) rfl (by repeat' (first | exact trivial | exact Ren.v _ | exact Ren.ptr _ _ _ _ rfl | refine ⟨?_, ?_⟩)) (by simp) (in1 rfl hc) rfl (ym hc) (by repeat' exact RenB.v _) ?_
          cases c3 : U i with
          | false =>
            have e : bdev U x i d T = T := by unfold bdev; rw [if_neg (by rw [c3]; simp)]
            rw [e] at hTb
            repeat (first | ((with_reducible refine zI ?_); refine zH rfl ?_) | ((with_reducible refine zZ ?_); refine zh rfl (by first | rfl | assumption) rfl ?_) | ((with_reducible refine zP ?_); refine zY rfl rfl (by omega) ?_)  | refine zJ ?_ | refine zB rfl ?_ | with_reducible (first | refine zC ?_ | refine zd ?_ | refine zN ?_) | ((with_reducible refine zA ?_ ?_); kernel_rfl) | refine zy rfl (by first | rfl | assumption) ?_)
            exact ⟨(i + 1, T), ⟨hv0, hlt2, hT, hTx, hTb, hTm⟩, by show V.length - (i + 1) < V.length - i; omega, ⟨rfl, rfl, rfl, rfl, rfl, rfl, rfl, rfl, trivial⟩, ⟨rfl, rfl, rfl, rfl, trivial⟩⟩
          | true =>
            have e : bdev U x i d T = (T.1.set w.toNat (T.1.getD x.toNat 0 + 1), T.2 ++ [w]) := by unfold bdev; rw [← hw, if_pos ⟨c1, c3, c2⟩]
            rw [e] at hTb b1 b2 b6
            have hgx : T.1.getD x.toNat 0 = kx := getD_some hTx
            repeat (first | ((with_reducible refine zI ?_); refine zH rfl ?_) | ((with_reducible refine zZ ?_); refine zh rfl (by first | rfl | assumption) rfl ?_)  | refine zJ ?_ | refine zB rfl ?_ | with_reducible (first | refine zC ?_ | refine zF ?_) | ((with_reducible refine zA ?_ ?_); kernel_rfl) | refine yJ rfl (by first | rfl | assumption) ?_)
            (with_reducible refine zW ?_); refine jY tbOk rfl rfl rfl rfl rfl rfl ⟨by omega, by rw [yr, jR]; omega⟩ ?_
            repeat (first   | refine zB rfl ?_  )
            (with_reducible refine yN ?_); refine fE (L' := bsv (rd (T.1.set w.toNat (T.1.getD x.toNat 0 + 1)))) tbOk rfl rfl rfl rfl rfl rfl rfl rfl rfl (by rw [qJ, yr, jR]; omega) (by simp [yr, jR]) (iI _) (rd_put (by omega)) ?_
            repeat (first | ((with_reducible refine zI ?_); refine zH rfl ?_) | ((with_reducible refine yP ?_); refine yO tbOk rfl rfl rfl rfl rfl (by omega) rfl rfl rfl ?_) | refine zJ ?_ | refine zB rfl ?_ | with_reducible refine zC ?_ | ((with_reducible refine zA ?_ ?_); kernel_rfl))
            with_reducible refine zp ?_
            refine iW (q := some ((x :: T.2).map iv)) tbOk (fun e => by cases e) rfl rfl rfl rfl rfl (by decide) rfl rfl rfl rfl (Nat.succ_pos _) (fun x hx => by simp at hx; subst hx; rfl) (by simp [qL]; omega) (by simp [qL]; omega) ?_
            repeat (first | ((with_reducible refine zI ?_); refine zH rfl ?_) | ((with_reducible refine zE ?_); refine zD rfl ?_) | ((with_reducible refine zP ?_); refine zY rfl rfl (by omega) ?_)  | refine zJ ?_ | refine zB rfl ?_ | with_reducible (first | refine zC ?_ | refine zd ?_) | ((with_reducible refine zA ?_ ?_); kernel_rfl))
            refine ⟨(i + 1, (T.1.set w.toNat (T.1.getD x.toNat 0 + 1), T.2 ++ [w])), ⟨hv0, hlt2, b1, b2 _ _ hTx, hTb, Nat.le_trans b6 hTm⟩, by show V.length - (i + 1) < V.length - i; omega, ⟨rfl, rfl, rfl, rfl, rfl, rfl, rfl, rfl, trivial⟩, ⟨rfl, rfl, rfl, ?_, trivial⟩⟩
            simp [qL, List.map_append]; rfl
        · have d2 : (!(!decide (T.1.getD w.toNat 0 < 0))) = false := by rw [decide_eq_false c2]; rfl
          have e : bdev U x i d T = T := by unfold bdev; rw [← hw, if_neg (fun h => c2 h.2.2)]
          rw [e] at hTb
          repeat (first | ((with_reducible refine zI ?_); refine zH rfl ?_)  | refine zq rfl rfl (by first | rfl | assumption) ?_  )
          (with_reducible refine zW ?_); refine jY tbOk rfl rfl rfl rfl rfl rfl ⟨by omega, by rw [yr, jR]; omega⟩ ?_
          repeat (first   | refine zq rfl rfl (by first | rfl | assumption) ?_  )
          (with_reducible refine zO ?_); refine dT tbOk rfl rfl rfl rfl (rd_at (by omega)) (by rw [yr, jR]; omega) ?_
          repeat (first | ((with_reducible refine zI ?_); refine zH rfl ?_) | ((with_reducible refine k_un ?_); refine jL rfl ?_) | ((with_reducible refine zZ ?_); (first | refine zh rfl (by first | rfl | assumption) rfl ?_ | refine zi rfl (by first | rfl | assumption) rfl ?_)) | ((with_reducible refine zP ?_); refine zY rfl rfl (by omega) ?_)  | refine zJ ?_ | refine zB rfl ?_ | refine zq rfl rfl (by first | rfl | assumption) ?_ | refine yH rfl rfl (by first | rfl | assumption) ?_ | with_reducible (first | refine zC ?_ | refine zd ?_ | refine zN ?_) | ((with_reducible refine zA ?_ ?_); kernel_rfl) | refine zy rfl (by first | rfl | assumption) ?_)
          exact ⟨(i + 1, T), ⟨hv0, hlt2, hT, hTx, hTb, hTm⟩, by show V.length - (i + 1) < V.length - i; omega, ⟨rfl, rfl, rfl, rfl, rfl, rfl, rfl, rfl, trivial⟩, ⟨rfl, rfl, rfl, rfl, trivial⟩⟩
      · have d1 : decide (w ≥ 0) = false := decide_eq_false (by omega)
        have e : bdev U x i d T = T := by unfold bdev; rw [← hw, if_neg (fun h => c1 h.1)]
        rw [e] at hTb
        repeat (first | ((with_reducible refine zI ?_); refine zH rfl ?_) | ((with_reducible refine zZ ?_); refine zi rfl (by first | rfl | assumption) rfl ?_) | ((with_reducible refine zP ?_); refine zY rfl rfl (by omega) ?_)  | refine zJ ?_ | refine zB rfl ?_ | refine yH rfl rfl (by first | rfl | assumption) ?_ | with_reducible (first | refine zC ?_ | refine zd ?_ | refine zN ?_) | ((with_reducible refine zA ?_ ?_); kernel_rfl) | refine zy rfl (by first | rfl | assumption) ?_)
        exact ⟨(i + 1, T), ⟨hv0, hlt2, hT, hTx, hTb, hTm⟩, by show V.length - (i + 1) < V.length - i; omega, ⟨rfl, rfl, rfl, rfl, rfl, rfl, rfl, rfl, trivial⟩, ⟨rfl, rfl, rfl, rfl, trivial⟩⟩
    · have hge : ¬ i < V.length := by simpa using h
      rw [List.drop_of_length_le (by omega)] at hTb
      have hTb : T = jq U V S := hTb
      repeat (first | ((with_reducible refine zI ?_); refine zH rfl ?_)  | refine zB rfl ?_ | with_reducible (first | refine zC ?_ | refine ze ?_ | refine zd ?_ | refine zr ?_) | ((with_reducible refine za ?_ ?_); rfl) | ((with_reducible refine zA ?_ ?_); kernel_rfl))
      with_reducible refine dM ?_
      refine kS (Q := (x :: T.2).map iv) tbOk rfl rfl rfl rfl rfl rfl ⟨by decide, by simp; omega⟩ ?_
      repeat (first | ((with_reducible refine zE ?_); refine zD rfl ?_)  | refine zJ ?_ | refine zB rfl ?_ | with_reducible refine zC ?_ )
      exact ⟨T, ⟨hv0, by rw [hTb]; exact hIr, hTm, kk + 1, by rw [hTb, fP, ← hS]; rfl⟩, by rw [hTb]; exact hlt, ⟨rfl, rfl, rfl, rfl, rfl, trivial⟩, ⟨rfl, rfl, rfl, rfl, trivial⟩⟩
  · have hq0 : S.2 = [] := List.length_eq_zero_iff.1 (by rw [← hqm]; simp [qL] at h; simpa using h)
    have hfl : S.1 = Go.Proofs.YtnafokinifbfhaaGreatDoor.flood U V N.length L := by rw [hS]; exact lC hV hL kk (by rw [← hS]; exact hq0)
    rw [← hfl]
    repeat (first | ((with_reducible refine zI ?_); refine zH rfl ?_) | ((with_reducible refine zE ?_); refine zD rfl ?_)  | refine zJ ?_ | refine zB rfl ?_ | with_reducible (first | refine zC ?_ | refine ze ?_ | refine zF ?_ | refine zr ?_ | refine zQ ?_) | ((with_reducible refine za ?_ ?_); rfl) | ((with_reducible refine zA ?_ ?_); kernel_rfl))
    exact eB (by first | exact .inr rfl | exact .inl rfl) rfl rfl (by repeat' exact Ren.own _ _ _ _ ⟨_, rfl⟩) rfl hv0 (jZ hc)
theorem ruse_A (g : List Int) (i : Int) (hm : g.length ≤ maxLen) : zu Tryz.prog G 148 [.v (.int .i64 i), .ptr (refB + 0) 0 0] [[.sl 1 (g.map iv)]] (.v (.bool (!hasI g i))) [[.sl 1 (g.map iv)]] := by
  refine zf tbOk (zM Tryz.func148 (by kernel_rfl) rfl) Tryz.func148 rfl _ Tryz.ntmps148 (Nat.le_of_ble_eq_true rfl) fun X hX => ?_
  subst hX
  repeat (first | ((with_reducible refine zI ?_); refine zH rfl ?_) | ((with_reducible refine zE ?_); refine zD rfl ?_) | ((with_reducible refine zO ?_); refine zL tbOk rfl rfl rfl rfl rfl ?_)  | refine zJ ?_ | refine zB rfl ?_ | with_reducible (first | refine zC ?_ | refine zF ?_) | ((with_reducible refine zA ?_ ?_); kernel_rfl))
  refine zl (con_I g i hm) (by repeat' (first | exact trivial | exact Ren.v _ | exact Ren.sl _ _ | refine ⟨?_, ?_⟩)) (by repeat' exact RenB.v _) ?_
  repeat (first | ((with_reducible refine zE ?_); refine zD rfl ?_) | ((with_reducible refine k_un ?_); refine jL rfl ?_)  | refine zJ ?_ | refine zB rfl ?_ | with_reducible (first | refine zC ?_ | refine zQ ?_) )
  exact qq (by first | exact .inr rfl | exact .inl rfl) rfl rfl rfl rfl rfl rfl (by repeat' (first | exact trivial | exact Ren.sl _ _ | refine ⟨?_, ?_⟩))
theorem region_A (N : List Nd) (V : List Dv) (z g : List Int) (hV : ∀ d ∈ V, yY d N.length = true) (hL : ∀ v ∈ z, 0 ≤ v ∧ v < N.length) (h0 : 0 < z.length) (hl : z.length ≤ 32) (hn : N.length ≤ 32) (hv : V.length ≤ 64) (hm : g.length ≤ maxLen) :
    zu Tryz.prog G 104 [qE N V, .sl 1 (z.map iv), .sl 1 (g.map iv)] [] (.sl 1 (bsv (rd (Go.Proofs.YtnafokinifbfhaaGreatDoor.flood (fun i => !hasI g i) V N.length z)))) [] := by
  have hF := flood_A (G := G) N V (fun i => !hasI g i) z _ [.sl 1 (g.map iv)] hV (fun i _ => ruse_A g i hm) rfl hL h0 hl hn hv
  refine zf tbOk (zM Tryz.func104 (by kernel_rfl) rfl) Tryz.func104 rfl _ Tryz.ntmps104 (Nat.le_of_ble_eq_true rfl) fun X hX => ?_
  subst hX
  repeat (first | ((with_reducible refine zI ?_); refine zH rfl ?_) | ((with_reducible refine zE ?_); refine zD rfl ?_) | ((with_reducible refine zO ?_); refine zk tbOk rfl rfl rfl rfl (Nat.le_of_ble_eq_true rfl) ?_) | ((with_reducible refine yw ?_); refine yv rfl rfl rfl ?_) | ((with_reducible refine bR ?_); refine m_fn1 rfl ?_)  | refine zJ ?_ | refine zB rfl ?_ | with_reducible (first | refine zC ?_ | refine zF ?_) | ((with_reducible refine zA ?_ ?_); kernel_rfl))
  refine yW (ss := [(5, 1)]) (hF) (by repeat' (first | exact trivial | exact Ren.sl _ _ | exact Ren.ptr _ _ _ _ rfl | refine zn ?_ | refine yG ?_ | refine ⟨?_, ?_⟩)) (by simp) (in1 rfl rfl) rfl (ym rfl) (by repeat' exact RenB.sl _ _) ?_
  repeat (first | ((with_reducible refine zE ?_); refine zD rfl ?_)  | refine zJ ?_ | refine zB rfl ?_ | with_reducible (first | refine zC ?_ | refine zQ ?_) )
  refine ret0_1 (by first | exact .inr rfl | exact .inl rfl) rfl rfl ?_
  repeat' exact Ren.sl _ _
end Go.Proofs.YtnafokinifbfhaaGreatDoor
