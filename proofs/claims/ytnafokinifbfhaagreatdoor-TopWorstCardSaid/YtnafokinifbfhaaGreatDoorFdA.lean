/- network.Flood with a closure that says which devices may be used, and zone.region, by the abstract machine; conditions: a network whose ends are right. -/
import Derived.Test.YtnafokinifbfhaaGreatDoorLcC
set_option linter.unusedVariables false
set_option linter.unusedSimpArgs false
namespace Go.Proofs.YtnafokinifbfhaaGreatDoor
open Go Go.RowKit
set_option maxRecDepth 10000
variable {G : Nat → Option (List Value)}
def rd (O : List Int) : List Bool := O.map fun x => decide (0 ≤ x)
theorem jc (O : List Int) : (rd O).length = O.length := by simp [rd]
theorem rd_set (O : List Int) (k : Nat) (x : Int) (h : 0 ≤ x) : (rd O).set k true = rd (O.set k x) := by
  unfold rd; rw [List.map_set]; simp [h]
theorem rd_get {O : List Int} {k : Nat} (h : k < O.length) : (rd O)[k]? = some (!decide (O.getD k 0 < 0)) := by
  obtain ⟨z, hz⟩ := zT h
  unfold rd
  rw [List.getElem?_map, hz, List.getD_eq_getElem?_getD, hz]
  simp only [Option.map_some, Option.getD_some]
  by_cases h : 0 ≤ z
  · rw [decide_eq_true h, decide_eq_false (by omega)]; rfl
  · rw [decide_eq_false h, decide_eq_true (by omega)]; rfl
theorem bF : ∀ R : List Bool, (bsv R).flatMap AV.cells = bsv R
  | [] => rfl
  | b :: R => by
    have := bF R
    unfold bsv at this ⊢
    rw [List.map_cons, List.flatMap_cons, this]; rfl
theorem rd_at {O : List Int} {z : Int} (h : z.toNat < O.length) : ((bsv (rd O)).flatMap AV.cells)[z.toNat * 1]? = some (.v (.bool (!decide (O.getD z.toNat 0 < 0)))) := by
  rw [bF, Nat.mul_one, bsv_at (rd_get h)]
theorem rd_put {O : List Int} {z x : Int} (h : 0 ≤ x) : (bsv (rd (O.set z.toNat x))).flatMap AV.cells = putL ((bsv (rd O)).flatMap AV.cells) (z.toNat * 1) [.v (.bool true)] := by
  rw [bF, bF, Nat.mul_one, bsv_set, rd_set _ _ _ h]
theorem pH (R : List Bool) : ∀ x ∈ bsv R, x.cells.length = 1 := fun x hx => by
  unfold bsv at hx
  obtain ⟨b, _, rfl⟩ := List.mem_map.1 hx
  rfl
set_option maxHeartbeats 8000000 in
theorem flood_A (N : List Nd) (V : List Dv) (U : Nat → Bool) (L : List Int) (f gst : FuncId) (c : List AV) (hst : ∀ x : Int, zl Tryz.prog G gst [.v (.int .i64 x)] [] (.v (.bool false)) []) (hV : ∀ d ∈ V, jZ d N.length = true) (hf : ∀ i : Nat, i < V.length → zl Tryz.prog G f [.v (.int .i64 (i : Nat)), .ptr (refB + 0) 0 0] [c] (.v (.bool (U i))) [c]) (hc : qI c = true) (hL : ∀ v ∈ L, 0 ≤ v ∧ v < N.length) (h0 : 0 < L.length) (hl : L.length ≤ 32) (hn : N.length ≤ 32) (hv : V.length ≤ 64) :
    zl Tryz.prog G 149 [ja N V, .sl 1 (L.map iv), .fn f [.ptr (refB + 0) 0 0], .fn gst []] [c] (.sl 1 (bsv (rd (Go.Proofs.YtnafokinifbfhaaGreatDoor.flood U V N.length L)))) [c] := by
  have hml : (L.map iv).length = L.length := by simp
  have hvl : (V.map Dv.av).length = V.length := by simp
  have hnl : (N.map Nd.av).length = N.length := by simp
  refine zY tbOk (zM Tryz.func149 (by kernel_rfl) rfl) Tryz.func149 rfl _ Tryz.ntmps149 (Nat.le_of_ble_eq_true rfl) fun X hX => ?_
  subst hX
  repeat (first | ((with_reducible refine zE ?_); refine zF rfl ?_) | ((with_reducible refine zO ?_); refine zL tbOk rfl rfl rfl rfl ?_) | ((with_reducible refine zQ ?_); refine zN tbOk rfl rfl rfl rfl rfl ?_) | ((with_reducible refine yz ?_); refine jA rfl rfl rfl ?_) | ((with_reducible refine yB ?_); refine yj tbOk rfl rfl ?_)  | refine zK ?_ | refine zB rfl ?_ | with_reducible (first | refine zG ?_ | refine zH ?_) | ((with_reducible refine zA ?_ ?_); kernel_rfl))
  with_reducible refine aY ?_
  refine cN (zc := .v (.bool false)) tbOk rfl rfl rfl rfl rfl (by decide) rfl (by intro z hz; simp at hz; subst hz; rfl) rfl rfl (by omega) (by omega) rfl ?_
  repeat (first | ((with_reducible refine zI ?_); refine zJ rfl ?_) | ((with_reducible refine zE ?_); refine zF rfl ?_)  | refine zK ?_ | refine zB rfl ?_ | with_reducible (first | refine zG ?_ | refine zH ?_) | ((with_reducible refine zA ?_ ?_); kernel_rfl))
  refine uC (nS (L.map iv) (nL L) (by omega)) (by omega) (by repeat' (first | exact trivial | exact Ren.sl _ _ | refine ⟨?_, ?_⟩)) rfl ?_
  repeat (first | ((with_reducible refine zI ?_); refine zJ rfl ?_) | ((with_reducible refine zE ?_); refine zF rfl ?_) | ((with_reducible refine yB ?_); refine yj tbOk rfl rfl ?_)  | refine zK ?_ | refine zB rfl ?_ | with_reducible (first | refine zG ?_ | refine zH ?_ | refine zW ?_) | ((with_reducible refine zA ?_ ?_); kernel_rfl))
  refine ym (ι := Nat) (fun v j => v (refB + 0) = 0 ∧ j ≤ L.length) (fun j => L.length - j) (fun v j => [(2, .fn f [.ptr (refB + 0) (v (refB + 0)) 0]), (3, .fn gst []), (4, .ptr 4 (v 4) 0), (9, .own 19 (v 19)), (10, .own 21 (v 21)), (22, .sl 1 (L.map iv)), (23, .v (.int .i64 (L.map iv).length)), (24, .v (.int .i64 (j : Nat)))]) (fun v j => [(refB + 0, .box c), (4, .box [.sl 3 (N.map Nd.av), .sl 5 (V.map Dv.av)]), (19, .buf 4 1 (bsv (rd (jM N.length (L.take j))))), (21, .ob (.qu 3 1 (L.map iv)))]) ?_ ?_
  · refine ⟨0, ⟨rfl, Nat.zero_le _⟩, trivial, ⟨rfl, rfl, rfl, rfl, rfl, rfl, rfl, rfl, trivial⟩, ⟨rfl, rfl, jB ?_, rfl, trivial⟩⟩
    rw [hnl, show jM N.length (L.take 0) = List.replicate N.length (-1) from rfl]
    unfold rd bsv
    rw [List.map_replicate, List.map_replicate]; rfl
  rintro v j ⟨hv0, hj⟩
  repeat (first | ((with_reducible refine zP ?_); refine zV rfl rfl rfl ?_)  | refine zK ?_ | refine zB rfl ?_ | with_reducible (first | refine zG ?_ | refine zH ?_) | ((with_reducible refine zA ?_ ?_); kernel_rfl))
  refine zh rfl (fun h => ?_) (fun h => ?_)
  · have hlt : j < L.length := by simpa using h
    obtain ⟨x, hx⟩ := zT hlt
    have hy := cW hx
    have hxr := hL x (List.mem_of_getElem? hx)
    have hmk : (jM N.length (L.take j)).length = N.length := fA
    repeat (first | ((with_reducible refine zI ?_); refine zJ rfl ?_) | ((with_reducible refine zE ?_); refine zF rfl ?_) | ((with_reducible refine zQ ?_); refine zj tbOk rfl rfl rfl ?_) | ((with_reducible refine zU ?_); refine zg tbOk rfl rfl rfl rfl (by assumption) ?_)  | refine zK ?_ | refine zB rfl ?_ | with_reducible (first | refine zG ?_ | refine zH ?_ | refine zW ?_ | refine zR ?_) | ((with_reducible refine zA ?_ ?_); kernel_rfl))
    (with_reducible refine zU ?_); refine zq tbOk rfl rfl rfl rfl rfl rfl ⟨by omega, by rw [jO, jc]; omega⟩ ?_
    repeat (first   | refine zB rfl ?_  )
    (with_reducible refine zz ?_); refine jG (L' := bsv (rd ((jM N.length (L.take j)).set x.toNat 0))) tbOk rfl rfl rfl rfl rfl rfl rfl rfl rfl (by rw [bF, jO, jc]; omega) (by simp [jO, jc]) (pH _) (rd_put (by omega)) ?_
    repeat (first | ((with_reducible refine zI ?_); refine zJ rfl ?_) | ((with_reducible refine zP ?_); refine zX rfl rfl (by omega) ?_)  | refine zK ?_ | refine zB rfl ?_ | with_reducible (first | refine zG ?_ | refine ze ?_) | ((with_reducible refine zA ?_ ?_); kernel_rfl))
    exact ⟨j + 1, ⟨hv0, by omega⟩, by omega, ⟨rfl, rfl, rfl, rfl, rfl, rfl, rfl, rfl, trivial⟩, ⟨rfl, rfl, jB (by rw [vL hx]), rfl, trivial⟩⟩
  have hjl : L.take j = L := by rw [List.take_of_length_le]; simp at h; omega
  rw [hjl]
  repeat (first    | with_reducible (first | refine zG ?_ | refine zd ?_ | refine zH ?_ | refine zW ?_ | refine zw ?_) | ((with_reducible refine zb ?_ ?_); rfl) )
  refine ym (ι := Fl) (fun v S => v (refB + 0) = 0 ∧ FlInv U V L N.length S ∧ mu S ≤ 1000 ∧ ∃ k, S = brun U V k (jM N.length L, L)) mu (fun v S => [(2, .fn f [.ptr (refB + 0) (v (refB + 0)) 0]), (3, .fn gst []), (4, .ptr 4 (v 4) 0), (9, .own 19 (v 19)), (10, .own 21 (v 21))]) (fun v S => [(refB + 0, .box c), (4, .box [.sl 3 (N.map Nd.av), .sl 5 (V.map Dv.av)]), (19, .buf 4 1 (bsv (rd S.1))), (21, .ob (.qu 3 1 (S.2.map iv)))]) ?_ ?_
  · refine ⟨(jM N.length L, L), ⟨hv0, gU hL, ?_, 0, rfl⟩, trivial, ⟨rfl, rfl, rfl, rfl, rfl, trivial⟩, ⟨rfl, rfl, rfl, rfl, trivial⟩⟩
    refine Nat.le_trans mu_le ?_
    dsimp only
    rw [fA]; omega
  clear v h hj hjl hv0
  rintro v S ⟨hv0, hI, hmu, kk, hS⟩
  have hlS : S.1.length = N.length := hI.ok.len
  repeat (first | ((with_reducible refine zI ?_); refine zJ rfl ?_)  | refine zB rfl ?_ | with_reducible refine zH ?_ | ((with_reducible refine zA ?_ ?_); kernel_rfl))
  with_reducible refine yB ?_
  refine x_len_qu (e := 3) (sz := 1) (q := some (S.2.map iv)) tbOk rfl rfl rfl rfl ?_
  repeat (first | ((with_reducible refine zP ?_); refine zV rfl rfl rfl ?_)  | refine zK ?_ | refine zB rfl ?_ | with_reducible refine zG ?_ )
  have hqm : (S.2.map iv).length = S.2.length := by simp
  refine zh rfl (fun h => ?_) (fun h => ?_)
  · have hq0 : 0 < S.2.length := by rw [← hqm]; simpa [qL] using h
    obtain ⟨x, Q, hSQ⟩ : ∃ x Q, S.2 = x :: Q := by
      cases hq : S.2 with
      | nil => rw [hq] at hq0; simp at hq0
      | cons x Q => exact ⟨x, Q, rfl⟩
    obtain ⟨hx0, kx, hkx⟩ := hI.ok.wait x (by rw [hSQ]; simp)
    have hxn : x.toNat < N.length := by rw [← hlS]; exact zi hkx
    obtain ⟨hIr, hlt⟩ := fD (U := U) hV hI
    have hlt := hlt (by rw [hSQ]; simp)
    have hok0 : FlOk U V L N.length (S.1, Q) := ⟨hI.ok.len, fun q hq' => hI.ok.wait q (by rw [hSQ]; simp [hq']), hI.ok.low, hI.ok.rch, hI.ok.pre⟩
    have hbr : cV U x 0 V (S.1, Q) = qj U V S := by unfold qj; rw [hSQ]
    have hmu0 : mu (S.1, Q) ≤ 1000 := by unfold mu at hmu ⊢; rw [hSQ] at hmu; simp at hmu ⊢; omega
    rw [hSQ]
    repeat (first | ((with_reducible refine zI ?_); refine zJ rfl ?_)  | refine zB rfl ?_ | with_reducible (first | refine zG ?_ | refine zH ?_ | refine zW ?_ | refine zR ?_) | ((with_reducible refine zA ?_ ?_); kernel_rfl))
    with_reducible refine zU ?_
    refine dY (Q := (x :: Q).map iv) tbOk rfl rfl rfl rfl rfl rfl ⟨by decide, by simp⟩ ?_
    repeat (first   | refine zB rfl ?_  )
    with_reducible refine zQ ?_
    refine fO (y := iv x) (Q := (x :: Q).map iv) tbOk rfl rfl rfl rfl rfl ?_
    repeat (first   | refine zB rfl ?_  )
    refine cJ (ss := []) (cs' := []) (hst x) rfl (by repeat' (first | exact trivial | exact Ren.v _ | refine ⟨?_, ?_⟩)) (by simp) trivial rfl trivial (by repeat' exact RenB.v _) ?_
    repeat (first | ((with_reducible refine zI ?_); refine zJ rfl ?_) | ((with_reducible refine zO ?_); refine zL tbOk rfl rfl rfl rfl ?_) | ((with_reducible refine zQ ?_); refine zN tbOk rfl rfl rfl rfl rfl ?_) | ((with_reducible refine yB ?_); refine yj tbOk rfl rfl ?_)  | refine zK ?_ | refine zB rfl ?_ | with_reducible (first | refine zG ?_ | refine zH ?_ | refine zW ?_ | refine zR ?_) | ((with_reducible refine zA ?_ ?_); kernel_rfl) | refine zm rfl (by first | rfl | assumption) ?_)
    refine ym (ι := Nat × Fl) (fun v i => v (refB + 0) = 0 ∧ i.1 ≤ V.length ∧ FlOk U V L N.length i.2 ∧ i.2.1[x.toNat]? = some (kx : Int) ∧ cV U x i.1 (V.drop i.1) i.2 = qj U V S ∧ mu i.2 ≤ 1000) (fun i => V.length - i.1) (fun v i => [(2, .fn f [.ptr (refB + 0) (v (refB + 0)) 0]), (3, .fn gst []), (4, .ptr 4 (v 4) 0), (9, .own 19 (v 19)), (10, .own 21 (v 21)), (43, .sl 5 (V.map Dv.av)), (44, .v (.int .i64 (V.map Dv.av).length)), (45, .v (.int .i64 (i.1 : Nat)))]) (fun v i => [(refB + 0, .box c), (4, .box [.sl 3 (N.map Nd.av), .sl 5 (V.map Dv.av)]), (19, .buf 4 1 (bsv (rd i.2.1))), (21, .ob (.qu 3 1 ((x :: i.2.2).map iv)))]) ?_ ?_
    · exact ⟨(0, (S.1, Q)), ⟨hv0, Nat.zero_le _, hok0, hkx, hbr, hmu0⟩, trivial, ⟨rfl, rfl, rfl, rfl, rfl, rfl, rfl, rfl, trivial⟩, ⟨rfl, rfl, rfl, rfl, trivial⟩⟩
    clear v h hv0
    rintro v ⟨i, T⟩ ⟨hv0, hi, hT, hTx, hTb, hTm⟩
    dsimp only at hv0 hi hT hTx hTb hTm ⊢
    have hlT : T.1.length = N.length := hT.len
    have hTq : T.2.length ≤ 1000 := by unfold mu at hTm; omega
    repeat (first | ((with_reducible refine zP ?_); refine zV rfl rfl rfl ?_)  | refine zK ?_ | refine zB rfl ?_ | with_reducible (first | refine zG ?_ | refine zH ?_) | ((with_reducible refine zA ?_ ?_); kernel_rfl))
    refine zh rfl (fun h => ?_) (fun h => ?_)
    · have hlt2 : i < V.length := by simpa using h
      obtain ⟨d, hd⟩ := zT hlt2
      have hy := pL hd
      obtain ⟨b1, b2, -, -, -, b6⟩ := xU hV hT hx0 hTx hd
      rw [yq hd, cV] at hTb
      repeat (first | ((with_reducible refine zI ?_); refine zJ rfl ?_) | ((with_reducible refine zE ?_); refine zF rfl ?_) | ((with_reducible refine zQ ?_); (first | refine zZ tbOk rfl rfl rfl rfl (Nat.le_of_ble_eq_true rfl) ?_ | refine yh tbOk rfl rfl (Nat.le_of_ble_eq_true rfl) ?_)) | ((with_reducible refine zz ?_); refine yN tbOk rfl rfl rfl rfl rfl rfl rfl (Nat.le_of_ble_eq_true rfl) rfl ?_) | ((with_reducible refine yw ?_); refine yu tbOk rfl rfl ?_) | ((with_reducible refine zU ?_); refine zg tbOk rfl rfl rfl rfl (by assumption) ?_)  | refine zK ?_ | refine zB rfl ?_ | with_reducible (first | refine zG ?_ | refine zH ?_ | refine zW ?_ | refine zR ?_) | ((with_reducible refine zA ?_ ?_); kernel_rfl) | ((with_reducible refine jQ mixd ?_ ?_); kernel_rfl))
      with_reducible refine zU ?_
      refine dY (Q := (x :: T.2).map iv) tbOk rfl rfl rfl rfl rfl rfl ⟨by decide, by simp⟩ ?_
      repeat (first   | refine zB rfl ?_  )
      with_reducible refine zQ ?_
      refine fO (y := iv x) (Q := (x :: T.2).map iv) tbOk rfl rfl rfl rfl rfl ?_
      repeat (first   | refine zB rfl ?_  )
      refine zk (across_A d x) (by repeat' (first | exact trivial | exact Ren.v _ | refine zp ?_ | refine ⟨?_, ?_⟩)) (by repeat' exact RenB.v _) ?_
      obtain ⟨w, hw⟩ : ∃ w, w = acr d x := ⟨_, rfl⟩
      rw [← hw]
      repeat (first | ((with_reducible refine zI ?_); refine zJ rfl ?_) | ((with_reducible refine zE ?_); refine zF rfl ?_) | ((with_reducible refine zP ?_); refine zV rfl rfl rfl ?_)  | refine jR (by kernel_rfl) ?_ | refine zB rfl ?_ | with_reducible (first | refine zG ?_ | refine zH ?_) | ((with_reducible refine zA ?_ ?_); kernel_rfl))
      by_cases c1 : 0 ≤ w
      · have d1 : decide (w ≥ 0) = true := decide_eq_true c1
        have hwn : w < N.length := (rS (hV d (List.mem_of_getElem? hd)) hw.symm c1).1
        by_cases c2 : T.1.getD w.toNat 0 < 0
        · have d2 : (!(!decide (T.1.getD w.toNat 0 < 0))) = true := by rw [decide_eq_true c2]; rfl
          repeat (first | ((with_reducible refine zI ?_); refine zJ rfl ?_)  | refine yJ rfl rfl (by first | rfl | assumption) ?_  )
          (with_reducible refine zU ?_); refine zq tbOk rfl rfl rfl rfl rfl rfl ⟨by omega, by rw [jO, jc]; omega⟩ ?_
          repeat (first   | refine yJ rfl rfl (by first | rfl | assumption) ?_  )
          (with_reducible refine zQ ?_); refine yy tbOk rfl rfl rfl rfl (rd_at (by omega)) (by rw [jO, jc]; omega) ?_
          repeat (first | ((with_reducible refine zI ?_); refine zJ rfl ?_) | ((with_reducible refine k_un ?_); refine jy rfl ?_) | ((with_reducible refine zt ?_); refine yM rfl (by first | rfl | assumption) rfl ?_)  | refine zB rfl ?_ | refine yJ rfl rfl (by first | rfl | assumption) ?_  )
          with_reducible refine yB ?_
          refine cJ (ss := [(refB + 0, v (refB + 0))]) (hf i hlt2) rfl (by repeat' (first | exact trivial | exact Ren.v _ | exact Ren.ptr _ _ _ _ rfl | refine ⟨?_, ?_⟩)) (by simp) (in1 rfl hc) rfl (yx hc) (by repeat' exact RenB.v _) ?_
          cases c3 : U i with
          | false =>
            have e : bdev U x i d T = T := by unfold bdev; rw [if_neg (by rw [c3]; simp)]
            rw [e] at hTb
            repeat (first | ((with_reducible refine zI ?_); refine zJ rfl ?_) | ((with_reducible refine zt ?_); refine yM rfl (by first | rfl | assumption) rfl ?_) | ((with_reducible refine zP ?_); refine zX rfl rfl (by omega) ?_)  | refine zK ?_ | refine zB rfl ?_ | with_reducible (first | refine zG ?_ | refine ze ?_ | refine zR ?_) | ((with_reducible refine zA ?_ ?_); kernel_rfl) | refine zm rfl (by first | rfl | assumption) ?_)
            exact ⟨(i + 1, T), ⟨hv0, hlt2, hT, hTx, hTb, hTm⟩, by show V.length - (i + 1) < V.length - i; omega, ⟨rfl, rfl, rfl, rfl, rfl, rfl, rfl, rfl, trivial⟩, ⟨rfl, rfl, rfl, rfl, trivial⟩⟩
          | true =>
            have e : bdev U x i d T = (T.1.set w.toNat (T.1.getD x.toNat 0 + 1), T.2 ++ [w]) := by unfold bdev; rw [← hw, if_pos ⟨c1, c3, c2⟩]
            rw [e] at hTb b1 b2 b6
            have hgx : T.1.getD x.toNat 0 = kx := getD_some hTx
            repeat (first | ((with_reducible refine zI ?_); refine zJ rfl ?_) | ((with_reducible refine zt ?_); refine yM rfl (by first | rfl | assumption) rfl ?_)  | refine zK ?_ | refine zB rfl ?_ | with_reducible (first | refine zG ?_ | refine zH ?_) | ((with_reducible refine zA ?_ ?_); kernel_rfl) | refine yb rfl (by first | rfl | assumption) ?_)
            (with_reducible refine zU ?_); refine zq tbOk rfl rfl rfl rfl rfl rfl ⟨by omega, by rw [jO, jc]; omega⟩ ?_
            repeat (first   | refine zB rfl ?_  )
            (with_reducible refine zz ?_); refine jG (L' := bsv (rd (T.1.set w.toNat (T.1.getD x.toNat 0 + 1)))) tbOk rfl rfl rfl rfl rfl rfl rfl rfl rfl (by rw [bF, jO, jc]; omega) (by simp [jO, jc]) (pH _) (rd_put (by omega)) ?_
            repeat (first | ((with_reducible refine zI ?_); refine zJ rfl ?_) | ((with_reducible refine yE ?_); refine yD tbOk rfl rfl rfl rfl rfl (by omega) rfl rfl rfl ?_) | refine zK ?_ | refine zB rfl ?_ | with_reducible refine zG ?_ | ((with_reducible refine zA ?_ ?_); kernel_rfl))
            with_reducible refine yB ?_
            refine uP (q := some ((x :: T.2).map iv)) tbOk (fun e => by cases e) rfl rfl rfl rfl rfl (by decide) rfl rfl rfl rfl (Nat.succ_pos _) (fun x hx => by simp at hx; subst hx; rfl) (by simp [qL]; omega) (by simp [qL]; omega) ?_
            repeat (first | ((with_reducible refine zI ?_); refine zJ rfl ?_) | ((with_reducible refine zE ?_); refine zF rfl ?_) | ((with_reducible refine zP ?_); refine zX rfl rfl (by omega) ?_)  | refine zK ?_ | refine zB rfl ?_ | with_reducible (first | refine zG ?_ | refine ze ?_) | ((with_reducible refine zA ?_ ?_); kernel_rfl))
            refine ⟨(i + 1, (T.1.set w.toNat (T.1.getD x.toNat 0 + 1), T.2 ++ [w])), ⟨hv0, hlt2, b1, b2 _ _ hTx, hTb, Nat.le_trans b6 hTm⟩, by show V.length - (i + 1) < V.length - i; omega, ⟨rfl, rfl, rfl, rfl, rfl, rfl, rfl, rfl, trivial⟩, ⟨rfl, rfl, rfl, ?_, trivial⟩⟩
            simp [qL, List.map_append]; rfl
        · have d2 : (!(!decide (T.1.getD w.toNat 0 < 0))) = false := by rw [decide_eq_false c2]; rfl
          have e : bdev U x i d T = T := by unfold bdev; rw [← hw, if_neg (fun h => c2 h.2.2)]
          rw [e] at hTb
          repeat (first | ((with_reducible refine zI ?_); refine zJ rfl ?_)  | refine yJ rfl rfl (by first | rfl | assumption) ?_  )
          (with_reducible refine zU ?_); refine zq tbOk rfl rfl rfl rfl rfl rfl ⟨by omega, by rw [jO, jc]; omega⟩ ?_
          repeat (first   | refine yJ rfl rfl (by first | rfl | assumption) ?_  )
          (with_reducible refine zQ ?_); refine yy tbOk rfl rfl rfl rfl (rd_at (by omega)) (by rw [jO, jc]; omega) ?_
          repeat (first | ((with_reducible refine zI ?_); refine zJ rfl ?_) | ((with_reducible refine k_un ?_); refine jy rfl ?_) | ((with_reducible refine zt ?_); (first | refine yM rfl (by first | rfl | assumption) rfl ?_ | refine yL rfl (by first | rfl | assumption) rfl ?_)) | ((with_reducible refine zP ?_); refine zX rfl rfl (by omega) ?_)  | refine zK ?_ | refine zB rfl ?_ | refine yJ rfl rfl (by first | rfl | assumption) ?_ | refine yV rfl rfl (by first | rfl | assumption) ?_ | with_reducible (first | refine zG ?_ | refine ze ?_ | refine zR ?_) | ((with_reducible refine zA ?_ ?_); kernel_rfl) | refine zm rfl (by first | rfl | assumption) ?_)
          exact ⟨(i + 1, T), ⟨hv0, hlt2, hT, hTx, hTb, hTm⟩, by show V.length - (i + 1) < V.length - i; omega, ⟨rfl, rfl, rfl, rfl, rfl, rfl, rfl, rfl, trivial⟩, ⟨rfl, rfl, rfl, rfl, trivial⟩⟩
      · have d1 : decide (w ≥ 0) = false := decide_eq_false (by omega)
        have e : bdev U x i d T = T := by unfold bdev; rw [← hw, if_neg (fun h => c1 h.1)]
        rw [e] at hTb
        repeat (first | ((with_reducible refine zI ?_); refine zJ rfl ?_) | ((with_reducible refine zt ?_); refine yL rfl (by first | rfl | assumption) rfl ?_) | ((with_reducible refine zP ?_); refine zX rfl rfl (by omega) ?_)  | refine zK ?_ | refine zB rfl ?_ | refine yV rfl rfl (by first | rfl | assumption) ?_ | with_reducible (first | refine zG ?_ | refine ze ?_ | refine zR ?_) | ((with_reducible refine zA ?_ ?_); kernel_rfl) | refine zm rfl (by first | rfl | assumption) ?_)
        exact ⟨(i + 1, T), ⟨hv0, hlt2, hT, hTx, hTb, hTm⟩, by show V.length - (i + 1) < V.length - i; omega, ⟨rfl, rfl, rfl, rfl, rfl, rfl, rfl, rfl, trivial⟩, ⟨rfl, rfl, rfl, rfl, trivial⟩⟩
    · have hge : ¬ i < V.length := by simpa using h
      rw [List.drop_of_length_le (by omega)] at hTb
      have hTb : T = qj U V S := hTb
      repeat (first | ((with_reducible refine zI ?_); refine zJ rfl ?_)  | refine zB rfl ?_ | with_reducible (first | refine zG ?_ | refine zd ?_ | refine ze ?_ | refine zw ?_) | ((with_reducible refine zb ?_ ?_); rfl) | ((with_reducible refine zA ?_ ?_); kernel_rfl))
      with_reducible refine lD ?_
      refine vD (Q := (x :: T.2).map iv) tbOk rfl rfl rfl rfl rfl rfl ⟨by decide, by simp; omega⟩ ?_
      repeat (first | ((with_reducible refine zE ?_); refine zF rfl ?_)  | refine zK ?_ | refine zB rfl ?_ | with_reducible refine zG ?_ )
      exact ⟨T, ⟨hv0, by rw [hTb]; exact hIr, hTm, kk + 1, by rw [hTb, lM, ← hS]; rfl⟩, by rw [hTb]; exact hlt, ⟨rfl, rfl, rfl, rfl, rfl, trivial⟩, ⟨rfl, rfl, rfl, rfl, trivial⟩⟩
  · have hq0 : S.2 = [] := List.length_eq_zero_iff.1 (by rw [← hqm]; simp [qL] at h; simpa using h)
    have hfl : S.1 = Go.Proofs.YtnafokinifbfhaaGreatDoor.flood U V N.length L := by rw [hS]; exact wL hV hL kk (by rw [← hS]; exact hq0)
    rw [← hfl]
    repeat (first | ((with_reducible refine zI ?_); refine zJ rfl ?_) | ((with_reducible refine zE ?_); refine zF rfl ?_)  | refine zK ?_ | refine zB rfl ?_ | with_reducible (first | refine zG ?_ | refine zd ?_ | refine zH ?_ | refine zw ?_ | refine zS ?_) | ((with_reducible refine zb ?_ ?_); rfl) | ((with_reducible refine zA ?_ ?_); kernel_rfl))
    exact lG (by first | exact .inr rfl | exact .inl rfl) rfl rfl (by repeat' exact Ren.own _ _ _ _ ⟨_, rfl⟩) rfl hv0 (qH hc)
end Go.Proofs.YtnafokinifbfhaaGreatDoor
