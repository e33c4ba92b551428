/- network.Distances, by the abstract machine: it floods; conditions: a network whose ends are right, at most 32 nodes. -/
import Derived.Test.YtnafokinifbfhaaGreatDoorTwA
import Derived.Test.YtnafokinifbfhaaGreatDoorSlJ
set_option linter.unusedVariables false
set_option linter.unusedSimpArgs false
namespace Go.Proofs.YtnafokinifbfhaaGreatDoor
open Go Go.RowKit
set_option maxRecDepth 10000
variable {G : Nat → Option (List Value)}
theorem fG : Tryz.prog.underlying 113 = some (.array 32 3) := Tryz.underlying113
def ivs (L : List Int) : List AV := L.map iv
theorem je (L : List Int) : (ivs L).length = L.length := by simp [ivs]
theorem kO : ∀ L : List Int, yR (ivs L) = true
  | [] => rfl
  | b :: L => by
    have := kO L
    unfold ivs at this ⊢
    simp only [List.map_cons, yR, iv, oneC, this, Bool.and_true]
    rfl
theorem gE : ∀ L : List Int, qD (ivs L) = true
  | [] => rfl
  | b :: L => by
    have := gE L
    unfold ivs at this ⊢
    simp only [List.map_cons, qD, iv, kW, this, Bool.and_true]
    rfl
theorem pP (L : List Int) (z x : Int) : putL (ivs L) (0 + z.toNat * 1) (AV.v (.int .i64 x)).cells = ivs (L.set z.toNat x) := by
  show (ivs L).set _ _ = _
  rw [Nat.zero_add, Nat.mul_one]
  unfold ivs
  rw [List.map_set]; rfl
def pad (O : List Int) : List Int := O ++ List.replicate (32 - O.length) (-1)
theorem jz {O : List Int} (h : O.length ≤ 32) : (pad O).length = 32 := by unfold pad; simp; omega
theorem vI {O : List Int} {k : Nat} {x : Int} (h : k < O.length) : (pad O).set k x = pad (O.set k x) := by
  unfold pad; rw [List.set_append_left _ _ h, List.length_set]
theorem iL {O : List Int} {k : Nat} (h : k < O.length) : (ivs (pad O))[0 + k * 1]? = some (iv (O.getD k 0)) := by
  obtain ⟨z, hz⟩ := zT h
  unfold ivs pad
  rw [Nat.zero_add, Nat.mul_one, List.getElem?_map, List.getElem?_append_left h, List.getD_eq_getElem?_getD, hz]; rfl
theorem fill_set {i : Nat} (h : i < 32) : (List.replicate i (-1 : Int) ++ List.replicate (32 - i) 0).set i (-1) = List.replicate (i + 1) (-1) ++ List.replicate (32 - (i + 1)) 0 := by
  obtain ⟨m, hm⟩ : ∃ m, 32 - i = m + 1 := ⟨31 - i, by omega⟩
  have hm2 : 32 - (i + 1) = m := by omega
  rw [hm, hm2, List.set_append, if_neg (by simp), List.length_replicate, Nat.sub_self, List.replicate_succ, List.set_cons_zero, List.replicate_succ', List.append_assoc]
  rfl
theorem lC {U : Nat → Bool} {V : List Dv} {L : List Int} {n : Nat} (hV : ∀ d ∈ V, yY d n = true) (hL : ∀ v ∈ L, 0 ≤ v ∧ v < n) (k : Nat) (h : (brun U V k (yu n L, L)).2 = []) : (brun U V k (yu n L, L)).1 = flood U V n L := by
  unfold flood
  have he := mF hV (mu (yu n L, L)) (cD (U := U) (V := V) hL) (Nat.le_refl _)
  have e1 : brun U V (k + mu (yu n L, L)) (yu n L, L) = brun U V k (yu n L, L) := by rw [fP, iD h]
  have e2 : brun U V (mu (yu n L, L) + k) (yu n L, L) = brun U V (mu (yu n L, L)) (yu n L, L) := by rw [fP, iD he]
  rw [← e1, Nat.add_comm, e2]
theorem mO {L : List Int} {n j : Nat} {x : Int} (h : L[j]? = some x) : yu n (L.take (j + 1)) = (yu n (L.take j)).set x.toNat 0 := by
  unfold yu; rw [qX h, List.foldl_append]; rfl
theorem FlOk.lt {U : Nat → Bool} {V : List Dv} {L : List Int} {n : Nat} {S : Fl} (h : FlOk U V L n S) {x k : Nat} (hx : S.1[x]? = some (k : Int)) : k < n := by
  have key : ∀ (k x : Nat), S.1[x]? = some (k : Int) → ∀ j : Nat, j < k + 1 → (j : Int) ∈ S.1 := by
    intro k
    induction k with
    | zero =>
      intro x hx j hj
      obtain rfl : j = 0 := by omega
      exact List.mem_of_getElem? hx
    | succ k ih =>
      intro x hx j hj
      by_cases e : j = k + 1
      · subst e; exact List.mem_of_getElem? hx
      · obtain ⟨i, d, h1, h2, h3, h4⟩ := h.pre x k hx
        exact ih _ h4 j (by omega)
  have := uW (O := S.1) (k + 1) (key k x hx)
  have := h.len
  omega
theorem mu_le {S : Fl} : mu S ≤ 2 * S.1.length + S.2.length := by
  unfold mu
  have := List.countP_le_length (p := fun x : Int => decide (x < 0)) (l := S.1)
  omega
theorem iv_one (L : List Int) : ∀ x ∈ L.map iv, yR x.cells = true := fun x hx => by
  obtain ⟨r, _, rfl⟩ := List.mem_map.1 hx
  rfl
set_option maxHeartbeats 8000000 in
theorem dist_A (N : List Nd) (V : List Dv) (us : List Bool) (U : Nat → Bool) (L : List Int) (hV : ∀ d ∈ V, yY d N.length = true) (hu : ∀ i, i < V.length → us[i]? = some (U i)) (hL : ∀ v ∈ L, 0 ≤ v ∧ v < N.length) (h0 : 0 < L.length) (hl : L.length ≤ 32) (hn : N.length ≤ 32) (hv : V.length ≤ 64) :
    zu Tryz.prog G 68 [qE N V, .sl 1 (bsv us), .sl 1 (L.map iv)] [] (.ag (ivs (pad (flood U V N.length L)))) [] := by
  have hml : (L.map iv).length = L.length := by simp
  have hvl : (V.map Dv.av).length = V.length := by simp
  refine zf tbOk (zM Tryz.func68 (by kernel_rfl) rfl) Tryz.func68 rfl _ Tryz.ntmps68 (Nat.le_of_ble_eq_true rfl) fun X hX => ?_
  subst hX
  repeat (first | ((with_reducible refine zI ?_); refine zH rfl ?_) | ((with_reducible refine jB ?_); refine jA tbOk rfl rfl ?_) | ((with_reducible refine yw ?_); refine yv rfl rfl rfl ?_)  | refine zJ ?_ | refine zB rfl ?_ | with_reducible (first | refine zC ?_ | refine zF ?_ | refine zU ?_) | ((with_reducible refine zA ?_ ?_); kernel_rfl))
  refine yL (ι := Nat) (fun i => i ≤ 32) (fun i => 32 - i) (fun v i => [(1, .sl 1 (bsv us)), (2, .sl 1 (L.map iv)), (3, .ptr 3 (v 3) 0), (6, .ptr 6 (v 6) 0), (7, .ptr 7 (v 7) 0), (16, .v (.int .i64 (i : Nat)))]) (fun v i => [(3, .box [.sl 3 (N.map Nd.av), .sl 5 (V.map Dv.av)]), (6, .box (ivs (List.replicate 32 0))), (7, .box (ivs (List.replicate i (-1) ++ List.replicate (32 - i) 0)))]) ?_ ?_
  · exact ⟨0, Nat.zero_le _, trivial, ⟨rfl, rfl, rfl, rfl, rfl, rfl, trivial⟩, ⟨rfl, rfl, rfl, trivial⟩⟩
  rintro v i hi
  repeat (first | ((with_reducible refine zP ?_); refine zS rfl rfl rfl ?_)  | refine zJ ?_ | refine zB rfl ?_ | with_reducible (first | refine zC ?_ | refine zF ?_) | ((with_reducible refine zA ?_ ?_); kernel_rfl))
  refine zX rfl (fun h => ?_) (fun h => ?_)
  · have hlt : i < 32 := by simp at h; omega
    repeat (first | ((with_reducible refine zI ?_); refine zH rfl ?_) | ((with_reducible refine zE ?_); refine zD rfl ?_)  | refine zJ ?_ | refine zB rfl ?_ | with_reducible (first | refine zC ?_ | refine zF ?_ | refine zU ?_ | refine zN ?_) | ((with_reducible refine zA ?_ ?_); kernel_rfl))
    (with_reducible refine zW ?_); refine yj tbOk fG rfl rfl rfl (by constructor <;> omega) ?_
    repeat (first   | refine zB rfl ?_  )
    (with_reducible refine yN ?_); refine yT tbOk rfl rfl rfl rfl rfl rfl rfl (by rw [je]; simp; omega) rfl ?_
    repeat (first | ((with_reducible refine zI ?_); refine zH rfl ?_) | ((with_reducible refine zP ?_); refine zY rfl rfl (by omega) ?_)  | refine zJ ?_ | refine zB rfl ?_ | with_reducible (first | refine zC ?_ | refine zd ?_) | ((with_reducible refine zA ?_ ?_); kernel_rfl))
    exact ⟨i + 1, by omega, by omega, ⟨rfl, rfl, rfl, rfl, rfl, rfl, trivial⟩, ⟨rfl, rfl, jy (by rw [pP, Int.toNat_natCast, fill_set hlt]), trivial⟩⟩
  obtain rfl : i = 32 := by simp at h; omega
  repeat (first | ((with_reducible refine zI ?_); refine zH rfl ?_)  | refine zB rfl ?_ | with_reducible (first | refine zC ?_ | refine ze ?_ | refine zF ?_ | refine zr ?_) | ((with_reducible refine za ?_ ?_); rfl) | ((with_reducible refine zA ?_ ?_); kernel_rfl))
  refine iS (sT (L.map iv) (iv_one L) (by omega)) (by omega) (by repeat' (first | exact trivial | exact Ren.sl _ _ | refine ⟨?_, ?_⟩)) rfl ?_
  repeat (first | ((with_reducible refine zI ?_); refine zH rfl ?_) | ((with_reducible refine zE ?_); refine zD rfl ?_) | ((with_reducible refine zp ?_); refine yU tbOk rfl rfl ?_)  | refine zJ ?_ | refine zB rfl ?_ | with_reducible (first | refine zC ?_ | refine zF ?_ | refine zU ?_) | ((with_reducible refine zA ?_ ?_); kernel_rfl))
  refine yL (ι := Nat) (fun j => j ≤ L.length) (fun j => L.length - j) (fun v j => [(1, .sl 1 (bsv us)), (3, .ptr 3 (v 3) 0), (6, .ptr 6 (v 6) 0), (7, .ptr 7 (v 7) 0), (9, .own 23 (v 23)), (24, .sl 1 (L.map iv)), (25, .v (.int .i64 (L.map iv).length)), (26, .v (.int .i64 (j : Nat)))]) (fun v j => [(3, .box [.sl 3 (N.map Nd.av), .sl 5 (V.map Dv.av)]), (6, .box (ivs (List.replicate 32 0))), (7, .box (ivs (pad (yu N.length (L.take j))))), (23, .ob (.qu 3 1 (L.map iv)))]) ?_ ?_
  · refine ⟨0, Nat.zero_le _, trivial, ⟨rfl, rfl, rfl, rfl, rfl, rfl, rfl, rfl, trivial⟩, ⟨rfl, rfl, jy ?_, rfl, trivial⟩⟩
    refine congrArg ivs ?_
    unfold pad
    rw [qA, show yu N.length (L.take 0) = List.replicate N.length (-1) from rfl, List.replicate_append_replicate, show N.length + (32 - N.length) = 32 by omega]
    simp
  clear v h hi
  rintro v j hj
  repeat (first | ((with_reducible refine zP ?_); refine zS rfl rfl rfl ?_)  | refine zJ ?_ | refine zB rfl ?_ | with_reducible (first | refine zC ?_ | refine zF ?_) | ((with_reducible refine zA ?_ ?_); kernel_rfl))
  refine zX rfl (fun h => ?_) (fun h => ?_)
  · have hlt : j < L.length := by simpa using h
    obtain ⟨x, hx⟩ := zT hlt
    have hy := mM hx
    have hxr := hL x (List.mem_of_getElem? hx)
    repeat (first | ((with_reducible refine zI ?_); refine zH rfl ?_) | ((with_reducible refine zE ?_); refine zD rfl ?_) | ((with_reducible refine zO ?_); refine zm tbOk rfl rfl rfl ?_) | ((with_reducible refine zW ?_); refine zb tbOk rfl rfl rfl rfl (by assumption) ?_)  | refine zJ ?_ | refine zB rfl ?_ | with_reducible (first | refine zC ?_ | refine zF ?_ | refine zU ?_ | refine zN ?_) | ((with_reducible refine zA ?_ ?_); kernel_rfl))
    (with_reducible refine zW ?_); refine yj tbOk fG rfl rfl rfl (by constructor <;> omega) ?_
    repeat (first   | refine zB rfl ?_  )
    (with_reducible refine yN ?_); refine yT tbOk rfl rfl rfl rfl rfl rfl rfl (by rw [je]; (rw [jz (by rw [qA]; exact hn)]; omega)) rfl ?_
    repeat (first | ((with_reducible refine zI ?_); refine zH rfl ?_) | ((with_reducible refine zP ?_); refine zY rfl rfl (by omega) ?_)  | refine zJ ?_ | refine zB rfl ?_ | with_reducible (first | refine zC ?_ | refine zd ?_) | ((with_reducible refine zA ?_ ?_); kernel_rfl))
    exact ⟨j + 1, by omega, by omega, ⟨rfl, rfl, rfl, rfl, rfl, rfl, rfl, rfl, trivial⟩, ⟨rfl, rfl, jy (by rw [pP, vI (by rw [qA]; omega), mO hx]), rfl, trivial⟩⟩
  have hjl : L.take j = L := by rw [List.take_of_length_le]; simp at h; omega
  rw [hjl]
  repeat (first    | with_reducible (first | refine zC ?_ | refine ze ?_ | refine zF ?_ | refine zU ?_ | refine zr ?_) | ((with_reducible refine za ?_ ?_); rfl) )
  refine yL (ι := Fl) (fun S => FlInv U V L N.length S ∧ mu S ≤ 1000 ∧ ∃ k, S = brun U V k (yu N.length L, L)) mu (fun v S => [(1, .sl 1 (bsv us)), (3, .ptr 3 (v 3) 0), (6, .ptr 6 (v 6) 0), (7, .ptr 7 (v 7) 0), (9, .own 23 (v 23))]) (fun v S => [(3, .box [.sl 3 (N.map Nd.av), .sl 5 (V.map Dv.av)]), (6, .box (ivs (List.replicate 32 0))), (7, .box (ivs (pad S.1))), (23, .ob (.qu 3 1 (S.2.map iv)))]) ?_ ?_
  · refine ⟨(yu N.length L, L), ⟨cD hL, ?_, 0, rfl⟩, trivial, ⟨rfl, rfl, rfl, rfl, rfl, trivial⟩, ⟨rfl, rfl, rfl, rfl, trivial⟩⟩
    refine Nat.le_trans mu_le ?_
    dsimp only
    rw [qA]; omega
  clear v h hj hjl
  rintro v S ⟨hI, hmu, kk, hS⟩
  have hlS : S.1.length = N.length := hI.ok.len
  repeat (first | ((with_reducible refine zI ?_); refine zH rfl ?_)  | refine zB rfl ?_ | with_reducible refine zF ?_ | ((with_reducible refine zA ?_ ?_); kernel_rfl))
  with_reducible refine zp ?_
  refine sR (e := 3) (sz := 1) (q := some (S.2.map iv)) tbOk rfl rfl rfl rfl ?_
  repeat (first | ((with_reducible refine zP ?_); refine zS rfl rfl rfl ?_)  | refine zJ ?_ | refine zB rfl ?_ | with_reducible refine zC ?_ )
  have hqm : (S.2.map iv).length = S.2.length := by simp
  refine zX rfl (fun h => ?_) (fun h => ?_)
  · have hq0 : 0 < S.2.length := by rw [← hqm]; simpa [qL] using h
    obtain ⟨x, Q, hSQ⟩ : ∃ x Q, S.2 = x :: Q := by
      cases hq : S.2 with
      | nil => rw [hq] at hq0; simp at hq0
      | cons x Q => exact ⟨x, Q, rfl⟩
    obtain ⟨hx0, kx, hkx⟩ := hI.ok.wait x (by rw [hSQ]; simp)
    have hxn : x.toNat < N.length := by rw [← hlS]; exact zo hkx
    obtain ⟨hIr, hlt⟩ := aW (U := U) hV hI
    have hlt := hlt (by rw [hSQ]; simp)
    have hok0 : FlOk U V L N.length (S.1, Q) := ⟨hI.ok.len, fun q hq' => hI.ok.wait q (by rw [hSQ]; simp [hq']), hI.ok.low, hI.ok.rch, hI.ok.pre⟩
    have hbr : aD U x 0 V (S.1, Q) = jq U V S := by unfold jq; rw [hSQ]
    have hmu0 : mu (S.1, Q) ≤ 1000 := by unfold mu at hmu ⊢; rw [hSQ] at hmu; simp at hmu ⊢; omega
    rw [hSQ]
    repeat (first | ((with_reducible refine zI ?_); refine zH rfl ?_)  | refine zB rfl ?_ | with_reducible (first | refine zC ?_ | refine zF ?_ | refine zU ?_ | refine zN ?_) | ((with_reducible refine zA ?_ ?_); kernel_rfl))
    with_reducible refine zW ?_
    refine qt (Q := (x :: Q).map iv) tbOk rfl rfl rfl rfl rfl rfl ⟨by decide, by simp⟩ ?_
    repeat (first   | refine zB rfl ?_  )
    with_reducible refine zO ?_
    refine aO (y := iv x) (Q := (x :: Q).map iv) tbOk rfl rfl rfl rfl rfl ?_
    repeat (first | ((with_reducible refine zI ?_); refine zH rfl ?_) | ((with_reducible refine zE ?_); refine zD rfl ?_) | ((with_reducible refine zK ?_); refine zG tbOk rfl rfl rfl rfl ?_) | ((with_reducible refine zO ?_); refine zL tbOk rfl rfl rfl rfl rfl ?_) | ((with_reducible refine zp ?_); refine yU tbOk rfl rfl ?_)  | refine zJ ?_ | refine zB rfl ?_ | with_reducible (first | refine zC ?_ | refine zF ?_ | refine zU ?_) | ((with_reducible refine zA ?_ ?_); kernel_rfl))
    refine yL (ι := Nat × Fl) (fun i => i.1 ≤ V.length ∧ FlOk U V L N.length i.2 ∧ i.2.1[x.toNat]? = some (kx : Int) ∧ aD U x i.1 (V.drop i.1) i.2 = jq U V S ∧ mu i.2 ≤ 1000) (fun i => V.length - i.1) (fun v i => [(1, .sl 1 (bsv us)), (3, .ptr 3 (v 3) 0), (6, .ptr 6 (v 6) 0), (7, .ptr 7 (v 7) 0), (9, .own 23 (v 23)), (12, .v (.int .i64 x)), (42, .sl 5 (V.map Dv.av)), (43, .v (.int .i64 (V.map Dv.av).length)), (44, .v (.int .i64 (i.1 : Nat)))]) (fun v i => [(3, .box [.sl 3 (N.map Nd.av), .sl 5 (V.map Dv.av)]), (6, .box (ivs (List.replicate 32 0))), (7, .box (ivs (pad i.2.1))), (23, .ob (.qu 3 1 ((x :: i.2.2).map iv)))]) ?_ ?_
    · exact ⟨(0, (S.1, Q)), ⟨Nat.zero_le _, hok0, hkx, hbr, hmu0⟩, trivial, ⟨rfl, rfl, rfl, rfl, rfl, rfl, rfl, rfl, rfl, trivial⟩, ⟨rfl, rfl, rfl, rfl, trivial⟩⟩
    clear v h
    rintro v ⟨i, T⟩ ⟨hi, hT, hTx, hTb, hTm⟩
    dsimp only at hi hT hTx hTb hTm ⊢
    have hlT : T.1.length = N.length := hT.len
    have hTq : T.2.length ≤ 1000 := by unfold mu at hTm; omega
    repeat (first | ((with_reducible refine zP ?_); refine zS rfl rfl rfl ?_)  | refine zJ ?_ | refine zB rfl ?_ | with_reducible (first | refine zC ?_ | refine zF ?_) | ((with_reducible refine zA ?_ ?_); kernel_rfl))
    refine zX rfl (fun h => ?_) (fun h => ?_)
    · have hlt2 : i < V.length := by simpa using h
      obtain ⟨d, hd⟩ := zT hlt2
      have hy := fW hd
      have huy : (bsv us)[i]? = some (.v (.bool (U i))) := oK (hu i hlt2)
      obtain ⟨b1, b2, -, -, -, b6⟩ := oS hV hT hx0 hTx hd
      rw [yq hd, aD] at hTb
      repeat (first | ((with_reducible refine zI ?_); refine zH rfl ?_) | ((with_reducible refine zE ?_); refine zD rfl ?_) | ((with_reducible refine zO ?_); (first | refine zk tbOk rfl rfl rfl rfl (Nat.le_of_ble_eq_true rfl) ?_ | refine yQ tbOk rfl rfl (Nat.le_of_ble_eq_true rfl) ?_)) | ((with_reducible refine yN ?_); refine yT tbOk rfl rfl rfl rfl rfl rfl rfl (Nat.le_of_ble_eq_true rfl) rfl ?_) | ((with_reducible refine jB ?_); refine jA tbOk rfl rfl ?_) | ((with_reducible refine zW ?_); refine zb tbOk rfl rfl rfl rfl (by assumption) ?_)  | refine zJ ?_ | refine zB rfl ?_ | with_reducible (first | refine zC ?_ | refine zF ?_ | refine zU ?_ | refine zN ?_) | ((with_reducible refine zA ?_ ?_); kernel_rfl))
      refine zl (kY d x) (by repeat' (first | exact trivial | exact Ren.v _ | refine zn ?_ | refine ⟨?_, ?_⟩)) (by repeat' exact RenB.v _) ?_
      obtain ⟨w, hw⟩ : ∃ w, w = acr d x := ⟨_, rfl⟩
      rw [← hw]
      repeat (first | ((with_reducible refine zI ?_); refine zH rfl ?_) | ((with_reducible refine zE ?_); refine zD rfl ?_) | ((with_reducible refine zP ?_); refine zS rfl rfl rfl ?_)  | refine zJ ?_ | refine zB rfl ?_ | with_reducible (first | refine zC ?_ | refine zF ?_) | ((with_reducible refine zA ?_ ?_); kernel_rfl))
      by_cases c1 : 0 ≤ w
      · have d1 : decide (w ≥ 0) = true := decide_eq_true c1
        have hwn : w < N.length := (eF (hV d (List.mem_of_getElem? hd)) hw.symm c1).1
        cases c2 : U i with
        | false =>
          have e : bdev U x i d T = T := by unfold bdev; rw [if_neg (by rw [c2]; simp)]
          rw [e] at hTb
          rw [c2] at huy
          repeat (first | ((with_reducible refine zI ?_); refine zH rfl ?_) | ((with_reducible refine zO ?_); refine zm tbOk rfl rfl rfl ?_) | ((with_reducible refine zZ ?_); (first | refine zh rfl (by first | rfl | assumption) rfl ?_ | refine zi rfl (by first | rfl | assumption) rfl ?_)) | ((with_reducible refine zW ?_); refine zb tbOk rfl rfl rfl rfl (by assumption) ?_) | ((with_reducible refine zP ?_); refine zY rfl rfl (by omega) ?_)  | refine zJ ?_ | refine zB rfl ?_ | refine zq rfl rfl (by first | rfl | assumption) ?_ | refine yH rfl rfl (by first | rfl | assumption) ?_ | with_reducible (first | refine zC ?_ | refine zd ?_ | refine zN ?_) | ((with_reducible refine zA ?_ ?_); kernel_rfl) | refine zy rfl (by first | rfl | assumption) ?_)
          exact ⟨(i + 1, T), ⟨hlt2, hT, hTx, hTb, hTm⟩, by show V.length - (i + 1) < V.length - i; omega, ⟨rfl, rfl, rfl, rfl, rfl, rfl, rfl, rfl, rfl, trivial⟩, ⟨rfl, rfl, rfl, rfl, trivial⟩⟩
        | true =>
          rw [c2] at huy
          repeat (first | ((with_reducible refine zI ?_); refine zH rfl ?_) | ((with_reducible refine zO ?_); refine zm tbOk rfl rfl rfl ?_) | ((with_reducible refine zZ ?_); refine zh rfl (by first | rfl | assumption) rfl ?_) | ((with_reducible refine zW ?_); refine zb tbOk rfl rfl rfl rfl (by assumption) ?_)  | refine zB rfl ?_ | refine zq rfl rfl (by first | rfl | assumption) ?_  )
          (with_reducible refine zW ?_); refine yj tbOk fG rfl rfl rfl (by constructor <;> omega) ?_
          repeat (first   | refine zq rfl rfl (by first | rfl | assumption) ?_  )
          (with_reducible refine zO ?_); refine zL tbOk rfl rfl rfl rfl (iL (by omega)) ?_
          repeat (first | ((with_reducible refine zZ ?_); refine zh rfl (by first | rfl | assumption) rfl ?_) | ((with_reducible refine zP ?_); refine zS rfl rfl rfl ?_)  | refine zJ ?_ | refine zB rfl ?_ | refine zq rfl rfl (by first | rfl | assumption) ?_ | with_reducible refine zC ?_ )
          refine zX rfl (fun c3 => ?_) (fun c3 => ?_)
          · have c3' : T.1.getD w.toNat 0 < 0 := of_decide_eq_true c3
            have e : bdev U x i d T = (T.1.set w.toNat (T.1.getD x.toNat 0 + 1), T.2 ++ [w]) := by unfold bdev; rw [← hw, if_pos ⟨c1, c2, c3'⟩]
            rw [e] at hTb b1 b2 b6
            have hgx : T.1.getD x.toNat 0 = kx := getD_some hTx
            have hkn := hT.lt hTx
            repeat (first | ((with_reducible refine zI ?_); refine zH rfl ?_)  | refine zB rfl ?_ | with_reducible refine zF ?_ | ((with_reducible refine zA ?_ ?_); kernel_rfl))
            (with_reducible refine zW ?_); refine yj tbOk fG rfl rfl rfl (by constructor <;> omega) ?_
            repeat (first   | refine zB rfl ?_  )
            (with_reducible refine zO ?_); refine zL tbOk rfl rfl rfl rfl (iL (by omega)) ?_
            repeat (first | ((with_reducible refine zP ?_); refine zY rfl rfl (by omega) ?_)  | refine zB rfl ?_  )
            (with_reducible refine zW ?_); refine yj tbOk fG rfl rfl rfl (by constructor <;> omega) ?_
            repeat (first   | refine zB rfl ?_  )
            (with_reducible refine yN ?_); refine yT tbOk rfl rfl rfl rfl rfl rfl rfl (by rw [je]; (rw [jz (by omega)]; omega)) rfl ?_
            repeat (first | ((with_reducible refine zI ?_); refine zH rfl ?_) | ((with_reducible refine yP ?_); refine yO tbOk rfl rfl rfl rfl rfl (by omega) rfl rfl rfl ?_) | refine zJ ?_ | refine zB rfl ?_ | with_reducible refine zC ?_ | ((with_reducible refine zA ?_ ?_); kernel_rfl))
            with_reducible refine zp ?_
            refine iW (q := some ((x :: T.2).map iv)) tbOk (fun e => by cases e) rfl rfl rfl rfl rfl (by decide) rfl rfl rfl rfl (Nat.succ_pos _) (fun x hx => by simp at hx; subst hx; rfl) (by simp [qL]; omega) (by simp [qL]; omega) ?_
            repeat (first | ((with_reducible refine zI ?_); refine zH rfl ?_) | ((with_reducible refine zE ?_); refine zD rfl ?_) | ((with_reducible refine zP ?_); refine zY rfl rfl (by omega) ?_)  | refine zJ ?_ | refine zB rfl ?_ | with_reducible (first | refine zC ?_ | refine zd ?_) | ((with_reducible refine zA ?_ ?_); kernel_rfl))
            refine ⟨(i + 1, (T.1.set w.toNat (T.1.getD x.toNat 0 + 1), T.2 ++ [w])), ⟨hlt2, b1, b2 _ _ hTx, hTb, Nat.le_trans b6 hTm⟩, by show V.length - (i + 1) < V.length - i; omega, ⟨rfl, rfl, rfl, rfl, rfl, rfl, rfl, rfl, rfl, trivial⟩, ⟨rfl, rfl, jy ?_, ?_, trivial⟩⟩
            · rw [pP, vI (by omega)]
            · simp [qL, List.map_append]; rfl
          · have c3' : ¬ T.1.getD w.toNat 0 < 0 := of_decide_eq_false c3
            have e : bdev U x i d T = T := by unfold bdev; rw [← hw, if_neg (fun h => c3' h.2.2)]
            rw [e] at hTb
            repeat (first | ((with_reducible refine zI ?_); refine zH rfl ?_) | ((with_reducible refine zP ?_); refine zY rfl rfl (by omega) ?_)  | refine zJ ?_ | refine zB rfl ?_ | with_reducible (first | refine zC ?_ | refine zd ?_ | refine zN ?_) | ((with_reducible refine zA ?_ ?_); kernel_rfl))
            exact ⟨(i + 1, T), ⟨hlt2, hT, hTx, hTb, hTm⟩, by show V.length - (i + 1) < V.length - i; omega, ⟨rfl, rfl, rfl, rfl, rfl, rfl, rfl, rfl, rfl, trivial⟩, ⟨rfl, rfl, rfl, rfl, trivial⟩⟩
      · have d1 : decide (w ≥ 0) = false := decide_eq_false (by omega)
        have e : bdev U x i d T = T := by unfold bdev; rw [← hw, if_neg (fun h => c1 h.1)]
        rw [e] at hTb
        repeat (first | ((with_reducible refine zI ?_); refine zH rfl ?_) | ((with_reducible refine zZ ?_); refine zi rfl (by first | rfl | assumption) rfl ?_) | ((with_reducible refine zP ?_); refine zY rfl rfl (by omega) ?_)  | refine zJ ?_ | refine zB rfl ?_ | refine yH rfl rfl (by first | rfl | assumption) ?_ | with_reducible (first | refine zC ?_ | refine zd ?_ | refine zN ?_) | ((with_reducible refine zA ?_ ?_); kernel_rfl) | refine zy rfl (by first | rfl | assumption) ?_)
        exact ⟨(i + 1, T), ⟨hlt2, hT, hTx, hTb, hTm⟩, by show V.length - (i + 1) < V.length - i; omega, ⟨rfl, rfl, rfl, rfl, rfl, rfl, rfl, rfl, rfl, trivial⟩, ⟨rfl, rfl, rfl, rfl, trivial⟩⟩
    · have hge : ¬ i < V.length := by simpa using h
      rw [List.drop_of_length_le (by omega)] at hTb
      have hTb : T = jq U V S := hTb
      repeat (first | ((with_reducible refine zI ?_); refine zH rfl ?_)  | refine zB rfl ?_ | with_reducible (first | refine zC ?_ | refine ze ?_ | refine zd ?_ | refine zr ?_) | ((with_reducible refine za ?_ ?_); rfl) | ((with_reducible refine zA ?_ ?_); kernel_rfl))
      with_reducible refine dM ?_
      refine kS (Q := (x :: T.2).map iv) tbOk rfl rfl rfl rfl rfl rfl ⟨by decide, by simp; omega⟩ ?_
      repeat (first | ((with_reducible refine zE ?_); refine zD rfl ?_)  | refine zJ ?_ | refine zB rfl ?_ | with_reducible refine zC ?_ )
      exact ⟨T, ⟨by rw [hTb]; exact hIr, hTm, kk + 1, by rw [hTb, fP, ← hS]; rfl⟩, by rw [hTb]; exact hlt, ⟨rfl, rfl, rfl, rfl, rfl, trivial⟩, ⟨rfl, rfl, rfl, rfl, trivial⟩⟩
  · have hq0 : S.2 = [] := List.length_eq_zero_iff.1 (by rw [← hqm]; simp [qL] at h; simpa using h)
    have hfl : S.1 = flood U V N.length L := by rw [hS]; exact lC hV hL kk (by rw [← hS]; exact hq0)
    rw [← hfl]
    repeat (first   | refine zB rfl ?_ | with_reducible (first | refine zC ?_ | refine ze ?_ | refine zF ?_ | refine zr ?_) | ((with_reducible refine za ?_ ?_); rfl) | ((with_reducible refine zA ?_ ?_); kernel_rfl))
    with_reducible refine zO ?_
    refine kU tbOk rfl rfl rfl rfl (by rw [je, jz (by omega)]) ?_
    repeat (first   | refine zB rfl ?_  )
    with_reducible refine yN ?_
    refine iQ tbOk rfl rfl rfl rfl rfl (by rw [je, jz (by omega)]) (by rfl) (kO _) ?_
    repeat (first   | refine zJ ?_ | with_reducible (first | refine zC ?_ | refine zQ ?_) )
    exact xK (by first | exact .inr rfl | exact .inl rfl) rfl rfl rfl rfl (by rw [je, jz (by omega)]) rfl (gE _)
end Go.Proofs.YtnafokinifbfhaaGreatDoor
