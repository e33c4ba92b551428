/- permitofficelaw26.DocumentReads, by the abstract machine: it answers true for all that comes in; conditions: the tables of classes and powers and a cell of the library stand. -/
import Derived.Test.YtjamibeffalhaaaGreatDoorDeA
import Derived.Test.YtjamibeffalhaaaGreatDoorDyB
import Derived.Test.YtjamibeffalhaaaGreatDoorDyE
import Derived.Test.YtjamibeffalhaaaGreatDoorAbsM
import Derived.Test.YtjamibeffalhaaaGreatDoorAbsX
set_option linter.unusedVariables false
set_option linter.unusedSimpArgs false
namespace Go.Proofs.YtjamibeffalhaaaGreatDoor
open Go Go.RowKit
set_option maxRecDepth 10000
variable {G : Nat → Option (List Value)}
theorem DcOk.sz {N : List Nd} {V : List Dv} {d : Dc} (h : DcOk N V d) : DcSz d := by
  have e : (200 : Nat) ≤ maxLen := by unfold maxLen; omega
  have h1 := (fL h.zone).2.2
  have h2 := (bN h.net).1
  have h3 := (kJ h.lk).1
  have h4 := (aA h.iss).2.2
  have h5 := (aA h.hol).2.2
  have h6 := (iK h.ce).1
  have s1 : d.iss.size = d.iss.data.toList.length := Array.length_toList.symm
  have s2 : d.hol.size = d.hol.data.toList.length := Array.length_toList.symm
  exact ⟨by omega, by omega, by omega, by omega, by omega⟩
theorem nM : DcSz Dc.zer := ⟨Nat.zero_le _, Nat.zero_le _, Nat.zero_le _, Nat.zero_le _, Nat.zero_le _⟩
theorem parse_sz (N : List Nd) (V : List Dv) (s : List UInt8) : DcSz (jf N V s).1 := by
  unfold jf
  split
  · exact nM
  split
  · exact nM
  unfold endD
  split
  · exact nM
  split
  · exact nM
  · rename_i h
    exact (fE.1 (by simpa using h) : DcOk N V _).sz
theorem uZ {N : List Nd} {V : List Dv} {d : Dc} : (qA N V d).1.size ≤ 16000 := by
  unfold qA
  split
  · exact Nat.zero_le _
  · rename_i h
    rw [zy]
    exact lU (fE.1 (by simpa using h))
theorem bG (s : ByteArray) : (cI s).length = s.size := by
  unfold cI
  rw [List.length_map]
  exact Array.length_toList
theorem uE (L : List Int) : (strOfNums L).size = L.length := by
  unfold strOfNums
  show (List.toArray _).size = _
  simp
set_option maxRecDepth 100000 in
set_option maxHeartbeats 16000000 in
theorem uG (l : List Int) (raw : ByteArray) (at_ by_ : Int) (hG : GCls G) (hP : GPow G) (hM : GMax G) : zz Tryz.prog G 3 [.sl 1 (l.map iv), .v (.string raw), .v (.int .i64 at_), .v (.int .u8 by_)] [] (.v (.bool true)) [] := by
  refine zb tbOk (zc Tryz.func3 (by kernel_rfl) rfl) Tryz.func3 rfl _ Tryz.ntmps3 (Nat.le_of_ble_eq_true rfl) fun X hX => ?_
  subst hX
  repeat (first | ((with_reducible refine zE ?_); refine zF rfl ?_)  | refine zL ?_ | refine zB rfl ?_ | with_reducible (first | refine zG ?_ | refine zH ?_) | ((with_reducible refine zA ?_ ?_); kernel_rfl))
  refine zC (nF hG hP hM) ?_
  repeat (first | ((with_reducible refine zK ?_); refine zJ rfl ?_) | ((with_reducible refine k_un ?_); refine jF rfl ?_)  | refine zB rfl ?_ | refine zw rfl rfl (by first | rfl | assumption) ?_  )
  refine zC (few_A (l.map iv)) ?_
  repeat (first | ((with_reducible refine zK ?_); refine zJ rfl ?_) | ((with_reducible refine k_un ?_); refine jF rfl ?_) | ((with_reducible refine za ?_); refine zf rfl (by first | rfl | assumption) rfl ?_)  | refine zB rfl ?_ | refine zw rfl rfl (by first | rfl | assumption) ?_  )
  refine zv rfl rfl (fun h => ?_) (fun h => ?_)
  · repeat (first | ((with_reducible refine za ?_); refine zh rfl (by first | rfl | assumption) rfl ?_)  | refine zL ?_ | refine zB rfl ?_ | refine yA rfl rfl (by first | rfl | assumption) ?_ | with_reducible (first | refine zG ?_ | refine zH ?_) | ((with_reducible refine zA ?_ ?_); kernel_rfl) | refine zn rfl (by first | rfl | assumption) ?_)
    refine zC (nF hG hP hM) ?_
    repeat (first | ((with_reducible refine zE ?_); refine zF rfl ?_)  | refine zL ?_ | refine zB rfl ?_ | with_reducible (first | refine zG ?_ | refine zO ?_ | refine zN ?_) )
    refine zm (by first | exact .inr rfl | exact .inl rfl) rfl rfl ?_
    rfl
  have h400 : l.length ≤ 400 := by simp at h; omega
  have hD := DkOk.new h400
  have ok := tie_ok (dk0 l)
  obtain ⟨v1, v64⟩ := xI (dk0 l)
  have hnl := xB (dk0 l)
  have hT := tie_A (G := X.G) (dk0 l) hD
  have hTd := tieD_ok hD
  have hdc := fun D (hD : DkOk D) => fdoc_A (G := X.G) (bF (dk0 l)) (qK (dk0 l)) D hD ok (by omega) (by omega) v1 v64
  have hdf := fun D (hD : DkOk D) => wV (bF (dk0 l)) (qK (dk0 l)) hD
  have hnet := uB (dk0 l)
  obtain ⟨N, hN⟩ : ∃ N, N = bF (dk0 l) := ⟨_, rfl⟩
  obtain ⟨V, hV⟩ : ∃ V, V = qK (dk0 l) := ⟨_, rfl⟩
  obtain ⟨S, hS⟩ : ∃ S, S = tieSs (dk0 l) := ⟨_, rfl⟩
  obtain ⟨D0, hD0⟩ : ∃ D0, D0 = tieD (dk0 l) := ⟨_, rfl⟩
  rw [← hN, ← hV, ← hS, ← hD0] at hT
  rw [← hN, ← hV] at ok hnet
  rw [← hV] at v1 v64
  rw [← hN] at hnl
  rw [← hD0] at hTd
  simp only [← hN, ← hV] at hdc hdf
  clear hN hV hS hD0
  repeat (first | ((with_reducible refine zK ?_); refine zJ rfl ?_) | ((with_reducible refine za ?_); refine zf rfl (by first | rfl | assumption) rfl ?_) | ((with_reducible refine zt ?_); refine yv (by exact Tryz.underlying9) rfl ?_) | ((with_reducible refine zQ ?_); refine zT rfl rfl rfl ?_)  | refine zL ?_ | refine zB rfl ?_ | refine zw rfl rfl (by first | rfl | assumption) ?_ | with_reducible refine zG ?_ )
  refine zZ rfl (fun h => ?_) (fun h => ?_)
  · repeat (first   | refine zB rfl ?_ | with_reducible refine zH ?_ | ((with_reducible refine zA ?_ ?_); kernel_rfl))
    refine zC (nF hG hP hM) ?_
    repeat (first | ((with_reducible refine zE ?_); refine zF rfl ?_)  | refine zL ?_ | refine zB rfl ?_ | with_reducible (first | refine zG ?_ | refine zO ?_ | refine zN ?_) )
    refine zm (by first | exact .inr rfl | exact .inl rfl) rfl rfl ?_
    rfl
  have hr4 : raw.size ≤ 400 := by simp at h; omega
  have hdoc := hdc D0 hTd
  obtain ⟨hE, hf⟩ := hdf D0 hTd
  clear hdc hdf
  generalize docD N V D0 = Q at hdoc hE hf
  obtain ⟨d, E⟩ := Q
  dsimp only at hdoc hE hf
  have hpr := xN (G := X.G) N V d hG ok hf.sz
  have hPl := uZ (N := N) (V := V) (d := d)
  obtain ⟨⟨P, pe⟩, hPp⟩ : ∃ q, q = qA N V d := ⟨_, rfl⟩
  rw [← hPp] at hpr hPl
  dsimp only at hpr hPl
  clear hPp
  repeat (first | ((with_reducible refine zK ?_); refine zJ rfl ?_)  | refine zB rfl ?_ | with_reducible (first | refine zG ?_ | refine zH ?_ | refine zS ?_) | ((with_reducible refine zA ?_ ?_); kernel_rfl))
  refine sL (new_A l) (by repeat' (first | exact trivial | exact Ren.v _ | exact Ren.sl _ _ | exact Ren.ep _ | exact Ren.ptr _ _ _ _ rfl | exact Ren.bs _ _ _ _ _ rfl | exact Ren.nil _ | exact Ren.own _ _ _ _ ⟨_, rfl⟩ | refine zi ?_ | refine zj ?_ | refine zl ?_ | refine ⟨?_, ?_⟩)) (by repeat' (first | exact trivial | exact RenB.v _ | exact RenB.sl _ _ | exact RenB.ep _ | exact RenB.ptr _ _ _ _ rfl | refine jX ?_ | refine jW ?_ | refine ⟨?_, ?_⟩)) rfl ?_
  repeat (first | ((with_reducible refine zK ?_); refine zJ rfl ?_) | ((with_reducible refine zE ?_); refine zF rfl ?_)  | refine zL ?_ | refine zB rfl ?_ | with_reducible (first | refine zG ?_ | refine zH ?_) | ((with_reducible refine zA ?_ ?_); kernel_rfl))
  refine zD (y := .tu [jo N V, .sl 1 (S.map iv)]) (ss := [(40, 1)]) (hT) (by simp) (in1 rfl rfl) rfl (ya rfl) ?_
  repeat (first | ((with_reducible refine zK ?_); refine zJ rfl ?_) | ((with_reducible refine zE ?_); refine zF rfl ?_) | ((with_reducible refine zR ?_); refine zk tbOk rfl rfl rfl rfl (Nat.le_of_ble_eq_true rfl) ?_) | ((with_reducible refine zp ?_); refine zq tbOk rfl rfl rfl rfl rfl rfl rfl (Nat.le_of_ble_eq_true rfl) rfl ?_) | ((with_reducible refine yR ?_); refine yQ tbOk rfl rfl ?_) | ((with_reducible refine ye ?_); refine yd rfl rfl ?_)  | refine zL ?_ | refine zB rfl ?_ | with_reducible (first | refine zG ?_ | refine zH ?_) | ((with_reducible refine yZ mixd ?_ ?_); kernel_rfl))
  refine zD (y := d.av) (ss := [(40, 1)]) (hdoc) (by simp) (in1 rfl rfl) rfl (ya rfl) ?_
  repeat (first   | refine zB rfl ?_  )
  refine zC (hpr) ?_
  repeat (first | ((with_reducible refine zK ?_); refine zJ rfl ?_) | ((with_reducible refine zE ?_); refine zF rfl ?_) | ((with_reducible refine ye ?_); refine yd rfl rfl ?_)  | refine yf (by kernel_rfl) ?_ | refine zB rfl ?_ | with_reducible (first | refine zG ?_ | refine zH ?_) | ((with_reducible refine zA ?_ ?_); kernel_rfl))
  with_reducible refine jS ?_
  refine vB Tryz.underlying9 Tryz.underlying42 Tryz.underlying5 rfl rfl ?_
  repeat (first | ((with_reducible refine zK ?_); refine zJ rfl ?_) | ((with_reducible refine zE ?_); refine zF rfl ?_)  | refine zL ?_ | refine zB rfl ?_ | with_reducible (first | refine zG ?_ | refine zH ?_) | ((with_reducible refine zA ?_ ?_); kernel_rfl))
  with_reducible refine zt ?_
  refine rM tbOk rfl rfl rfl rfl ?_
  rw [bG]
  repeat (first | ((with_reducible refine zQ ?_); refine zT rfl rfl rfl ?_)  | refine zL ?_ | refine zB rfl ?_ | with_reducible refine zG ?_)
  refine awp_via (ι := List Int) (fun v L => L.length = P.size) (fun v L => [(1, .v (.string raw)), (2, .v (.int .i64 at_)), (10, .ptr 10 (v 10) 0), (12, .v (.string P)), (14, .own 55 (v 55))]) (fun v L => [(10, .box [.sl 3 (N.map Nd.av), .sl 5 (V.map Dv.av)]), (55, .ob (.by_ L))]) ?_ ?_
  · refine zZ rfl (fun c => ?_) (fun c => ?_)
    · have hp0 : 0 < P.size := by simp at c; omega
      have hmr := oW at_ (k := (P.size : Int)) (by omega)
      have hmd := mod_A (G := X.G) at_ (P.size : Int) (by omega) (by omega)
      obtain ⟨mi, hmi⟩ : ∃ m, m = modP at_ (P.size : Int) := ⟨_, rfl⟩
      rw [← hmi] at hmr hmd
      repeat (first | ((with_reducible refine zK ?_); refine zJ rfl ?_)  | refine zB rfl ?_  | ((with_reducible refine zA ?_ ?_); kernel_rfl))
      with_reducible refine zt ?_
      refine rM tbOk rfl rfl rfl rfl ?_
      rw [bG]
      repeat (first   | refine zB rfl ?_  )
      refine zC (hmd) ?_
      repeat (first | ((with_reducible refine zK ?_); refine zJ rfl ?_)  | refine zB rfl ?_  )
      with_reducible refine zU ?_
      refine iZ tbOk rfl rfl rfl rfl rfl rfl ⟨by omega, by rw [bG]; omega⟩ ?_
      repeat (first   | refine zB rfl ?_  )
      with_reducible refine zp ?_
      refine rR tbOk rfl rfl rfl rfl rfl (by rw [bG]; omega) ?_
      repeat (first   | refine zL ?_ | with_reducible refine zG ?_ )
      exact ⟨(cI P).set mi.toNat by_, by show (List.set _ _ _).length = _; rw [List.length_set, bG], trivial, ⟨rfl, rfl, rfl, rfl, rfl, trivial⟩, ⟨rfl, rfl, trivial⟩⟩
    · repeat (first    | with_reducible (first | refine zG ?_ | refine zS ?_) )
      exact ⟨cI P, bG P, trivial, ⟨rfl, rfl, rfl, rfl, rfl, trivial⟩, ⟨rfl, rfl, trivial⟩⟩
  rintro v L hL
  repeat (first | ((with_reducible refine zK ?_); refine zJ rfl ?_) | ((with_reducible refine zE ?_); refine zF rfl ?_)  | refine zL ?_ | refine zB rfl ?_ | with_reducible (first | refine zG ?_ | refine zH ?_ | refine zY ?_) | ((with_reducible refine zA ?_ ?_); kernel_rfl))
  refine wL (ι := ByteArray) (fun v F => F.size ≤ P.size) (fun v F => [(1, .v (.string raw)), (2, .v (.int .i64 at_)), (10, .ptr 10 (v 10) 0), (12, .v (.string P)), (14, .own 55 (v 55)), (15, .v (.string F))]) (fun v F => [(10, .box [.sl 3 (N.map Nd.av), .sl 5 (V.map Dv.av)]), (55, .ob (.by_ L))]) ?_ ?_
  · refine yL (ι := Nat) (fun k => k ≤ P.size) (fun k => P.size - k) (fun v k => [(1, .v (.string raw)), (2, .v (.int .i64 at_)), (10, .ptr 10 (v 10) 0), (12, .v (.string P)), (14, .own 55 (v 55)), (15, .v (.string P)), (16, .v (.int .i64 (k : Nat)))]) (fun v k => [(10, .box [.sl 3 (N.map Nd.av), .sl 5 (V.map Dv.av)]), (55, .ob (.by_ L))]) ?_ ?_
    · exact ⟨0, Nat.zero_le _, trivial, ⟨rfl, rfl, rfl, rfl, rfl, rfl, rfl, trivial⟩, ⟨rfl, rfl, trivial⟩⟩
    clear v h
    rintro v k hk
    repeat (first | ((with_reducible refine zK ?_); refine zJ rfl ?_) | ((with_reducible refine zt ?_); refine yv (by exact Tryz.underlying9) rfl ?_) | ((with_reducible refine zQ ?_); refine zT rfl rfl rfl ?_)  | refine zL ?_ | refine zB rfl ?_ | with_reducible (first | refine zG ?_ | refine zH ?_) | ((with_reducible refine zA ?_ ?_); kernel_rfl))
    refine zZ rfl (fun c => ?_) (fun c => ?_)
    · have hlt : k < P.size := by simp at c; omega
      have hdl : P.data.toList.length = P.size := Array.length_toList
      obtain ⟨x, hx⟩ := zd (L := P.data.toList) (k := k) (by omega)
      have hix := cO P k x hx
      repeat (first | ((with_reducible refine zK ?_); refine zJ rfl ?_) | ((with_reducible refine jA ?_); refine jC rfl rfl (by assumption) ?_) | ((with_reducible refine zQ ?_); refine zT rfl rfl rfl ?_)  | refine zL ?_ | refine zB rfl ?_ | with_reducible (first | refine zG ?_ | refine zH ?_ | refine zY ?_ | refine zS ?_) | ((with_reducible refine zA ?_ ?_); kernel_rfl))
      refine zZ rfl (fun q => ?_) (fun q => ?_)
      · repeat (first | ((with_reducible refine zK ?_); refine zJ rfl ?_) | ((with_reducible refine zE ?_); refine zF rfl ?_) | ((with_reducible refine jz ?_); refine aM (by exact Tryz.underlying9) rfl rfl rfl (by refine ⟨?_, ?_, ?_⟩ <;> omega) ?_) | ((with_reducible refine zQ ?_); refine zg rfl rfl (by omega) ?_)  | refine zL ?_ | refine zB rfl ?_ | with_reducible (first | refine zG ?_ | refine zo ?_ | refine zH ?_ | refine yB ?_) | ((with_reducible refine ze ?_ ?_); rfl) | ((with_reducible refine pU ?_ ?_); rfl) | ((with_reducible refine zA ?_ ?_); kernel_rfl))
        exact ⟨_, by show (ByteArray.extract _ _ _).size ≤ _; rw [ByteArray.size_extract]; omega, trivial, ⟨rfl, rfl, rfl, rfl, rfl, rfl, trivial⟩, ⟨rfl, rfl, trivial⟩⟩
      · repeat (first | ((with_reducible refine zK ?_); refine zJ rfl ?_) | ((with_reducible refine zE ?_); refine zF rfl ?_) | ((with_reducible refine zQ ?_); refine zg rfl rfl (by omega) ?_)  | refine zL ?_ | refine zB rfl ?_ | with_reducible (first | refine zG ?_ | refine zu ?_ | refine zS ?_) | ((with_reducible refine zA ?_ ?_); kernel_rfl))
        exact ⟨k + 1, by omega, by omega, ⟨rfl, rfl, rfl, rfl, rfl, rfl, rfl, trivial⟩, ⟨rfl, rfl, trivial⟩⟩
    · repeat (first    | with_reducible (first | refine zG ?_ | refine zo ?_ | refine yB ?_) | ((with_reducible refine ze ?_ ?_); rfl) )
      exact ⟨P, Nat.le_refl _, trivial, ⟨rfl, rfl, rfl, rfl, rfl, rfl, trivial⟩, ⟨rfl, rfl, trivial⟩⟩
  clear v h
  rintro v F hF
  have hmr := oW at_ (k := (P.size : Int) + 1) (by omega)
  have hmd := mod_A (G := X.G) at_ ((P.size : Int) + 1) (by omega) (by omega)
  obtain ⟨mi, hmi⟩ : ∃ m, m = modP at_ ((P.size : Int) + 1) := ⟨_, rfl⟩
  rw [← hmi] at hmr hmd
  clear hmi
  have hmr2 : 0 ≤ mi ∧ mi ≤ (P.size : Int) := by omega
  repeat (first | ((with_reducible refine zK ?_); refine zJ rfl ?_) | ((with_reducible refine zt ?_); refine yv (by exact Tryz.underlying9) rfl ?_) | ((with_reducible refine zQ ?_); refine zg rfl rfl (by omega) ?_)  | refine zB rfl ?_ | with_reducible refine zH ?_ | ((with_reducible refine zA ?_ ?_); kernel_rfl))
  refine zC (hmd) ?_
  repeat (first | ((with_reducible refine zK ?_); refine zJ rfl ?_) | ((with_reducible refine zE ?_); refine zF rfl ?_) | ((with_reducible refine jz ?_); refine aM (by exact Tryz.underlying9) rfl rfl rfl (by refine ⟨?_, ?_, ?_⟩ <;> omega) ?_)  | refine zL ?_ | refine zB rfl ?_ | with_reducible (first | refine zG ?_ | refine zH ?_) | ((with_reducible refine zA ?_ ?_); kernel_rfl))
  with_reducible refine jS ?_
  refine sH Tryz.underlying42 Tryz.underlying5 Tryz.underlying9 rfl rfl rfl ?_
  have hBs : (strOfNums L).size = P.size := by rw [uE, hL]
  obtain ⟨B, hB⟩ : ∃ B, B = strOfNums L := ⟨_, rfl⟩
  rw [← hB] at hBs ⊢
  have hCs : (P.extract (0 : Int).toNat mi.toNat).size ≤ P.size := by rw [ByteArray.size_extract]; omega
  obtain ⟨C, hC⟩ : ∃ C, C = P.extract (0 : Int).toNat mi.toNat := ⟨_, rfl⟩
  rw [← hC] at hCs ⊢
  repeat (first | ((with_reducible refine zK ?_); refine zJ rfl ?_)  | refine zB rfl ?_  )
  with_reducible refine zQ ?_
  refine yc rfl rfl (by show P.size + 15 ≤ _; omega) ?_
  repeat (first | ((with_reducible refine zK ?_); refine zJ rfl ?_)  | refine zB rfl ?_  )
  with_reducible refine zQ ?_
  refine yc rfl rfl (by show P.size + 19 ≤ _; omega) ?_
  repeat (first | ((with_reducible refine zK ?_); refine zJ rfl ?_)  | refine zB rfl ?_  )
  with_reducible refine zQ ?_
  refine yc rfl rfl (by omega) ?_
  repeat (first | ((with_reducible refine zK ?_); refine zJ rfl ?_)  | refine zB rfl ?_  )
  with_reducible refine zQ ?_
  refine yc rfl rfl (by omega) ?_
  repeat (first | ((with_reducible refine zK ?_); refine zJ rfl ?_) | ((with_reducible refine zt ?_); refine yH tbOk rfl rfl ?_) | ((with_reducible refine zr ?_); refine zx tbOk rfl rfl rfl rfl rfl (by omega) rfl rfl rfl ?_) | refine zL ?_ | refine zB rfl ?_ | with_reducible (first | refine zG ?_ | refine zY ?_) )
  have hYs : ∀ Y ∈ [P, B, raw, C, P ++ ⟨#[99, 101, 114, 116, 105, 102, 105, 99, 97, 116, 101, 32, 57, 57, 10]⟩, P ++ ⟨#[108, 111, 99, 107, 32, 88, 49, 32, 111, 112, 101, 110, 32, 107, 101, 121, 32, 53, 10]⟩, F ++ P, F ++ raw], Y.size ≤ 900000 := fun Y hY => by
    simp only [List.mem_cons, List.not_mem_nil, or_false] at hY
    rcases hY with rfl | rfl | rfl | rfl | rfl | rfl | rfl | rfl
    · omega
    · omega
    · omega
    · omega
    · rw [ByteArray.size_append]; show P.size + 15 ≤ _; omega
    · rw [ByteArray.size_append]; show P.size + 19 ≤ _; omega
    · rw [ByteArray.size_append]; omega
    · rw [ByteArray.size_append]; omega
  obtain ⟨YL, hYL⟩ : ∃ YL, YL = [P, B, raw, C, P ++ ⟨#[99, 101, 114, 116, 105, 102, 105, 99, 97, 116, 101, 32, 57, 57, 10]⟩, P ++ ⟨#[108, 111, 99, 107, 32, 88, 49, 32, 111, 112, 101, 110, 32, 107, 101, 121, 32, 53, 10]⟩, F ++ P, F ++ raw] := ⟨_, rfl⟩
  rw [← hYL] at hYs
  have hYl : YL.length = 8 := by rw [hYL]; rfl
  have hYm : (YL.map fun b : ByteArray => AV.v (.string b)).length = 8 := by simp [hYl]
  refine yL (ι := Nat) (fun a => a ≤ 8) (fun a => 8 - a) (fun v a => [(10, .ptr 10 (v 10) 0), (103, .sl 1 (YL.map fun b : ByteArray => AV.v (.string b))), (104, .v (.int .i64 8)), (105, .v (.int .i64 (a : Nat)))]) (fun v a => [(10, .box [.sl 3 (N.map Nd.av), .sl 5 (V.map Dv.av)])]) ?_ ?_
  · refine ⟨0, Nat.zero_le _, trivial, ?_, ⟨rfl, trivial⟩⟩
    rw [hYL]
    exact ⟨rfl, rfl, rfl, rfl, trivial⟩
  clear v hYL
  rintro v a ha
  repeat (first | ((with_reducible refine zQ ?_); refine zT rfl rfl rfl ?_)  | refine zL ?_ | refine zB rfl ?_ | with_reducible (first | refine zG ?_ | refine zH ?_) | ((with_reducible refine zA ?_ ?_); kernel_rfl))
  refine zZ rfl (fun c => ?_) (fun c => ?_)
  · have hlt : a < 8 := by simp at c; omega
    obtain ⟨Y, hY⟩ := zd (L := YL) (k := a) (by omega)
    have hy : (YL.map fun b : ByteArray => AV.v (.string b))[a]? = some (.v (.string Y)) := by rw [List.getElem?_map, hY]; rfl
    have hYz := hYs Y (List.mem_of_getElem? hY)
    have f1 := oT (G := X.G) N V Y hG hM ok hYz
    have f2 := wW (G := X.G) N V Y hG ok hYz
    have hR := parse_sz N V Y.data.toList
    obtain ⟨⟨R, pi, pe2⟩, hpm⟩ : ∃ q, q = jf N V Y.data.toList := ⟨_, rfl⟩
    rw [← hpm] at f1 f2 hR
    simp only at f1 f2 hR
    have f3 := vV (G := X.G) R R hR
    rw [decide_eq_true rfl] at f3
    have p2 : (!decide (pe2 = pe2)) = false := by simp
    have p3 : (!decide (pi = pi)) = false := by simp
    have p5 : (pe2 != pe2) = false := by simp
    have p6 : (pi != pi) = false := by simp
    repeat (first | ((with_reducible refine zK ?_); refine zJ rfl ?_) | ((with_reducible refine zE ?_); refine zF rfl ?_) | ((with_reducible refine zR ?_); (first | refine zk tbOk rfl rfl rfl rfl (Nat.le_of_ble_eq_true rfl) ?_ | refine zW tbOk rfl rfl rfl ?_)) | ((with_reducible refine zU ?_); refine zX tbOk rfl rfl rfl rfl (by assumption) ?_)  | refine zL ?_ | refine zB rfl ?_ | with_reducible (first | refine zG ?_ | refine zH ?_ | refine zY ?_ | refine zS ?_) | ((with_reducible refine zA ?_ ?_); kernel_rfl))
    refine zC (f1) ?_
    repeat (first | ((with_reducible refine zK ?_); refine zJ rfl ?_) | ((with_reducible refine zE ?_); refine zF rfl ?_) | ((with_reducible refine zR ?_); refine zk tbOk rfl rfl rfl rfl (Nat.le_of_ble_eq_true rfl) ?_) | ((with_reducible refine zp ?_); refine zq tbOk rfl rfl rfl rfl rfl rfl rfl (Nat.le_of_ble_eq_true rfl) rfl ?_) | ((with_reducible refine yR ?_); refine yQ tbOk rfl rfl ?_) | ((with_reducible refine ye ?_); refine yd rfl rfl ?_)  | refine zL ?_ | refine zB rfl ?_ | with_reducible (first | refine zG ?_ | refine zH ?_) | ((with_reducible refine zA ?_ ?_); kernel_rfl))
    refine zC (f2) ?_
    repeat (first | ((with_reducible refine zK ?_); refine zJ rfl ?_) | ((with_reducible refine zE ?_); refine zF rfl ?_) | ((with_reducible refine zR ?_); refine zk tbOk rfl rfl rfl rfl (Nat.le_of_ble_eq_true rfl) ?_) | ((with_reducible refine zp ?_); refine zq tbOk rfl rfl rfl rfl rfl rfl rfl (Nat.le_of_ble_eq_true rfl) rfl ?_) | ((with_reducible refine yR ?_); refine yQ tbOk rfl rfl ?_) | ((with_reducible refine ye ?_); refine yd rfl rfl ?_) | ((with_reducible refine za ?_); refine zf rfl (by first | rfl | assumption) rfl ?_) | ((with_reducible refine zQ ?_); refine zT rfl rfl rfl ?_)  | refine zL ?_ | refine zB rfl ?_ | refine zw rfl rfl (by first | rfl | assumption) ?_ | with_reducible (first | refine zG ?_ | refine zH ?_) | ((with_reducible refine zA ?_ ?_); kernel_rfl))
    refine zC (f3) ?_
    repeat (first | ((with_reducible refine zK ?_); refine zJ rfl ?_) | ((with_reducible refine k_un ?_); refine jF rfl ?_) | ((with_reducible refine za ?_); refine zf rfl (by first | rfl | assumption) rfl ?_) | ((with_reducible refine zQ ?_); refine zg rfl rfl (by omega) ?_)  | refine zL ?_ | refine zB rfl ?_ | refine zw rfl rfl (by first | rfl | assumption) ?_ | with_reducible (first | refine zG ?_ | refine zu ?_ | refine zS ?_) | ((with_reducible refine zA ?_ ?_); kernel_rfl) | refine yF rfl (by first | rfl | assumption) ?_)
    exact ⟨a + 1, by omega, by omega, ⟨rfl, rfl, rfl, rfl, trivial⟩, ⟨rfl, trivial⟩⟩
  repeat (first | ((with_reducible refine zE ?_); refine zF rfl ?_)  | refine zL ?_ | refine zB rfl ?_ | with_reducible (first | refine zG ?_ | refine zo ?_ | refine zH ?_ | refine yB ?_ | refine zN ?_) | ((with_reducible refine ze ?_ ?_); rfl) | ((with_reducible refine zA ?_ ?_); kernel_rfl))
  refine zm (by first | exact .inr rfl | exact .inl rfl) rfl rfl ?_
  rfl
end Go.Proofs.YtjamibeffalhaaaGreatDoor
