/- permitofficelaw26.DocumentExact, by the abstract machine: it answers true for all that comes in; conditions: the tables of classes and powers and a cell of the library stand. -/
import Derived.Test.YtjamibeffalhaaaGreatDoorDeA
import Derived.Test.YtjamibeffalhaaaGreatDoorDyB
import Derived.Test.YtjamibeffalhaaaGreatDoorAbsM
set_option linter.unusedVariables false
set_option linter.unusedSimpArgs false
namespace Go.Proofs.YtjamibeffalhaaaGreatDoor
open Go Go.RowKit
set_option maxRecDepth 10000
variable {G : Nat → Option (List Value)}
theorem light_A (N : List Nd) (V : List Dv) (ok : NwOk N V) : ∃ b, ∀ G, zy Tryz.prog G 23 [jW N V] [] (.v (.bool b)) [] := by
  refine ⟨(decide (N.length ≤ 40) && decide (V.length ≤ 14)) || (!decide (netE N V = 0) && (decide (N.length ≤ 100) && decide (V.length ≤ 200))), fun G => ?_⟩
  refine zd tbOk (zf Tryz.func23 (by kernel_rfl) rfl) Tryz.func23 rfl _ Tryz.ntmps23 (Nat.le_of_ble_eq_true rfl) fun X hX => ?_
  subst hX
  repeat (first | ((with_reducible refine zJ ?_); refine zK rfl ?_) | ((with_reducible refine zF ?_); refine zE rfl ?_) | ((with_reducible refine zM ?_); refine zI tbOk rfl rfl rfl rfl ?_) | ((with_reducible refine zQ ?_); refine zO tbOk rfl rfl rfl rfl rfl ?_) | ((with_reducible refine yl ?_); refine yj rfl rfl rfl ?_) | ((with_reducible refine zq ?_); refine yI tbOk rfl rfl ?_) | ((with_reducible refine zR ?_); refine zS rfl rfl rfl ?_)  | refine zL ?_ | refine zB rfl ?_ | with_reducible (first | refine zG ?_ | refine zH ?_) | ((with_reducible refine zA ?_ ?_); kernel_rfl))
  refine zn rfl rfl (fun b1 => ?_) (fun b1 => ?_)
  · have c1 : N.length ≤ 40 := by simp at b1; omega
    repeat (first | ((with_reducible refine zJ ?_); refine zK rfl ?_) | ((with_reducible refine zM ?_); refine zI tbOk rfl rfl rfl rfl ?_) | ((with_reducible refine zQ ?_); refine zO tbOk rfl rfl rfl rfl rfl ?_) | ((with_reducible refine zW ?_); refine zi rfl (by first | rfl | assumption) rfl ?_) | ((with_reducible refine zq ?_); refine yI tbOk rfl rfl ?_) | ((with_reducible refine zR ?_); refine zS rfl rfl rfl ?_)  | refine zB rfl ?_ | refine zu rfl rfl (by first | rfl | assumption) ?_  )
    refine zn rfl rfl (fun b2 => ?_) (fun b2 => ?_)
    · have c2 : V.length ≤ 14 := by simp at b2; omega
      repeat (first | ((with_reducible refine zF ?_); refine zE rfl ?_) | ((with_reducible refine zW ?_); refine zi rfl (by first | rfl | assumption) rfl ?_)  | refine zL ?_ | refine zB rfl ?_ | refine yC rfl rfl (by first | rfl | assumption) ?_ | refine jA rfl rfl rfl ?_ | with_reducible (first | refine zG ?_ | refine zN ?_) )
      refine ze (by first | exact .inr rfl | exact .inl rfl) rfl rfl ?_
      simp [c1, c2]
    · have c2 : ¬ V.length ≤ 14 := by simp at b2; omega
      repeat (first | ((with_reducible refine zQ ?_); refine za tbOk rfl rfl rfl rfl (Nat.le_of_ble_eq_true rfl) ?_)  | refine zm rfl rfl (by first | rfl | assumption) ?_  )
      refine zC (fG N V ok.n ok.v ok.l1 ok.l2) ?_
      repeat (first | ((with_reducible refine zJ ?_); refine zK rfl ?_) | ((with_reducible refine zR ?_); refine zS rfl rfl rfl ?_)  | refine zm rfl rfl (by first | rfl | assumption) ?_  )
      refine zn rfl rfl (fun b3 => ?_) (fun b3 => ?_)
      · have c3 : ¬ netE N V = 0 := by simpa using b3
        repeat (first | ((with_reducible refine zJ ?_); refine zK rfl ?_) | ((with_reducible refine zM ?_); refine zI tbOk rfl rfl rfl rfl ?_) | ((with_reducible refine zQ ?_); refine zO tbOk rfl rfl rfl rfl rfl ?_) | ((with_reducible refine zW ?_); refine zi rfl (by first | rfl | assumption) rfl ?_) | ((with_reducible refine zq ?_); refine yI tbOk rfl rfl ?_) | ((with_reducible refine zR ?_); refine zS rfl rfl rfl ?_)  | refine zu rfl rfl (by first | rfl | assumption) ?_ | refine zm rfl rfl (by first | rfl | assumption) ?_  )
        refine zn rfl rfl (fun b4 => ?_) (fun b4 => ?_)
        · have c4 : N.length ≤ 100 := by simp at b4; omega
          repeat (first | ((with_reducible refine zF ?_); refine zE rfl ?_) | ((with_reducible refine zM ?_); refine zI tbOk rfl rfl rfl rfl ?_) | ((with_reducible refine zQ ?_); refine zO tbOk rfl rfl rfl rfl rfl ?_) | ((with_reducible refine zW ?_); (first | refine zi rfl (by first | rfl | assumption) rfl ?_ | refine zh rfl (by first | rfl | assumption) rfl ?_)) | ((with_reducible refine zq ?_); refine yI tbOk rfl rfl ?_) | ((with_reducible refine zR ?_); refine zS rfl rfl rfl ?_)  | refine zL ?_ | refine zB rfl ?_ | refine zu rfl rfl (by first | rfl | assumption) ?_ | refine zm rfl rfl (by first | rfl | assumption) ?_ | with_reducible (first | refine zG ?_ | refine zN ?_) )
          refine ze (by first | exact .inr rfl | exact .inl rfl) rfl rfl ?_
          simp [c1, c2, c3, c4]; try omega
        · have c4 : ¬ N.length ≤ 100 := by simp at b4; omega
          repeat (first | ((with_reducible refine zF ?_); refine zE rfl ?_) | ((with_reducible refine zW ?_); refine zh rfl (by first | rfl | assumption) rfl ?_)  | refine zL ?_ | refine zB rfl ?_ | refine yB rfl rfl (by first | rfl | assumption) ?_ | refine zm rfl rfl (by first | rfl | assumption) ?_ | with_reducible (first | refine zG ?_ | refine zN ?_) )
          refine ze (by first | exact .inr rfl | exact .inl rfl) rfl rfl ?_
          simp [c1, c2, c3, c4]; try omega
      · have c3 : netE N V = 0 := by simpa using b3
        repeat (first | ((with_reducible refine zJ ?_); refine zK rfl ?_) | ((with_reducible refine zF ?_); refine zE rfl ?_) | ((with_reducible refine zW ?_); refine zh rfl (by first | rfl | assumption) rfl ?_)  | refine zL ?_ | refine zB rfl ?_ | refine yB rfl rfl (by first | rfl | assumption) ?_ | refine zm rfl rfl (by first | rfl | assumption) ?_ | with_reducible (first | refine zG ?_ | refine zN ?_) )
        refine ze (by first | exact .inr rfl | exact .inl rfl) rfl rfl ?_
        simp [c1, c2, c3]
  · have c1 : ¬ N.length ≤ 40 := by simp at b1; omega
    repeat (first | ((with_reducible refine zJ ?_); refine zK rfl ?_) | ((with_reducible refine zQ ?_); refine za tbOk rfl rfl rfl rfl (Nat.le_of_ble_eq_true rfl) ?_) | ((with_reducible refine zW ?_); refine zh rfl (by first | rfl | assumption) rfl ?_)  | refine zB rfl ?_ | refine yB rfl rfl (by first | rfl | assumption) ?_ | refine zm rfl rfl (by first | rfl | assumption) ?_  )
    refine zC (fG N V ok.n ok.v ok.l1 ok.l2) ?_
    repeat (first | ((with_reducible refine zJ ?_); refine zK rfl ?_) | ((with_reducible refine zR ?_); refine zS rfl rfl rfl ?_)  | refine zm rfl rfl (by first | rfl | assumption) ?_  )
    refine zn rfl rfl (fun b3 => ?_) (fun b3 => ?_)
    · have c3 : ¬ netE N V = 0 := by simpa using b3
      repeat (first | ((with_reducible refine zJ ?_); refine zK rfl ?_) | ((with_reducible refine zM ?_); refine zI tbOk rfl rfl rfl rfl ?_) | ((with_reducible refine zQ ?_); refine zO tbOk rfl rfl rfl rfl rfl ?_) | ((with_reducible refine zW ?_); refine zi rfl (by first | rfl | assumption) rfl ?_) | ((with_reducible refine zq ?_); refine yI tbOk rfl rfl ?_) | ((with_reducible refine zR ?_); refine zS rfl rfl rfl ?_)  | refine zu rfl rfl (by first | rfl | assumption) ?_ | refine zm rfl rfl (by first | rfl | assumption) ?_  )
      refine zn rfl rfl (fun b4 => ?_) (fun b4 => ?_)
      · have c4 : N.length ≤ 100 := by simp at b4; omega
        repeat (first | ((with_reducible refine zF ?_); refine zE rfl ?_) | ((with_reducible refine zM ?_); refine zI tbOk rfl rfl rfl rfl ?_) | ((with_reducible refine zQ ?_); refine zO tbOk rfl rfl rfl rfl rfl ?_) | ((with_reducible refine zW ?_); (first | refine zi rfl (by first | rfl | assumption) rfl ?_ | refine zh rfl (by first | rfl | assumption) rfl ?_)) | ((with_reducible refine zq ?_); refine yI tbOk rfl rfl ?_) | ((with_reducible refine zR ?_); refine zS rfl rfl rfl ?_)  | refine zL ?_ | refine zB rfl ?_ | refine zu rfl rfl (by first | rfl | assumption) ?_ | refine zm rfl rfl (by first | rfl | assumption) ?_ | with_reducible (first | refine zG ?_ | refine zN ?_) )
        refine ze (by first | exact .inr rfl | exact .inl rfl) rfl rfl ?_
        simp [c1, c3, c4]; try omega
      · have c4 : ¬ N.length ≤ 100 := by simp at b4; omega
        repeat (first | ((with_reducible refine zF ?_); refine zE rfl ?_) | ((with_reducible refine zW ?_); refine zh rfl (by first | rfl | assumption) rfl ?_)  | refine zL ?_ | refine zB rfl ?_ | refine yB rfl rfl (by first | rfl | assumption) ?_ | refine zm rfl rfl (by first | rfl | assumption) ?_ | with_reducible (first | refine zG ?_ | refine zN ?_) )
        refine ze (by first | exact .inr rfl | exact .inl rfl) rfl rfl ?_
        simp [c1, c3, c4]; try omega
    · have c3 : netE N V = 0 := by simpa using b3
      repeat (first | ((with_reducible refine zJ ?_); refine zK rfl ?_) | ((with_reducible refine zF ?_); refine zE rfl ?_) | ((with_reducible refine zW ?_); refine zh rfl (by first | rfl | assumption) rfl ?_)  | refine zL ?_ | refine zB rfl ?_ | refine yB rfl rfl (by first | rfl | assumption) ?_ | refine zm rfl rfl (by first | rfl | assumption) ?_ | with_reducible (first | refine zG ?_ | refine zN ?_) )
      refine ze (by first | exact .inr rfl | exact .inl rfl) rfl rfl ?_
      simp [c1, c3]
theorem lI (M : List Dc) (i : Nat) : ((M.map Dc.av).take (((M.map Dc.av).length : Nat) : Int).toNat).drop ((i : Nat) : Int).toNat = (M.drop i).map Dc.av := by
  rw [Int.toNat_natCast, Int.toNat_natCast, List.take_length, List.map_drop]
set_option maxRecDepth 100000 in
set_option maxHeartbeats 32000000 in
theorem vA (l : List Int) (raw : Dc) (No : List Nd) (Vo : List Dv) (num : Int) (oko : NwOk No Vo) (sr : DcSz raw) (hG : GCls G) (hP : GPow G) (hM : GMax G) : zy Tryz.prog G 6 [.sl 1 (l.map iv), raw.av, jW No Vo, .v (.int .i64 num)] [] (.v (.bool true)) [] := by
  obtain ⟨lb, hlight⟩ := light_A No Vo oko
  have sri := sr.i
  have srh := sr.h
  unfold maxLen at sri srh
  refine zd tbOk (zf Tryz.func6 (by kernel_rfl) rfl) Tryz.func6 rfl _ Tryz.ntmps6 (Nat.le_of_ble_eq_true rfl) fun X hX => ?_
  subst hX
  repeat (first | ((with_reducible refine zF ?_); refine zE rfl ?_) | ((with_reducible refine yl ?_); refine yj rfl rfl rfl ?_)  | refine zL ?_ | refine zB rfl ?_ | with_reducible (first | refine zG ?_ | refine zH ?_) | ((with_reducible refine zA ?_ ?_); kernel_rfl))
  refine zC (qt hG hP hM) ?_
  repeat (first | ((with_reducible refine zJ ?_); refine zK rfl ?_) | ((with_reducible refine k_un ?_); refine yz rfl ?_)  | refine zB rfl ?_ | refine zm rfl rfl (by first | rfl | assumption) ?_  )
  refine zC (few_A (l.map iv)) ?_
  repeat (first | ((with_reducible refine zJ ?_); refine zK rfl ?_) | ((with_reducible refine k_un ?_); refine yz rfl ?_) | ((with_reducible refine zW ?_); refine zh rfl (by first | rfl | assumption) rfl ?_)  | refine zB rfl ?_ | refine zm rfl rfl (by first | rfl | assumption) ?_  )
  refine zn rfl rfl (fun h => ?_) (fun h => ?_)
  · repeat (first | ((with_reducible refine zJ ?_); refine zK rfl ?_) | ((with_reducible refine zW ?_); refine zi rfl (by first | rfl | assumption) rfl ?_)  | refine zL ?_ | refine zB rfl ?_ | refine yC rfl rfl (by first | rfl | assumption) ?_ | with_reducible (first | refine zG ?_ | refine zH ?_) | ((with_reducible refine zA ?_ ?_); kernel_rfl) | refine zr rfl (by first | rfl | assumption) ?_)
    refine zC (qt hG hP hM) ?_
    repeat (first | ((with_reducible refine zF ?_); refine zE rfl ?_)  | refine zL ?_ | refine zB rfl ?_ | with_reducible (first | refine zG ?_ | refine zP ?_ | refine zN ?_) )
    refine ze (by first | exact .inr rfl | exact .inl rfl) rfl rfl ?_
    rfl
  have h400 : l.length ≤ 400 := by simp at h; omega
  have hD := DkOk.new h400
  have ok := xO (dk0 l)
  obtain ⟨v1, v64⟩ := nO (dk0 l)
  have hnl := pQ (dk0 l)
  have hT := tie_A (G := X.G) (dk0 l) hD
  have hTd := sI hD
  have hdc := fun D (hD : DkOk D) => xV (G := X.G) (qq (dk0 l)) (jj (dk0 l)) D hD ok (by omega) (by omega) v1 v64
  have hdf := fun D (hD : DkOk D) => oS (qq (dk0 l)) (jj (dk0 l)) hD
  have hnet := mL (dk0 l)
  obtain ⟨N, hN⟩ : ∃ N, N = qq (dk0 l) := ⟨_, rfl⟩
  obtain ⟨V, hV⟩ : ∃ V, V = jj (dk0 l) := ⟨_, rfl⟩
  obtain ⟨S, hS⟩ : ∃ S, S = tO (dk0 l) := ⟨_, rfl⟩
  obtain ⟨D0, hD0⟩ : ∃ D0, D0 = tieD (dk0 l) := ⟨_, rfl⟩
  rw [← hN, ← hV, ← hS, ← hD0] at hT
  rw [← hN, ← hV] at ok hnet
  rw [← hV] at v1 v64
  rw [← hN] at hnl
  rw [← hD0] at hTd
  simp only [← hN, ← hV] at hdc hdf
  clear hN hV hS hD0
  repeat (first | ((with_reducible refine zQ ?_); refine za tbOk rfl rfl rfl rfl (Nat.le_of_ble_eq_true rfl) ?_)  | refine zm rfl rfl (by first | rfl | assumption) ?_  )
  refine zC (hlight _) ?_
  repeat (first | ((with_reducible refine zJ ?_); refine zK rfl ?_) | ((with_reducible refine k_un ?_); refine yz rfl ?_) | ((with_reducible refine zW ?_); refine zh rfl (by first | rfl | assumption) rfl ?_)  | refine zB rfl ?_ | refine zm rfl rfl (by first | rfl | assumption) ?_  )
  refine zn rfl rfl (fun h => ?_) (fun h => ?_)
  · repeat (first | ((with_reducible refine zJ ?_); refine zK rfl ?_) | ((with_reducible refine zW ?_); refine zi rfl (by first | rfl | assumption) rfl ?_)  | refine zL ?_ | refine zB rfl ?_ | refine yC rfl rfl (by first | rfl | assumption) ?_ | with_reducible (first | refine zG ?_ | refine zH ?_) | ((with_reducible refine zA ?_ ?_); kernel_rfl) | refine zr rfl (by first | rfl | assumption) ?_)
    refine zC (qt hG hP hM) ?_
    repeat (first | ((with_reducible refine zF ?_); refine zE rfl ?_)  | refine zL ?_ | refine zB rfl ?_ | with_reducible (first | refine zG ?_ | refine zP ?_ | refine zN ?_) )
    refine ze (by first | exact .inr rfl | exact .inl rfl) rfl rfl ?_
    rfl
  repeat (first | ((with_reducible refine zJ ?_); refine zK rfl ?_) | ((with_reducible refine zM ?_); refine zI tbOk rfl rfl rfl rfl ?_) | ((with_reducible refine zQ ?_); refine zO tbOk rfl rfl rfl rfl rfl ?_) | ((with_reducible refine zW ?_); refine zh rfl (by first | rfl | assumption) rfl ?_) | ((with_reducible refine zq ?_); refine yI tbOk rfl rfl ?_) | ((with_reducible refine zR ?_); refine zS rfl rfl rfl ?_)  | refine zB rfl ?_ | refine zm rfl rfl (by first | rfl | assumption) ?_  )
  refine zn rfl rfl (fun h => ?_) (fun h => ?_)
  · repeat (first | ((with_reducible refine zJ ?_); refine zK rfl ?_) | ((with_reducible refine zW ?_); refine zi rfl (by first | rfl | assumption) rfl ?_)  | refine zL ?_ | refine zB rfl ?_ | refine yC rfl rfl (by first | rfl | assumption) ?_ | with_reducible (first | refine zG ?_ | refine zH ?_) | ((with_reducible refine zA ?_ ?_); kernel_rfl) | refine zr rfl (by first | rfl | assumption) ?_)
    refine zC (qt hG hP hM) ?_
    repeat (first | ((with_reducible refine zF ?_); refine zE rfl ?_)  | refine zL ?_ | refine zB rfl ?_ | with_reducible (first | refine zG ?_ | refine zP ?_ | refine zN ?_) )
    refine ze (by first | exact .inr rfl | exact .inl rfl) rfl rfl ?_
    rfl
  repeat (first | ((with_reducible refine zJ ?_); refine zK rfl ?_) | ((with_reducible refine zM ?_); refine zI tbOk rfl rfl rfl rfl ?_) | ((with_reducible refine zQ ?_); refine zO tbOk rfl rfl rfl rfl rfl ?_) | ((with_reducible refine zW ?_); refine zh rfl (by first | rfl | assumption) rfl ?_) | ((with_reducible refine zq ?_); refine yI tbOk rfl rfl ?_) | ((with_reducible refine zR ?_); refine zS rfl rfl rfl ?_)  | refine zB rfl ?_ | refine zm rfl rfl (by first | rfl | assumption) ?_  )
  refine zn rfl rfl (fun h2 => ?_) (fun h2 => ?_)
  · repeat (first | ((with_reducible refine zJ ?_); refine zK rfl ?_) | ((with_reducible refine zW ?_); refine zi rfl (by first | rfl | assumption) rfl ?_)  | refine zL ?_ | refine zB rfl ?_ | refine yC rfl rfl (by first | rfl | assumption) ?_ | with_reducible (first | refine zG ?_ | refine zH ?_) | ((with_reducible refine zA ?_ ?_); kernel_rfl) | refine zr rfl (by first | rfl | assumption) ?_)
    refine zC (qt hG hP hM) ?_
    repeat (first | ((with_reducible refine zF ?_); refine zE rfl ?_)  | refine zL ?_ | refine zB rfl ?_ | with_reducible (first | refine zG ?_ | refine zP ?_ | refine zN ?_) )
    refine ze (by first | exact .inr rfl | exact .inl rfl) rfl rfl ?_
    rfl
  repeat (first | ((with_reducible refine zJ ?_); refine zK rfl ?_) | ((with_reducible refine zM ?_); refine zI tbOk rfl rfl rfl rfl ?_) | ((with_reducible refine zQ ?_); refine zO tbOk rfl rfl rfl rfl rfl ?_) | ((with_reducible refine zW ?_); refine zh rfl (by first | rfl | assumption) rfl ?_) | ((with_reducible refine zq ?_); refine yI tbOk rfl rfl ?_) | ((with_reducible refine zR ?_); refine zS rfl rfl rfl ?_)  | refine zB rfl ?_ | refine zm rfl rfl (by first | rfl | assumption) ?_  )
  refine zn rfl rfl (fun h3 => ?_) (fun h3 => ?_)
  · repeat (first | ((with_reducible refine zW ?_); refine zi rfl (by first | rfl | assumption) rfl ?_)  | refine zL ?_ | refine zB rfl ?_ | refine yC rfl rfl (by first | rfl | assumption) ?_ | with_reducible (first | refine zG ?_ | refine zH ?_) | ((with_reducible refine zA ?_ ?_); kernel_rfl) | refine zr rfl (by first | rfl | assumption) ?_)
    refine zC (qt hG hP hM) ?_
    repeat (first | ((with_reducible refine zF ?_); refine zE rfl ?_)  | refine zL ?_ | refine zB rfl ?_ | with_reducible (first | refine zG ?_ | refine zP ?_ | refine zN ?_) )
    refine ze (by first | exact .inr rfl | exact .inl rfl) rfl rfl ?_
    rfl
  repeat (first | ((with_reducible refine zM ?_); refine zI tbOk rfl rfl rfl rfl ?_) | ((with_reducible refine zQ ?_); refine zO tbOk rfl rfl rfl rfl rfl ?_) | ((with_reducible refine zW ?_); refine zh rfl (by first | rfl | assumption) rfl ?_) | ((with_reducible refine zq ?_); refine jn (by exact Tryz.underlying9) rfl ?_) | ((with_reducible refine zR ?_); refine zS rfl rfl rfl ?_)  | refine zL ?_ | refine zB rfl ?_ | refine zm rfl rfl (by first | rfl | assumption) ?_ | with_reducible refine zG ?_ )
  refine zX rfl (fun h4 => ?_) (fun h4 => ?_)
  · repeat (first   | refine zB rfl ?_ | with_reducible refine zH ?_ | ((with_reducible refine zA ?_ ?_); kernel_rfl))
    refine zC (qt hG hP hM) ?_
    repeat (first | ((with_reducible refine zF ?_); refine zE rfl ?_)  | refine zL ?_ | refine zB rfl ?_ | with_reducible (first | refine zG ?_ | refine zP ?_ | refine zN ?_) )
    refine ze (by first | exact .inr rfl | exact .inl rfl) rfl rfl ?_
    rfl
  clear h2 h3 h4 hlight
  have hdoc := hdc D0 hTd
  obtain ⟨hE, hf⟩ := hdf D0 hTd
  generalize docD N V D0 = Q at hdoc hE hf
  obtain ⟨d, E⟩ := Q
  dsimp only at hdoc hE hf
  have hdoc2 := hdc E hE
  obtain ⟨hE2, hf2⟩ := hdf E hE
  generalize docD N V E = Q at hdoc2 hE2 hf2
  obtain ⟨d2, E2⟩ := Q
  dsimp only at hdoc2 hE2 hf2
  clear hdc hdf
  repeat (first | ((with_reducible refine zJ ?_); refine zK rfl ?_)  | refine zB rfl ?_ | with_reducible (first | refine zG ?_ | refine zH ?_ | refine zT ?_) | ((with_reducible refine zA ?_ ?_); kernel_rfl))
  refine iO (new_A l) (by repeat' (first | exact trivial | exact Ren.v _ | exact Ren.sl _ _ | exact Ren.ep _ | exact Ren.ptr _ _ _ _ rfl | exact Ren.bs _ _ _ _ _ rfl | exact Ren.nil _ | exact Ren.own _ _ _ _ ⟨_, rfl⟩ | refine zv ?_ | refine zx ?_ | refine zw ?_ | refine ⟨?_, ?_⟩)) (by repeat' (first | exact trivial | exact RenB.v _ | exact RenB.sl _ _ | exact RenB.ep _ | exact RenB.ptr _ _ _ _ rfl | refine jG ?_ | refine jH ?_ | refine ⟨?_, ?_⟩)) rfl ?_
  repeat (first | ((with_reducible refine zJ ?_); refine zK rfl ?_) | ((with_reducible refine zF ?_); refine zE rfl ?_)  | refine zL ?_ | refine zB rfl ?_ | with_reducible (first | refine zG ?_ | refine zH ?_) | ((with_reducible refine zA ?_ ?_); kernel_rfl))
  refine zD (y := .tu [jW N V, .sl 1 (S.map iv)]) (ss := [(65, 1)]) (hT) (by simp) (in1 rfl rfl) rfl (yP rfl) ?_
  repeat (first | ((with_reducible refine zJ ?_); refine zK rfl ?_) | ((with_reducible refine zF ?_); refine zE rfl ?_) | ((with_reducible refine zQ ?_); refine za tbOk rfl rfl rfl rfl (Nat.le_of_ble_eq_true rfl) ?_) | ((with_reducible refine yD ?_); refine yE tbOk rfl rfl rfl rfl rfl rfl rfl (Nat.le_of_ble_eq_true rfl) rfl ?_) | ((with_reducible refine yc ?_); refine ya tbOk rfl rfl ?_) | ((with_reducible refine jN ?_); refine jP rfl rfl ?_)  | refine zL ?_ | refine zB rfl ?_ | with_reducible (first | refine zG ?_ | refine zH ?_) | ((with_reducible refine yO mixd ?_ ?_); kernel_rfl))
  refine zD (y := d.av) (ss := [(65, 1)]) (hdoc) (by simp) (in1 rfl rfl) rfl (yP rfl) ?_
  repeat (first | ((with_reducible refine zJ ?_); refine zK rfl ?_) | ((with_reducible refine zQ ?_); refine za tbOk rfl rfl rfl rfl (Nat.le_of_ble_eq_true rfl) ?_)  | refine zB rfl ?_  )
  refine zD (y := d2.av) (ss := [(65, 1)]) (hdoc2) (by simp) (in1 rfl rfl) rfl (yP rfl) ?_
  repeat (first | ((with_reducible refine zJ ?_); refine zK rfl ?_) | ((with_reducible refine zF ?_); refine zE rfl ?_) | ((with_reducible refine zQ ?_); refine za tbOk rfl rfl rfl rfl (Nat.le_of_ble_eq_true rfl) ?_) | ((with_reducible refine zq ?_); refine yI tbOk rfl rfl ?_) | ((with_reducible refine zl ?_); refine zp tbOk rfl rfl rfl rfl rfl (by omega) rfl rfl rfl ?_) | refine zL ?_ | refine yS (by kernel_rfl) ?_ | refine zB rfl ?_ | with_reducible (first | refine zG ?_ | refine zH ?_ | refine zV ?_) | ((with_reducible refine zA ?_ ?_); kernel_rfl))
  obtain ⟨M, hMd⟩ : ∃ M, M = [d, d2, raw] := ⟨_, rfl⟩
  have hMl : M.length = 3 := by rw [hMd]; rfl
  have hMs : ∀ x ∈ M, DcSz x := fun x hx => by
    rw [hMd] at hx
    simp only [List.mem_cons, List.not_mem_nil, or_false] at hx
    rcases hx with rfl | rfl | rfl
    · exact hf.sz
    · exact hf2.sz
    · exact sr
  have hMm : (M.map Dc.av).length = 3 := by simp [hMl]
  have h3m : (3 : Nat) ≤ maxLen := by unfold maxLen; omega
  refine yJ (ι := Nat) (fun i => i ≤ 3) (fun i => 3 - i) (fun v i => [(3, .v (.int .i64 num)), (6, .ptr 6 (v 6) 0), (10, .ptr 10 (v 10) 0), (12, .sl 12 (M.map Dc.av)), (79, .sl 12 (M.map Dc.av)), (80, .v (.int .i64 (M.map Dc.av).length)), (81, .v (.int .i64 (i : Nat)))]) (fun v i => [(6, .box [.sl 3 (No.map Nd.av), .sl 5 (Vo.map Dv.av)]), (10, .box [.sl 3 (N.map Nd.av), .sl 5 (V.map Dv.av)])]) ?_ ?_
  · refine ⟨0, Nat.zero_le _, trivial, ?_, ⟨rfl, rfl, trivial⟩⟩
    rw [hMd]
    exact ⟨rfl, rfl, rfl, rfl, rfl, rfl, rfl, trivial⟩
  clear hMd hdoc hdoc2 hT
  rintro v i hi
  repeat (first | ((with_reducible refine zR ?_); refine zS rfl rfl rfl ?_)  | refine zL ?_ | refine zB rfl ?_ | with_reducible (first | refine zG ?_ | refine zH ?_) | ((with_reducible refine zA ?_ ?_); kernel_rfl))
  refine zX rfl (fun c => ?_) (fun c => ?_)
  rotate_left
  · have hfa := gH (G := X.G) M num (by omega)
    have hfb := nQ (G := X.G) M num (by omega)
    generalize qO num 0 M = fi at hfa hfb
    repeat (first | ((with_reducible refine zJ ?_); refine zK rfl ?_)  | refine zB rfl ?_ | with_reducible (first | refine zG ?_ | refine zj ?_ | refine zH ?_ | refine zz ?_) | ((with_reducible refine zg ?_ ?_); rfl) | ((with_reducible refine zA ?_ ?_); kernel_rfl))
    refine zC (hfa) ?_
    repeat (first | ((with_reducible refine zJ ?_); refine zK rfl ?_)  | refine zB rfl ?_  )
    refine zC (hfb) ?_
    repeat (first | ((with_reducible refine zF ?_); refine zE rfl ?_) | ((with_reducible refine zR ?_); refine zS rfl rfl rfl ?_)  | refine zL ?_ | refine zB rfl ?_ | with_reducible (first | refine zG ?_ | refine zN ?_) )
    refine ze (by first | exact .inr rfl | exact .inl rfl) rfl rfl ?_
    simp
  have hlt : i < 3 := by simp at c; omega
  obtain ⟨x, hx⟩ := zc (L := M) (k := i) (by omega)
  have hxs := hMs x (List.mem_of_getElem? hx)
  have hy := dJ hx
  have hdl : (M.drop i).length ≤ maxLen := by rw [List.length_drop]; omega
  have hds : ∀ d ∈ M.drop i, DcSz d := fun d hd => hMs d (List.mem_of_mem_drop hd)
  repeat (first | ((with_reducible refine zJ ?_); refine zK rfl ?_) | ((with_reducible refine zF ?_); refine zE rfl ?_) | ((with_reducible refine zQ ?_); (first | refine za tbOk rfl rfl rfl rfl (Nat.le_of_ble_eq_true rfl) ?_ | refine yK tbOk rfl rfl (Nat.le_of_ble_eq_true rfl) ?_)) | ((with_reducible refine yD ?_); refine yE tbOk rfl rfl rfl rfl rfl rfl rfl (Nat.le_of_ble_eq_true rfl) rfl ?_) | ((with_reducible refine yc ?_); refine ya tbOk rfl rfl ?_) | ((with_reducible refine zY ?_); refine zZ tbOk rfl rfl rfl rfl (by assumption) ?_) | ((with_reducible refine zq ?_); refine yI tbOk rfl rfl ?_) | ((with_reducible refine zl ?_); refine zp tbOk rfl rfl rfl rfl rfl (by omega) rfl rfl rfl ?_) | refine zL ?_ | refine zB rfl ?_ | with_reducible (first | refine zG ?_ | refine zH ?_ | refine zV ?_ | refine zT ?_) | ((with_reducible refine zA ?_ ?_); kernel_rfl))
  refine yJ (ι := Nat) (fun b => b ≤ 2) (fun b => 2 - b) (fun v b => [(3, .v (.int .i64 num)), (6, .ptr 6 (v 6) 0), (10, .ptr 10 (v 10) 0), (12, .sl 12 (M.map Dc.av)), (79, .sl 12 (M.map Dc.av)), (80, .v (.int .i64 (M.map Dc.av).length)), (81, .v (.int .i64 (i : Nat))), (13, .v (.int .i64 (i : Nat))), (14, .ptr 14 (v 14) 0), (88, .sl 2 [.ag [.sl 3 (N.map Nd.av), .sl 5 (V.map Dv.av)], .ag [.sl 3 (No.map Nd.av), .sl 5 (Vo.map Dv.av)]]), (89, .v (.int .i64 2)), (90, .v (.int .i64 (b : Nat)))]) (fun v b => [(6, .box [.sl 3 (No.map Nd.av), .sl 5 (Vo.map Dv.av)]), (10, .box [.sl 3 (N.map Nd.av), .sl 5 (V.map Dv.av)]), (14, .box x.cells)]) ?_ ?_
  · exact ⟨0, Nat.zero_le _, trivial, ⟨rfl, rfl, rfl, rfl, rfl, rfl, rfl, rfl, rfl, rfl, rfl, rfl, trivial⟩, ⟨rfl, rfl, rfl, trivial⟩⟩
  clear v c
  rintro v b hb
  repeat (first | ((with_reducible refine zR ?_); refine zS rfl rfl rfl ?_)  | refine zL ?_ | refine zB rfl ?_ | with_reducible (first | refine zG ?_ | refine zH ?_) | ((with_reducible refine zA ?_ ?_); kernel_rfl))
  refine zX rfl (fun c => ?_) (fun c => ?_)
  · have hb2 : b < 2 := by simp at c; omega
    obtain ⟨N1, V1, hyn, ok1⟩ : ∃ (N1 : List Nd) (V1 : List Dv), ([.ag [.sl 3 (N.map Nd.av), .sl 5 (V.map Dv.av)], .ag [.sl 3 (No.map Nd.av), .sl 5 (Vo.map Dv.av)]] : List AV)[b]? = some (.ag [.sl 3 (N1.map Nd.av), .sl 5 (V1.map Dv.av)]) ∧ NwOk N1 V1 := by
      obtain rfl | rfl : b = 0 ∨ b = 1 := by omega
      · exact ⟨N, V, rfl, ok⟩
      · exact ⟨No, Vo, rfl, oko⟩
    have f1 := sW (G := X.G) N1 V1 x hG hP ok1 hxs
    have f2 := xA (G := X.G) N1 V1 x hG ok1 hxs
    have f3 := qk (G := X.G) N1 V1 x hG ok1 hxs
    have f4 := dA (G := X.G) N1 V1 x hG ok1 hxs
    have f5 := xW (G := X.G) N1 V1 (M.drop i) hG ok1 hdl hds
    have f6 := drall_A (G := X.G) N1 V1 (M.drop i) hG ok1 hdl hds
    generalize docE N1 V1 x = e1 at f3 f4
    generalize iG N1 V1 (M.drop i) = e2 at f5 f6
    obtain ⟨⟨pt, pe⟩, hpm⟩ : ∃ q, q = qI N1 V1 x := ⟨_, rfl⟩
    rw [← hpm] at f1 f2
    simp only at f1 f2
    have p1 : (!yg pt pt) = false := by rw [yd.2 rfl]; rfl
    have p2 : (!decide (pe = pe)) = false := by simp
    have p3 : (!decide (e1 = e1)) = false := by simp
    have p4 : (!decide (e2 = e2)) = false := by simp
    have p5 : (pe != pe) = false := by simp
    have p6 : (e1 != e1) = false := by simp
    have p7 : (e2 != e2) = false := by simp
    repeat (first | ((with_reducible refine zQ ?_); (first | refine za tbOk rfl rfl rfl rfl (Nat.le_of_ble_eq_true rfl) ?_ | refine yK tbOk rfl rfl (Nat.le_of_ble_eq_true rfl) ?_)) | ((with_reducible refine yD ?_); refine yE tbOk rfl rfl rfl rfl rfl rfl rfl (Nat.le_of_ble_eq_true rfl) rfl ?_) | ((with_reducible refine yc ?_); refine ya tbOk rfl rfl ?_) | ((with_reducible refine zY ?_); refine zZ tbOk rfl rfl rfl rfl (by assumption) ?_)  | refine zL ?_ | refine zB rfl ?_ | with_reducible (first | refine zG ?_ | refine zH ?_ | refine zV ?_ | refine zT ?_) | ((with_reducible refine zA ?_ ?_); kernel_rfl))
    refine zC (f1) ?_
    repeat (first | ((with_reducible refine zJ ?_); refine zK rfl ?_) | ((with_reducible refine zF ?_); refine zE rfl ?_) | ((with_reducible refine zQ ?_); refine za tbOk rfl rfl rfl rfl (Nat.le_of_ble_eq_true rfl) ?_) | ((with_reducible refine jN ?_); refine jP rfl rfl ?_)  | refine zL ?_ | refine zB rfl ?_ | with_reducible (first | refine zG ?_ | refine zH ?_) | ((with_reducible refine zA ?_ ?_); kernel_rfl))
    refine zC (f2) ?_
    repeat (first | ((with_reducible refine zJ ?_); refine zK rfl ?_) | ((with_reducible refine zF ?_); refine zE rfl ?_) | ((with_reducible refine zQ ?_); refine za tbOk rfl rfl rfl rfl (Nat.le_of_ble_eq_true rfl) ?_) | ((with_reducible refine jN ?_); refine jP rfl rfl ?_)  | refine zL ?_ | refine zB rfl ?_ | with_reducible (first | refine zG ?_ | refine zH ?_) | ((with_reducible refine yO mixd ?_ ?_); kernel_rfl))
    refine zC (f3) ?_
    repeat (first | ((with_reducible refine zQ ?_); refine za tbOk rfl rfl rfl rfl (Nat.le_of_ble_eq_true rfl) ?_)  | refine zB rfl ?_  )
    refine zC (f4) ?_
    repeat (first | ((with_reducible refine zJ ?_); refine zK rfl ?_) | ((with_reducible refine zQ ?_); refine za tbOk rfl rfl rfl rfl (Nat.le_of_ble_eq_true rfl) ?_) | ((with_reducible refine zW ?_); refine zh rfl (by first | rfl | assumption) rfl ?_) | ((with_reducible refine qv ?_); refine aO tbOk rfl rfl rfl rfl rfl (by refine ⟨?_, ?_, ?_⟩ <;> omega) ?_) | ((with_reducible refine zR ?_); (first | refine zS rfl rfl rfl ?_ | refine jI rfl rfl rfl ?_))  | refine zB rfl ?_ | refine zm rfl rfl (by first | rfl | assumption) ?_  )
    rw [lI]
    refine zC (f5) ?_
    repeat (first | ((with_reducible refine zJ ?_); refine zK rfl ?_) | ((with_reducible refine zQ ?_); refine za tbOk rfl rfl rfl rfl (Nat.le_of_ble_eq_true rfl) ?_) | ((with_reducible refine qv ?_); refine aO tbOk rfl rfl rfl rfl rfl (by refine ⟨?_, ?_, ?_⟩ <;> omega) ?_)  | refine zm rfl rfl (by first | rfl | assumption) ?_  )
    rw [lI]
    refine zC (f6) ?_
    repeat (first | ((with_reducible refine zJ ?_); refine zK rfl ?_) | ((with_reducible refine zW ?_); refine zh rfl (by first | rfl | assumption) rfl ?_) | ((with_reducible refine zR ?_); (first | refine zk rfl rfl (by omega) ?_ | refine zS rfl rfl rfl ?_))  | refine zL ?_ | refine yS (by kernel_rfl) ?_ | refine zB rfl ?_ | refine zm rfl rfl (by first | rfl | assumption) ?_ | with_reducible (first | refine zG ?_ | refine zo ?_ | refine zT ?_) | ((with_reducible refine zA ?_ ?_); kernel_rfl) | refine yH rfl (by first | rfl | assumption) ?_)
    exact ⟨b + 1, by omega, by omega, ⟨rfl, rfl, rfl, rfl, rfl, rfl, rfl, rfl, rfl, rfl, rfl, rfl, trivial⟩, ⟨rfl, rfl, rfl, trivial⟩⟩
  clear c
  repeat (first | ((with_reducible refine zJ ?_); refine zK rfl ?_) | ((with_reducible refine zq ?_); refine yI tbOk rfl rfl ?_)  | refine zL ?_ | refine zB rfl ?_ | with_reducible (first | refine zG ?_ | refine zj ?_ | refine zH ?_ | refine zV ?_ | refine zz ?_) | ((with_reducible refine zg ?_ ?_); rfl) | ((with_reducible refine zA ?_ ?_); kernel_rfl))
  refine yJ (ι := Nat) (fun b => b ≤ 3) (fun b => 3 - b) (fun v b => [(3, .v (.int .i64 num)), (6, .ptr 6 (v 6) 0), (10, .ptr 10 (v 10) 0), (12, .sl 12 (M.map Dc.av)), (79, .sl 12 (M.map Dc.av)), (80, .v (.int .i64 (M.map Dc.av).length)), (81, .v (.int .i64 (i : Nat))), (13, .v (.int .i64 (i : Nat))), (14, .ptr 14 (v 14) 0), (137, .sl 12 (M.map Dc.av)), (138, .v (.int .i64 (M.map Dc.av).length)), (139, .v (.int .i64 (b : Nat)))]) (fun v b => [(6, .box [.sl 3 (No.map Nd.av), .sl 5 (Vo.map Dv.av)]), (10, .box [.sl 3 (N.map Nd.av), .sl 5 (V.map Dv.av)]), (14, .box x.cells)]) ?_ ?_
  · exact ⟨0, Nat.zero_le _, trivial, ⟨rfl, rfl, rfl, rfl, rfl, rfl, rfl, rfl, rfl, rfl, rfl, rfl, trivial⟩, ⟨rfl, rfl, rfl, trivial⟩⟩
  clear v
  rintro v b hb
  repeat (first | ((with_reducible refine zR ?_); refine zS rfl rfl rfl ?_)  | refine zL ?_ | refine zB rfl ?_ | with_reducible (first | refine zG ?_ | refine zH ?_) | ((with_reducible refine zA ?_ ?_); kernel_rfl))
  refine zX rfl (fun c => ?_) (fun c => ?_)
  · have hb2 : b < 3 := by simp at c; omega
    obtain ⟨y, hyy⟩ := zc (L := M) (k := b) (by omega)
    have hyy2 := dJ hyy
    have f1 := tG (G := X.G) x y hxs
    have f2 := vD (G := X.G) x y hxs
    generalize decide (x = y) = e1 at f1 f2
    have p2 : (!decide (e1 = e1)) = false := by simp
    have p5 : (e1 != e1) = false := by simp
    repeat (first | ((with_reducible refine zQ ?_); (first | refine za tbOk rfl rfl rfl rfl (Nat.le_of_ble_eq_true rfl) ?_ | refine yK tbOk rfl rfl (Nat.le_of_ble_eq_true rfl) ?_)) | ((with_reducible refine yD ?_); refine yE tbOk rfl rfl rfl rfl rfl rfl rfl (Nat.le_of_ble_eq_true rfl) rfl ?_) | ((with_reducible refine yc ?_); refine ya tbOk rfl rfl ?_) | ((with_reducible refine zY ?_); refine zZ tbOk rfl rfl rfl rfl (by assumption) ?_)  | refine zL ?_ | refine zB rfl ?_ | with_reducible (first | refine zG ?_ | refine zH ?_ | refine zV ?_ | refine zT ?_) | ((with_reducible refine zA ?_ ?_); kernel_rfl) | ((with_reducible refine yO mixd ?_ ?_); kernel_rfl))
    refine zC (f1) ?_
    repeat (first | ((with_reducible refine zQ ?_); refine za tbOk rfl rfl rfl rfl (Nat.le_of_ble_eq_true rfl) ?_)  | refine zB rfl ?_  )
    refine zC (f2) ?_
    repeat (first | ((with_reducible refine zJ ?_); refine zK rfl ?_) | ((with_reducible refine zR ?_); (first | refine zk rfl rfl (by omega) ?_ | refine mB (by exact Tryz.underlying4) rfl rfl ?_))  | refine zL ?_ | refine yS (by kernel_rfl) ?_ | refine zB rfl ?_ | with_reducible (first | refine zG ?_ | refine zo ?_ | refine zT ?_) | ((with_reducible refine zA ?_ ?_); kernel_rfl) | refine yH rfl (by first | rfl | assumption) ?_)
    exact ⟨b + 1, by omega, by omega, ⟨rfl, rfl, rfl, rfl, rfl, rfl, rfl, rfl, rfl, rfl, rfl, rfl, trivial⟩, ⟨rfl, rfl, rfl, trivial⟩⟩
  have f1 := wM (G := X.G) x
  have f2 := dract_A (G := X.G) x
  have f3 := gH (G := X.G) M x.num (by omega)
  have f4 := nQ (G := X.G) M x.num (by omega)
  generalize actB x = e1 at f1 f2
  generalize qO x.num 0 M = e2 at f3 f4
  have p2 : (!decide (e1 = e1)) = false := by simp
  have p5 : (e1 != e1) = false := by simp
  have p3 : (!decide (e2 = e2)) = false := by simp
  have p6 : (e2 != e2) = false := by simp
  repeat (first | ((with_reducible refine zQ ?_); refine za tbOk rfl rfl rfl rfl (Nat.le_of_ble_eq_true rfl) ?_)  | refine zB rfl ?_ | with_reducible (first | refine zG ?_ | refine zj ?_ | refine zH ?_ | refine zz ?_) | ((with_reducible refine zg ?_ ?_); rfl) | ((with_reducible refine yO mixd ?_ ?_); kernel_rfl))
  refine zC (f1) ?_
  repeat (first | ((with_reducible refine zQ ?_); refine za tbOk rfl rfl rfl rfl (Nat.le_of_ble_eq_true rfl) ?_)  | refine zB rfl ?_  )
  refine zC (f2) ?_
  repeat (first | ((with_reducible refine zJ ?_); refine zK rfl ?_) | ((with_reducible refine zM ?_); refine zI tbOk rfl rfl rfl rfl ?_) | ((with_reducible refine zQ ?_); refine zO tbOk rfl rfl rfl rfl rfl ?_) | ((with_reducible refine zR ?_); refine mB (by exact Tryz.underlying4) rfl rfl ?_)  | refine zB rfl ?_ | refine zm rfl rfl (by first | rfl | assumption) ?_  )
  refine zC (f3) ?_
  repeat (first | ((with_reducible refine zJ ?_); refine zK rfl ?_) | ((with_reducible refine zM ?_); refine zI tbOk rfl rfl rfl rfl ?_) | ((with_reducible refine zQ ?_); refine zO tbOk rfl rfl rfl rfl rfl ?_)  | refine zm rfl rfl (by first | rfl | assumption) ?_  )
  refine zC (f4) ?_
  repeat (first | ((with_reducible refine zJ ?_); refine zK rfl ?_) | ((with_reducible refine zW ?_); refine zh rfl (by first | rfl | assumption) rfl ?_) | ((with_reducible refine zR ?_); (first | refine zk rfl rfl (by omega) ?_ | refine zS rfl rfl rfl ?_))  | refine zL ?_ | refine yS (by kernel_rfl) ?_ | refine zB rfl ?_ | refine zm rfl rfl (by first | rfl | assumption) ?_ | with_reducible (first | refine zG ?_ | refine zo ?_ | refine zT ?_) | ((with_reducible refine zA ?_ ?_); kernel_rfl) | refine yH rfl (by first | rfl | assumption) ?_)
  exact ⟨i + 1, by omega, by omega, ⟨rfl, rfl, rfl, rfl, rfl, rfl, rfl, trivial⟩, ⟨rfl, rfl, trivial⟩⟩
end Go.Proofs.YtjamibeffalhaaaGreatDoor
