/- permitofficelaw26.DocumentBack, by the abstract machine: it answers true for all lists; conditions: the tables of classes and powers and a cell of the library stand. -/
import Derived.Test.YtjamibeffalhaaaGreatDoorDeA
set_option linter.unusedVariables false
set_option linter.unusedSimpArgs false
namespace Go.Proofs.YtjamibeffalhaaaGreatDoor
open Go Go.RowKit
set_option maxRecDepth 10000
variable {G : Nat → Option (List Value)}
set_option maxRecDepth 100000 in
set_option maxHeartbeats 16000000 in
theorem back_law (l : List Int) (hG : GCls G) (hP : GPow G) (hM : GMax G) : zy Tryz.prog G 4 [.sl 1 (l.map iv)] [] (.v (.bool true)) [] := by
  refine zf tbOk (zg Tryz.func4 (by kernel_rfl) rfl) Tryz.func4 rfl _ Tryz.ntmps4 (Nat.le_of_ble_eq_true rfl) fun X hX => ?_
  subst hX
  repeat (first | ((with_reducible refine zD ?_); refine zC rfl ?_)  | refine zH ?_ | refine zB rfl ?_ | with_reducible refine zE ?_ | with_reducible refine zF ?_ | ((with_reducible refine zA ?_ ?_); kernel_rfl))
  refine zj (awake_A hG hP hM) (by repeat' (first | exact trivial | exact Ren.v _ | exact Ren.sl _ _ | exact Ren.ep _ | exact Ren.ptr _ _ _ _ rfl | exact Ren.bs _ _ _ _ _ rfl | exact Ren.nil _ | exact Ren.own _ _ _ _ ⟨_, rfl⟩ | refine zP ?_ | refine zQ ?_ | refine zR ?_ | refine ⟨?_, ?_⟩)) (by repeat' (first | exact trivial | exact RenB.v _ | exact RenB.sl _ _ | exact RenB.ep _ | exact RenB.ptr _ _ _ _ rfl | refine zW ?_ | refine zV ?_ | refine ⟨?_, ?_⟩)) ?_
  repeat (first | ((with_reducible refine zJ ?_); refine zI rfl ?_) | ((with_reducible refine k_un ?_); refine jC rfl ?_)  | refine zB rfl ?_ | refine zz rfl rfl (by first | rfl | assumption) ?_  )
  refine zj (few_A (l.map iv)) (by repeat' (first | exact trivial | exact Ren.v _ | exact Ren.sl _ _ | exact Ren.ep _ | exact Ren.ptr _ _ _ _ rfl | exact Ren.bs _ _ _ _ _ rfl | exact Ren.nil _ | exact Ren.own _ _ _ _ ⟨_, rfl⟩ | refine zP ?_ | refine zQ ?_ | refine zR ?_ | refine ⟨?_, ?_⟩)) (by repeat' (first | exact trivial | exact RenB.v _ | exact RenB.sl _ _ | exact RenB.ep _ | exact RenB.ptr _ _ _ _ rfl | refine zW ?_ | refine zV ?_ | refine ⟨?_, ?_⟩)) ?_
  repeat (first | ((with_reducible refine k_un ?_); refine jC rfl ?_) | ((with_reducible refine za ?_); refine zn rfl (by first | rfl | assumption) rfl ?_)  | refine zH ?_ | refine zB rfl ?_ | refine zz rfl rfl (by first | rfl | assumption) ?_ | with_reducible refine zE ?_ )
  refine zZ rfl (fun h => ?_) (fun h => ?_)
  · repeat (first   | refine zB rfl ?_ | with_reducible refine zF ?_ | ((with_reducible refine zA ?_ ?_); kernel_rfl))
    refine zj (awake_A hG hP hM) (by repeat' (first | exact trivial | exact Ren.v _ | exact Ren.sl _ _ | exact Ren.ep _ | exact Ren.ptr _ _ _ _ rfl | exact Ren.bs _ _ _ _ _ rfl | exact Ren.nil _ | exact Ren.own _ _ _ _ ⟨_, rfl⟩ | refine zP ?_ | refine zQ ?_ | refine zR ?_ | refine ⟨?_, ?_⟩)) (by repeat' (first | exact trivial | exact RenB.v _ | exact RenB.sl _ _ | exact RenB.ep _ | exact RenB.ptr _ _ _ _ rfl | refine zW ?_ | refine zV ?_ | refine ⟨?_, ?_⟩)) ?_
    repeat (first | ((with_reducible refine zD ?_); refine zC rfl ?_)  | refine zH ?_ | refine zB rfl ?_ | with_reducible refine zE ?_ | with_reducible refine zM ?_ | with_reducible refine zL ?_ )
    refine zk (by first | exact .inr rfl | exact .inl rfl) rfl rfl ?_
    rfl
  have h400 : l.length ≤ 400 := by simp at h; omega
  have hD := DkOk.new h400
  have ok := tie_ok (dk0 l)
  obtain ⟨v1, v64⟩ := tie_vlen (dk0 l)
  have hnl := tie_nlen (dk0 l)
  have hT := tie_A (G := X.G) (dk0 l) hD
  have hTd := tieD_ok hD
  have hdc := fun D (hD : DkOk D) => fdoc_A (G := X.G) (qc (dk0 l)) (jU (dk0 l)) D hD ok (by omega) (by omega) v1 v64
  have hdf := fun D (hD : DkOk D) => docD_few (qc (dk0 l)) (jU (dk0 l)) hD
  have hnet := tie_net (dk0 l)
  obtain ⟨N, hN⟩ : ∃ N, N = qc (dk0 l) := ⟨_, rfl⟩
  obtain ⟨V, hV⟩ : ∃ V, V = jU (dk0 l) := ⟨_, rfl⟩
  obtain ⟨S, hS⟩ : ∃ S, S = tieSs (dk0 l) := ⟨_, rfl⟩
  obtain ⟨D0, hD0⟩ : ∃ D0, D0 = tieD (dk0 l) := ⟨_, rfl⟩
  rw [← hN, ← hV, ← hS, ← hD0] at hT
  rw [← hN, ← hV] at ok hnet
  rw [← hV] at v1 v64
  rw [← hN] at hnl
  rw [← hD0] at hTd
  simp only [← hN, ← hV] at hdc hdf
  clear hN hV hS hD0
  have hdoc := hdc D0 hTd
  obtain ⟨hE, hf⟩ := hdf D0 hTd
  clear hdc hdf
  generalize docD N V D0 = Q at hdoc hE hf
  obtain ⟨d, E⟩ := Q
  dsimp only at hdoc hE hf
  have hpr := print_A (G := X.G) N V d hG hP ok hf.sz
  have hcl : jq N V d = if docE N V d ≠ 0 then (⟨#[]⟩, docE N V d) else (strL (yd (yx N V d)), 0) := rfl
  obtain ⟨⟨P, pe⟩, hPp⟩ : ∃ q, q = jq N V d := ⟨_, rfl⟩
  rw [← hPp] at hpr hcl
  dsimp only at hpr
  repeat (first | ((with_reducible refine zJ ?_); refine zI rfl ?_)  | refine zB rfl ?_ | with_reducible refine zE ?_ | with_reducible refine zF ?_ | with_reducible refine zU ?_ | ((with_reducible refine zA ?_ ?_); kernel_rfl))
  refine x_call_new (new_A l) (by repeat' (first | exact trivial | exact Ren.v _ | exact Ren.sl _ _ | exact Ren.ep _ | exact Ren.ptr _ _ _ _ rfl | exact Ren.bs _ _ _ _ _ rfl | exact Ren.nil _ | exact Ren.own _ _ _ _ ⟨_, rfl⟩ | refine zP ?_ | refine zQ ?_ | refine zR ?_ | refine ⟨?_, ?_⟩)) (by repeat' (first | exact trivial | exact RenB.v _ | exact RenB.sl _ _ | exact RenB.ep _ | exact RenB.ptr _ _ _ _ rfl | refine zW ?_ | refine zV ?_ | refine ⟨?_, ?_⟩)) rfl ?_
  repeat (first | ((with_reducible refine zJ ?_); refine zI rfl ?_) | ((with_reducible refine zD ?_); refine zC rfl ?_)  | refine zH ?_ | refine zB rfl ?_ | with_reducible refine zE ?_ | with_reducible refine zF ?_ | ((with_reducible refine zA ?_ ?_); kernel_rfl))
  refine yE (y := .tu [qH N V, .sl 1 (S.map iv)]) (ss := [(27, 1)]) (hT) (by repeat' (first | exact trivial | exact Ren.v _ | exact Ren.sl _ _ | exact Ren.ep _ | exact Ren.ptr _ _ _ _ rfl | exact Ren.bs _ _ _ _ _ rfl | exact Ren.nil _ | exact Ren.own _ _ _ _ ⟨_, rfl⟩ | refine zP ?_ | refine zQ ?_ | refine zR ?_ | refine ⟨?_, ?_⟩)) (by simp) (in1 rfl rfl) rfl (yL rfl) (by repeat' (first | exact trivial | exact RenB.v _ | exact RenB.sl _ _ | exact RenB.ep _ | exact RenB.ptr _ _ _ _ rfl | refine zW ?_ | refine zV ?_ | refine ⟨?_, ?_⟩)) ?_
  repeat (first | ((with_reducible refine zJ ?_); refine zI rfl ?_) | ((with_reducible refine zD ?_); refine zC rfl ?_) | ((with_reducible refine zO ?_); refine zi tbOk rfl rfl rfl rfl (Nat.le_of_ble_eq_true rfl) ?_) | ((with_reducible refine zu ?_); refine zx tbOk rfl rfl rfl rfl rfl rfl rfl (Nat.le_of_ble_eq_true rfl) rfl ?_) | ((with_reducible refine yb ?_); refine ya tbOk rfl rfl ?_) | ((with_reducible refine yr ?_); refine yq rfl rfl ?_)  | refine zH ?_ | refine zB rfl ?_ | with_reducible refine zE ?_ | with_reducible refine zF ?_ | ((with_reducible refine zA ?_ ?_); kernel_rfl))
  refine yE (y := d.av) (ss := [(27, 1)]) (hdoc) (by repeat' (first | exact trivial | exact Ren.v _ | exact Ren.sl _ _ | exact Ren.ep _ | exact Ren.ptr _ _ _ _ rfl | exact Ren.bs _ _ _ _ _ rfl | exact Ren.nil _ | exact Ren.own _ _ _ _ ⟨_, rfl⟩ | refine zP ?_ | refine zQ ?_ | refine zR ?_ | refine ⟨?_, ?_⟩)) (by simp) (in1 rfl rfl) rfl (yL rfl) (by repeat' (first | exact trivial | exact RenB.v _ | exact RenB.sl _ _ | exact RenB.ep _ | exact RenB.ptr _ _ _ _ rfl | refine zW ?_ | refine zV ?_ | refine ⟨?_, ?_⟩)) ?_
  repeat (first | ((with_reducible refine zO ?_); refine zi tbOk rfl rfl rfl rfl (Nat.le_of_ble_eq_true rfl) ?_) | ((with_reducible refine zu ?_); refine zx tbOk rfl rfl rfl rfl rfl rfl rfl (Nat.le_of_ble_eq_true rfl) rfl ?_) | ((with_reducible refine yb ?_); refine ya tbOk rfl rfl ?_)  | refine zH ?_ | refine zB rfl ?_ | with_reducible refine zE ?_ | with_reducible refine zF ?_ | ((with_reducible refine zA ?_ ?_); kernel_rfl))
  refine zj (hpr) (by repeat' (first | exact trivial | exact Ren.v _ | exact Ren.sl _ _ | exact Ren.ep _ | exact Ren.ptr _ _ _ _ rfl | exact Ren.bs _ _ _ _ _ rfl | exact Ren.nil _ | exact Ren.own _ _ _ _ ⟨_, rfl⟩ | refine zP ?_ | refine zQ ?_ | refine zR ?_ | refine ⟨?_, ?_⟩)) (by repeat' (first | exact trivial | exact RenB.v _ | exact RenB.sl _ _ | exact RenB.ep _ | exact RenB.ptr _ _ _ _ rfl | refine zW ?_ | refine zV ?_ | refine ⟨?_, ?_⟩)) ?_
  repeat (first | ((with_reducible refine zJ ?_); refine zI rfl ?_) | ((with_reducible refine zD ?_); refine zC rfl ?_) | ((with_reducible refine yr ?_); refine yq rfl rfl ?_) | ((with_reducible refine zS ?_); refine zT rfl rfl rfl ?_)  | refine zH ?_ | refine zB rfl ?_ | with_reducible refine zE ?_ | with_reducible refine zF ?_ | ((with_reducible refine zA ?_ ?_); kernel_rfl))
  refine zZ rfl (fun c => ?_) (fun c => ?_)
  · have hne : docE N V d ≠ 0 := fun e => by
      rw [if_neg (by simpa using e)] at hcl
      have : pe = 0 := congrArg Prod.snd hcl
      simp [this] at c
    rw [if_pos hne] at hcl
    have e1 : P = ⟨#[]⟩ := congrArg Prod.fst hcl
    subst e1
    repeat (first | ((with_reducible refine zJ ?_); refine zI rfl ?_) | ((with_reducible refine zD ?_); refine zC rfl ?_) | ((with_reducible refine zS ?_); refine jB rfl rfl rfl ?_)  | refine zH ?_ | refine zB rfl ?_ | with_reducible refine zE ?_ | with_reducible refine zM ?_ | with_reducible refine zF ?_ | with_reducible refine zL ?_ | ((with_reducible refine zA ?_ ?_); kernel_rfl))
    refine zk (by first | exact .inr rfl | exact .inl rfl) rfl rfl ?_
    exact congrArg (fun b => AV.v (.bool b)) (ye.2 rfl).symm
  have hz0 : docE N V d = 0 := by
    refine Classical.byContradiction fun e => ?_
    rw [if_pos e] at hcl
    have : pe = docE N V d := congrArg Prod.snd hcl
    exact e (by rw [← this]; simpa using c)
  have hok : DcOk N V d := docE_iff.1 hz0
  rw [if_neg (by simpa using hz0)] at hcl
  have e1 : P = strL (yd (yx N V d)) := congrArg Prod.fst hcl
  have e2 : pe = 0 := congrArg Prod.snd hcl
  subst e2
  have hTl := text_lenD hok
  have hwide := fun w => parse_wide (w := w) hok
  generalize yd (yx N V d) = T at *
  subst e1
  have hPs : (strL T).size = T.length := yu T
  repeat (first | ((with_reducible refine zD ?_); refine zC rfl ?_)  | refine zH ?_ | refine zB rfl ?_ | with_reducible refine zE ?_ | with_reducible refine zF ?_ | with_reducible refine zY ?_ | with_reducible refine zU ?_ | ((with_reducible refine zA ?_ ?_); kernel_rfl))
  refine yN (ι := Nat × List UInt8 × Dk) (fun i => i.1 ≤ T.length ∧ DkOk i.2.2 ∧ Wide (T.take i.1) i.2.1) (fun i => T.length - i.1) (fun v i => [(3, .ptr 27 (v 27) 0), (4, .ptr 4 (v 4) 0), (6, .ptr 6 (v 6) 0), (7, .v (.string (strL T))), (9, .v (.string (strL i.2.1))), (10, .v (.int .i64 (i.1 : Nat)))]) (fun v i => [(27, .box i.2.2.cells), (4, .box [.sl 3 (N.map Nd.av), .sl 5 (V.map Dv.av)]), (6, .box d.cells)]) ?_ ?_
  · exact ⟨(0, [], E), ⟨Nat.zero_le _, hE, .nil⟩, trivial, ⟨rfl, rfl, rfl, rfl, rfl, rfl, trivial⟩, ⟨rfl, rfl, rfl, trivial⟩⟩
  clear h c
  rintro v ⟨k, W, D⟩ ⟨hk, hDk, hw⟩
  dsimp only at hk hDk hw ⊢
  have hwl := hw.len
  rw [List.length_take] at hwl
  have hws : (strL W).size = W.length := yu W
  repeat (first | ((with_reducible refine zJ ?_); refine zI rfl ?_) | ((with_reducible refine yA ?_); refine jb (by exact Tryz.underlying9) rfl ?_) | ((with_reducible refine zS ?_); refine zT rfl rfl rfl ?_)  | refine zH ?_ | refine zB rfl ?_ | with_reducible refine zE ?_ | with_reducible refine zF ?_ | ((with_reducible refine zA ?_ ?_); kernel_rfl))
  refine zZ rfl (fun c => ?_) (fun c => ?_)
  · have hlt : k < T.length := by simp at c; omega
    obtain ⟨x, hx⟩ := zc hlt
    have hix := nidxS (strL T) k x (by rw [yc]; exact hx)
    have hns : ∀ z, Wide (T.take k ++ [x]) z → Wide (T.take (k + 1)) z := fun z q => by rw [ja hx]; exact q
    have hex : (strL T).extract (k : Int).toNat ((k : Int) + 1).toNat = strL [x] := by
      rw [ext_strL]
      have : ((k : Int) + 1).toNat = k + 1 := by omega
      rw [Int.toNat_natCast, this, extL_next (by rw [yc]; exact hx) (Nat.le_refl _), extL_self]
      rfl
    repeat (first | ((with_reducible refine zJ ?_); refine zI rfl ?_) | ((with_reducible refine jY ?_); refine ji rfl rfl (by assumption) ?_) | ((with_reducible refine zS ?_); refine zT rfl rfl rfl ?_)  | refine zB rfl ?_ | with_reducible refine zE ?_ | with_reducible refine zF ?_ | with_reducible refine zY ?_ | with_reducible refine zU ?_ | ((with_reducible refine zA ?_ ?_); kernel_rfl))
    refine zw rfl rfl (fun q => ?_) (fun q => ?_)
    · have hx32 : x = 32 := UInt8.toNat_inj.1 (by
        have : (x.toNat : Int) = 32 := by simpa using q
        show x.toNat = 32
        omega)
      repeat (first | ((with_reducible refine zJ ?_); refine zI rfl ?_)  | refine yF rfl rfl (by first | rfl | assumption) ?_  )
      refine yE (ss := [(27, v 27)]) (one_A D 2 hDk (by omega) (by omega)) (by repeat' (first | exact trivial | exact Ren.v _ | exact Ren.sl _ _ | exact Ren.ep _ | exact Ren.ptr _ _ _ _ rfl | exact Ren.bs _ _ _ _ _ rfl | exact Ren.nil _ | exact Ren.own _ _ _ _ ⟨_, rfl⟩ | refine zP ?_ | refine zQ ?_ | refine zR ?_ | refine ⟨?_, ?_⟩)) (by simp) (in1 rfl rfl) rfl (yL rfl) (by repeat' (first | exact trivial | exact RenB.v _ | exact RenB.sl _ _ | exact RenB.ep _ | exact RenB.ptr _ _ _ _ rfl | refine zW ?_ | refine zV ?_ | refine ⟨?_, ?_⟩)) ?_
      repeat (first | ((with_reducible refine za ?_); refine zp rfl (by first | rfl | assumption) rfl ?_)  | refine zH ?_ | refine zB rfl ?_ | with_reducible refine zE ?_ )
      refine zZ rfl (fun c2 => ?_) (fun c2 => ?_)
      · repeat (first | ((with_reducible refine zJ ?_); refine zI rfl ?_)  | refine zB rfl ?_  | ((with_reducible refine zA ?_ ?_); kernel_rfl))
        with_reducible refine zS ?_
        refine x_add_s (a := strL (W)) (b := strL ([32, 32])) rfl rfl (by rw [yu, yu]; simp only [List.length_append, List.length_cons, List.length_nil]; omega) ?_
        rw [str_app]
        repeat (first | ((with_reducible refine zJ ?_); refine zI rfl ?_) | ((with_reducible refine zD ?_); refine zC rfl ?_) | ((with_reducible refine zS ?_); refine zl rfl rfl (by omega) ?_)  | refine zH ?_ | refine zB rfl ?_ | with_reducible refine zE ?_ | with_reducible refine zq ?_ | ((with_reducible refine zA ?_ ?_); kernel_rfl))
        exact ⟨(k + 1, W ++ [32, 32], D.next), ⟨hlt, hDk.next, hns _ (by rw [hx32]; exact hw.snoc2)⟩, by dsimp only; omega, ⟨rfl, rfl, rfl, rfl, rfl, rfl, trivial⟩, ⟨rfl, rfl, rfl, trivial⟩⟩
      · repeat (first | ((with_reducible refine zJ ?_); refine zI rfl ?_) | ((with_reducible refine qg ?_); refine x_sliceS (by exact Tryz.underlying9) rfl rfl rfl (by refine ⟨?_, ?_, ?_⟩ <;> omega) ?_) | ((with_reducible refine zS ?_); refine zl rfl rfl (by omega) ?_)  | refine zB rfl ?_  | ((with_reducible refine zA ?_ ?_); kernel_rfl))
        rw [hex]
        with_reducible refine zS ?_
        refine x_add_s (a := strL (W)) (b := strL ([x])) rfl rfl (by rw [yu, yu]; simp only [List.length_append, List.length_cons, List.length_nil]; omega) ?_
        rw [str_app]
        repeat (first | ((with_reducible refine zJ ?_); refine zI rfl ?_) | ((with_reducible refine zD ?_); refine zC rfl ?_) | ((with_reducible refine zS ?_); refine zl rfl rfl (by omega) ?_)  | refine zH ?_ | refine zB rfl ?_ | with_reducible refine zE ?_ | with_reducible refine zq ?_ | ((with_reducible refine zA ?_ ?_); kernel_rfl))
        exact ⟨(k + 1, W ++ [x], D.next), ⟨hlt, hDk.next, hns _ (hw.snoc x)⟩, by dsimp only; omega, ⟨rfl, rfl, rfl, rfl, rfl, rfl, trivial⟩, ⟨rfl, rfl, rfl, trivial⟩⟩
    · repeat (first | ((with_reducible refine zJ ?_); refine zI rfl ?_) | ((with_reducible refine za ?_); refine zn rfl (by first | rfl | assumption) rfl ?_) | ((with_reducible refine qg ?_); refine x_sliceS (by exact Tryz.underlying9) rfl rfl rfl (by refine ⟨?_, ?_, ?_⟩ <;> omega) ?_) | ((with_reducible refine zS ?_); refine zl rfl rfl (by omega) ?_)  | refine zH ?_ | refine zB rfl ?_ | refine yH rfl rfl (by first | rfl | assumption) ?_ | with_reducible refine zE ?_ | ((with_reducible refine zA ?_ ?_); kernel_rfl) | refine yI rfl (by first | rfl | assumption) ?_)
      rw [hex]
      with_reducible refine zS ?_
      refine x_add_s (a := strL (W)) (b := strL ([x])) rfl rfl (by rw [yu, yu]; simp only [List.length_append, List.length_cons, List.length_nil]; omega) ?_
      rw [str_app]
      repeat (first | ((with_reducible refine zJ ?_); refine zI rfl ?_) | ((with_reducible refine zD ?_); refine zC rfl ?_) | ((with_reducible refine zS ?_); refine zl rfl rfl (by omega) ?_)  | refine zH ?_ | refine zB rfl ?_ | with_reducible refine zE ?_ | with_reducible refine zq ?_ | ((with_reducible refine zA ?_ ?_); kernel_rfl))
      exact ⟨(k + 1, W ++ [x], D), ⟨hlt, hDk, hns _ (hw.snoc x)⟩, by dsimp only; omega, ⟨rfl, rfl, rfl, rfl, rfl, rfl, trivial⟩, ⟨rfl, rfl, rfl, trivial⟩⟩
  have hge : T.length ≤ k := by simp at c; omega
  rw [List.take_of_length_le hge] at hw
  have hpa : ∀ Y ∈ [T, W], jm N V Y = (d, 0, 0) := fun Y hY => by
    rcases List.mem_cons.1 hY with rfl | hY
    · exact hwide _ (Wide.refl _)
    · rw [List.mem_singleton.1 hY]; exact hwide _ hw
  have hYl : ∀ Y ∈ [T, W], Y.length ≤ 100000 := fun Y hY => by
    rcases List.mem_cons.1 hY with rfl | hY
    · omega
    · rw [List.mem_singleton.1 hY]; omega
  repeat (first | ((with_reducible refine zJ ?_); refine zI rfl ?_) | ((with_reducible refine yA ?_); refine yP tbOk rfl rfl ?_) | ((with_reducible refine zo ?_); refine zt tbOk rfl rfl rfl rfl rfl (by omega) rfl rfl rfl ?_) | refine zH ?_ | refine zB rfl ?_ | with_reducible refine zE ?_ | with_reducible refine zm ?_ | with_reducible refine zF ?_ | with_reducible refine zY ?_ | with_reducible refine yB ?_ | ((with_reducible refine zh ?_ ?_); rfl) | ((with_reducible refine zA ?_ ?_); kernel_rfl))
  refine yN (ι := Nat) (fun a => a ≤ 2) (fun a => 2 - a) (fun v a => [(4, .ptr 4 (v 4) 0), (6, .ptr 6 (v 6) 0), (7, .v (.string (strL T))), (71, .sl 1 ([T, W].map svL)), (72, .v (.int .i64 2)), (73, .v (.int .i64 (a : Nat)))]) (fun v a => [(4, .box [.sl 3 (N.map Nd.av), .sl 5 (V.map Dv.av)]), (6, .box d.cells)]) ?_ ?_
  · exact ⟨0, Nat.zero_le _, trivial, ⟨rfl, rfl, rfl, rfl, rfl, rfl, trivial⟩, ⟨rfl, rfl, trivial⟩⟩
  clear v c
  rintro v a ha
  repeat (first | ((with_reducible refine zS ?_); refine zT rfl rfl rfl ?_)  | refine zH ?_ | refine zB rfl ?_ | with_reducible refine zE ?_ | with_reducible refine zF ?_ | ((with_reducible refine zA ?_ ?_); kernel_rfl))
  refine zZ rfl (fun c => ?_) (fun c => ?_)
  · have hlt : a < 2 := by simp at c; omega
    obtain ⟨Y, hY⟩ := zc (L := [T, W]) (k := a) hlt
    have hy := sv_at hY
    have hm := List.mem_of_getElem? hY
    have hp := pparse_A (G := X.G) N V (strL Y) hG hM ok (by rw [yu]; have := hYl Y hm; omega)
    rw [yc, hpa Y hm] at hp
    have hsm := dsame_A (G := X.G) d d hf.sz
    rw [decide_eq_true rfl] at hsm
    have hst : (!yS (strL T) (strL T)) = false := by rw [ye.2 rfl]; rfl
    repeat (first | ((with_reducible refine zJ ?_); refine zI rfl ?_) | ((with_reducible refine zD ?_); refine zC rfl ?_) | ((with_reducible refine zO ?_); refine zi tbOk rfl rfl rfl rfl (Nat.le_of_ble_eq_true rfl) ?_) | ((with_reducible refine zO ?_); refine ze tbOk rfl rfl rfl ?_) | ((with_reducible refine zb ?_); refine zd tbOk rfl rfl rfl rfl (by assumption) ?_)  | refine zH ?_ | refine zB rfl ?_ | with_reducible refine zE ?_ | with_reducible refine zF ?_ | with_reducible refine zY ?_ | with_reducible refine zU ?_ | ((with_reducible refine zA ?_ ?_); kernel_rfl))
    refine zj (hp) (by repeat' (first | exact trivial | exact Ren.v _ | exact Ren.sl _ _ | exact Ren.ep _ | exact Ren.ptr _ _ _ _ rfl | exact Ren.bs _ _ _ _ _ rfl | exact Ren.nil _ | exact Ren.own _ _ _ _ ⟨_, rfl⟩ | refine zP ?_ | refine zQ ?_ | refine zR ?_ | refine ⟨?_, ?_⟩)) (by repeat' (first | exact trivial | exact RenB.v _ | exact RenB.sl _ _ | exact RenB.ep _ | exact RenB.ptr _ _ _ _ rfl | refine zW ?_ | refine zV ?_ | refine ⟨?_, ?_⟩)) ?_
    repeat (first | ((with_reducible refine zJ ?_); refine zI rfl ?_) | ((with_reducible refine zD ?_); refine zC rfl ?_) | ((with_reducible refine zO ?_); refine zi tbOk rfl rfl rfl rfl (Nat.le_of_ble_eq_true rfl) ?_) | ((with_reducible refine zu ?_); refine zx tbOk rfl rfl rfl rfl rfl rfl rfl (Nat.le_of_ble_eq_true rfl) rfl ?_) | ((with_reducible refine yb ?_); refine ya tbOk rfl rfl ?_) | ((with_reducible refine yr ?_); refine yq rfl rfl ?_)  | refine zH ?_ | refine zB rfl ?_ | with_reducible refine zE ?_ | with_reducible refine zF ?_ | ((with_reducible refine zA ?_ ?_); kernel_rfl))
    refine zj (hpr) (by repeat' (first | exact trivial | exact Ren.v _ | exact Ren.sl _ _ | exact Ren.ep _ | exact Ren.ptr _ _ _ _ rfl | exact Ren.bs _ _ _ _ _ rfl | exact Ren.nil _ | exact Ren.own _ _ _ _ ⟨_, rfl⟩ | refine zP ?_ | refine zQ ?_ | refine zR ?_ | refine ⟨?_, ?_⟩)) (by repeat' (first | exact trivial | exact RenB.v _ | exact RenB.sl _ _ | exact RenB.ep _ | exact RenB.ptr _ _ _ _ rfl | refine zW ?_ | refine zV ?_ | refine ⟨?_, ?_⟩)) ?_
    repeat (first | ((with_reducible refine zJ ?_); refine zI rfl ?_) | ((with_reducible refine zD ?_); refine zC rfl ?_) | ((with_reducible refine zO ?_); refine zi tbOk rfl rfl rfl rfl (Nat.le_of_ble_eq_true rfl) ?_) | ((with_reducible refine yr ?_); refine yq rfl rfl ?_) | ((with_reducible refine za ?_); refine zn rfl (by first | rfl | assumption) rfl ?_) | ((with_reducible refine zS ?_); refine zT rfl rfl rfl ?_) | ((with_reducible refine zS ?_); refine jB rfl rfl rfl ?_)  | refine zH ?_ | refine zB rfl ?_ | refine zz rfl rfl (by first | rfl | assumption) ?_ | with_reducible refine zE ?_ | with_reducible refine zF ?_ | ((with_reducible refine zA ?_ ?_); kernel_rfl))
    refine zj (hsm) (by repeat' (first | exact trivial | exact Ren.v _ | exact Ren.sl _ _ | exact Ren.ep _ | exact Ren.ptr _ _ _ _ rfl | exact Ren.bs _ _ _ _ _ rfl | exact Ren.nil _ | exact Ren.own _ _ _ _ ⟨_, rfl⟩ | refine zP ?_ | refine zQ ?_ | refine zR ?_ | refine ⟨?_, ?_⟩)) (by repeat' (first | exact trivial | exact RenB.v _ | exact RenB.sl _ _ | exact RenB.ep _ | exact RenB.ptr _ _ _ _ rfl | refine zW ?_ | refine zV ?_ | refine ⟨?_, ?_⟩)) ?_
    repeat (first | ((with_reducible refine zJ ?_); refine zI rfl ?_) | ((with_reducible refine k_un ?_); refine jC rfl ?_) | ((with_reducible refine za ?_); refine zn rfl (by first | rfl | assumption) rfl ?_) | ((with_reducible refine zS ?_); refine zl rfl rfl (by omega) ?_)  | refine zH ?_ | refine zB rfl ?_ | refine zz rfl rfl (by first | rfl | assumption) ?_ | with_reducible refine zE ?_ | with_reducible refine zq ?_ | with_reducible refine zU ?_ | ((with_reducible refine zA ?_ ?_); kernel_rfl) | refine yI rfl (by first | rfl | assumption) ?_)
    exact ⟨a + 1, by omega, by omega, ⟨rfl, rfl, rfl, rfl, rfl, rfl, trivial⟩, ⟨rfl, rfl, trivial⟩⟩
  repeat (first | ((with_reducible refine zD ?_); refine zC rfl ?_)  | refine zH ?_ | refine zB rfl ?_ | with_reducible refine zE ?_ | with_reducible refine zm ?_ | with_reducible refine zF ?_ | with_reducible refine yB ?_ | with_reducible refine zL ?_ | ((with_reducible refine zh ?_ ?_); rfl) | ((with_reducible refine zA ?_ ?_); kernel_rfl))
  refine zk (by first | exact .inr rfl | exact .inl rfl) rfl rfl ?_
  rfl
end Go.Proofs.YtjamibeffalhaaaGreatDoor
