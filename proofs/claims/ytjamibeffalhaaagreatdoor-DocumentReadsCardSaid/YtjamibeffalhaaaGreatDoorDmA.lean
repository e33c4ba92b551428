/- permitofficemake.Locks without a state, at most 8, and the deck behind it; permitofficemake.Set, Zone, Span, by the abstract machine; conditions: none. -/
import Derived.Test.YtjamibeffalhaaaGreatDoorAbsZ
import Derived.Test.YtjamibeffalhaaaGreatDoorAbsJ
set_option linter.unusedVariables false
set_option linter.unusedSimpArgs false
namespace Go.Proofs.YtjamibeffalhaaaGreatDoor
open Go Go.RowKit
set_option maxRecDepth 10000
variable {G : Nat → Option (List Value)}
set_option maxHeartbeats 4000000 in
theorem wS (M : Nat) (hM : M ≤ 8) (D : Dk) (N : List Nd) (V : List Dv) (hD : DkOk D) (hN : ∀ x ∈ N, x.n.size ≤ maxLen) (hV : ∀ x ∈ V, x.n.size ≤ maxLen) (h1 : N.length ≤ maxLen) (hV0 : 0 < V.length) (hV64 : V.length ≤ 64) :
    zz Tryz.prog G 22 [.ptr (refB + 0) 0 0, jo N V, .sl 1 [], .v (.int .i64 (M : Nat))] [D.cells] (.sl 3 ((ji N V [] M 0 D []).2.map Lk.av)) [(ji N V [] M 0 D []).1.cells] := by
  have h2 : V.length ≤ maxLen := by unfold maxLen; omega
  have hml : (V.map Dv.av).length = V.length := by simp
  refine zb tbOk (zc Tryz.func22 (by kernel_rfl) rfl) Tryz.func22 rfl _ Tryz.ntmps22 (Nat.le_of_ble_eq_true rfl) fun X hX => ?_
  subst hX
  repeat (first | ((with_reducible refine zE ?_); refine zF rfl ?_) | ((with_reducible refine yr ?_); refine yu rfl rfl rfl ?_)  | refine zL ?_ | refine zB rfl ?_ | with_reducible (first | refine zG ?_ | refine zH ?_ | refine zY ?_) | ((with_reducible refine zA ?_ ?_); kernel_rfl))
  refine xD (t := 9) (.sl 3 (([] : List Lk).map Lk.av)) rfl (.inr ⟨rfl, 3, rfl⟩) (by decide) ?_
  refine jg (ι := Nat × Dk × List Lk) (fun v i => v (refB + 0) = 0 ∧ DkOk i.2.1 ∧ i.1 ≤ M ∧ i.2.2.length ≤ i.1 ∧ ji N V [] (M - i.1) i.1 i.2.1 i.2.2 = ji N V [] M 0 D []) (fun i => M - i.1) (fun v i => [(0, .ptr (refB + 0) (v (refB + 0)) 0), (2, .sl 1 []), (3, .v (.int .i64 (M : Nat))), (5, .ptr 5 (v 5) 0), (9, .sl 3 (i.2.2.map Lk.av)), (10, .v (.int .i64 (i.1 : Nat)))]) (fun v i => [(refB + 0, .box i.2.1.cells), (5, .box [.sl 3 (N.map Nd.av), .sl 5 (V.map Dv.av)])]) ?_ ?_
  · exact ⟨(0, D, []), ⟨rfl, hD, Nat.zero_le _, Nat.le_refl _, rfl⟩, trivial, ⟨rfl, rfl, rfl, rfl, rfl, rfl, trivial⟩, ⟨rfl, rfl, trivial⟩⟩
  rintro v ⟨i, E, L⟩ ⟨hv0, hE, hi, hl, hf⟩
  simp only at hv0 hE hi hl hf
  dsimp only
  repeat (first | ((with_reducible refine zK ?_); refine zJ rfl ?_) | ((with_reducible refine zQ ?_); refine zT rfl rfl rfl ?_)  | refine zB rfl ?_ | with_reducible refine zH ?_ | ((with_reducible refine zA ?_ ?_); kernel_rfl))
  refine zv rfl rfl (fun b1 => ?_) (fun b1 => ?_)
  · have hlt : i < M := by simp at b1; omega
    obtain ⟨m, hm1, hm2⟩ : ∃ m, M - i = m + 1 ∧ M - (i + 1) = m := ⟨M - 1 - i, by omega, by omega⟩
    have b2 : decide (((V.map Dv.av).length : Int) > 0) = true := by rw [hml]; simp; omega
    rw [hm1] at hf
    repeat (first | ((with_reducible refine zK ?_); refine zJ rfl ?_) | ((with_reducible refine zM ?_); refine zI tbOk rfl rfl rfl rfl ?_) | ((with_reducible refine zR ?_); refine zP tbOk rfl rfl rfl rfl rfl ?_) | ((with_reducible refine za ?_); refine zh rfl (by first | rfl | assumption) rfl ?_) | ((with_reducible refine zt ?_); refine yH tbOk rfl rfl ?_) | ((with_reducible refine zQ ?_); refine zT rfl rfl rfl ?_)  | refine zL ?_ | refine zB rfl ?_ | refine yC rfl rfl (by first | rfl | assumption) ?_ | with_reducible (first | refine zG ?_ | refine zH ?_ | refine zY ?_ | refine zS ?_) | ((with_reducible refine zA ?_ ?_); kernel_rfl) | refine zn rfl (by first | rfl | assumption) ?_)
    refine zD (ss := [(refB + 0, v (refB + 0))]) (one_A E 3 hE (by omega) (by omega)) (by simp) (in1 rfl rfl) rfl (ya rfl) ?_
    repeat (first   | refine zL ?_ | with_reducible refine zG ?_ )
    refine zZ rfl (fun h => ?_) (fun h => ?_)
    · have h0 : E.val 3 = 0 := by simpa using h
      have eS : bB N V [] i E L = (E.next, L) := by unfold bB; rw [if_pos h0]
      rw [ji, eS] at hf
      repeat (first | ((with_reducible refine zK ?_); refine zJ rfl ?_) | ((with_reducible refine zE ?_); refine zF rfl ?_) | ((with_reducible refine zQ ?_); refine zg rfl rfl (by omega) ?_)  | refine zL ?_ | refine zB rfl ?_ | with_reducible (first | refine zG ?_ | refine zo ?_ | refine yB ?_) | ((with_reducible refine ze ?_ ?_); rfl) | ((with_reducible refine zA ?_ ?_); kernel_rfl))
      exact ⟨(i + 1, E.next, L), ⟨hv0, hE.next, by show i + 1 ≤ M; omega, by show L.length ≤ i + 1; omega, by show ji N V [] (M - (i + 1)) (i + 1) E.next L = _; rw [hm2]; exact hf⟩, by show M - (i + 1) < M - i; omega, ⟨rfl, rfl, rfl, rfl, rfl, rfl, trivial⟩, ⟨rfl, rfl, trivial⟩⟩
    have h0 : ¬ E.val 3 = 0 := by simpa using h
    have hn := jJ (G := X.G) E.next ((V.map Dv.av).length : Int) hE.next (by omega) (by omega)
    have r := E.next.val_range (n := ((V.map Dv.av).length : Int)) (by omega)
    have rlt := r.2.1 (by omega)
    obtain ⟨d, hd⟩ := Int.eq_ofNat_of_zero_le r.1
    rw [hd] at hn rlt
    have b3 : decide ((d : Int) < (([] : List AV).length : Int)) = false := by simp
    have r3 := E.next.next.val_range (n := 3) (by omega)
    have a3 := r3.2.1 (by omega)
    have ek : lkN [] i E V.length = ⟨(d : Int), 1, 10 + 3 * (i : Int) + E.next.next.val 3⟩ := by
      rw [hml] at hd
      unfold lkN posS
      rw [hd]
      simp
    have hA := radd_A (G := X.G) N V L ⟨(d : Int), 1, 10 + 3 * (i : Int) + E.next.next.val 3⟩ hN hV h1 h2 (by unfold maxLen; omega)
    have hlen := pD N V L ⟨(d : Int), 1, 10 + 3 * (i : Int) + E.next.next.val 3⟩
    have eS : bB N V [] i E L = (E.next.next.next, if (addK N V L ⟨(d : Int), 1, 10 + 3 * (i : Int) + E.next.next.val 3⟩).2 = 0 then (addK N V L ⟨(d : Int), 1, 10 + 3 * (i : Int) + E.next.next.val 3⟩).1 else L) := by unfold bB; rw [if_neg h0, ek]
    rw [ji, eS] at hf
    generalize addK N V L ⟨(d : Int), 1, 10 + 3 * (i : Int) + E.next.next.val 3⟩ = Q at hA hlen hf
    obtain ⟨Q, e⟩ := Q
    simp only at hA hlen hf
    have hw : IntKind.i64.wrap (IntKind.i64.wrap (10 + IntKind.i64.wrap (3 * (i : Int))) + E.next.next.val 3) = 10 + 3 * (i : Int) + E.next.next.val 3 := by
      rw [yg (z := 3 * (i : Int)) (by omega), yg (z := 10 + 3 * (i : Int)) (by omega), yg (by omega)]
    rw [← hw] at hA
    repeat (first | ((with_reducible refine zK ?_); refine zJ rfl ?_) | ((with_reducible refine zM ?_); refine zI tbOk rfl rfl rfl rfl ?_) | ((with_reducible refine zR ?_); refine zP tbOk rfl rfl rfl rfl rfl ?_) | ((with_reducible refine zt ?_); refine yH tbOk rfl rfl ?_)  | refine zB rfl ?_ | with_reducible (first | refine zG ?_ | refine zH ?_ | refine zS ?_) | ((with_reducible refine zA ?_ ?_); kernel_rfl))
    refine zD (ss := [(refB + 0, v (refB + 0))]) (hn) (by simp) (in1 rfl rfl) rfl (ya rfl) ?_
    repeat (first | ((with_reducible refine zK ?_); refine zJ rfl ?_) | ((with_reducible refine zE ?_); refine zF rfl ?_) | ((with_reducible refine zR ?_); refine zk tbOk rfl rfl rfl rfl (Nat.le_of_ble_eq_true rfl) ?_) | ((with_reducible refine za ?_); refine zf rfl (by first | rfl | assumption) rfl ?_) | ((with_reducible refine zt ?_); refine yH tbOk rfl rfl ?_) | ((with_reducible refine zQ ?_); refine zT rfl rfl rfl ?_)  | refine zL ?_ | refine zB rfl ?_ | refine yE rfl rfl (by first | rfl | assumption) ?_ | with_reducible (first | refine zG ?_ | refine zH ?_ | refine zS ?_) | ((with_reducible refine zA ?_ ?_); kernel_rfl) | ((with_reducible refine yZ mixd ?_ ?_); kernel_rfl) | refine yF rfl (by first | rfl | assumption) ?_)
    refine zD (ss := [(refB + 0, v (refB + 0))]) (jJ E.next.next 3 hE.next.next (by omega) (by omega)) (by simp) (in1 rfl rfl) rfl (ya rfl) ?_
    repeat (first | ((with_reducible refine yM ?_); refine yN tbOk rfl rfl rfl rfl rfl ?_) | ((with_reducible refine zQ ?_); refine zT rfl rfl rfl ?_)  | refine zB rfl ?_  )
    refine zC (hA) ?_
    repeat (first | ((with_reducible refine zK ?_); refine zJ rfl ?_) | ((with_reducible refine zE ?_); refine zF rfl ?_) | ((with_reducible refine ye ?_); refine yd rfl rfl ?_) | ((with_reducible refine zQ ?_); refine zT rfl rfl rfl ?_)  | refine zL ?_ | refine yf (by kernel_rfl) ?_ | refine zB rfl ?_ | with_reducible (first | refine zG ?_ | refine zH ?_) | ((with_reducible refine zA ?_ ?_); kernel_rfl))
    refine zZ rfl (fun h => ?_) (fun h => ?_)
    · have he : e = 0 := by simpa using h
      rw [if_pos he] at hf
      repeat (first | ((with_reducible refine zK ?_); refine zJ rfl ?_) | ((with_reducible refine zE ?_); refine zF rfl ?_) | ((with_reducible refine zQ ?_); refine zg rfl rfl (by omega) ?_)  | refine zL ?_ | refine zB rfl ?_ | with_reducible (first | refine zG ?_ | refine zu ?_) | ((with_reducible refine zA ?_ ?_); kernel_rfl))
      exact ⟨(i + 1, E.next.next.next, Q), ⟨hv0, hE.next.next.next, by show i + 1 ≤ M; omega, by show Q.length ≤ i + 1; omega, by show ji N V [] (M - (i + 1)) (i + 1) E.next.next.next Q = _; rw [hm2]; exact hf⟩, by show M - (i + 1) < M - i; omega, ⟨rfl, rfl, rfl, rfl, rfl, rfl, trivial⟩, ⟨rfl, rfl, trivial⟩⟩
    · have he : ¬ e = 0 := by simpa using h
      rw [if_neg he] at hf
      repeat (first | ((with_reducible refine zK ?_); refine zJ rfl ?_) | ((with_reducible refine zE ?_); refine zF rfl ?_) | ((with_reducible refine zQ ?_); refine zg rfl rfl (by omega) ?_)  | refine zL ?_ | refine zB rfl ?_ | with_reducible (first | refine zG ?_ | refine zu ?_ | refine zS ?_) | ((with_reducible refine zA ?_ ?_); kernel_rfl))
      exact ⟨(i + 1, E.next.next.next, L), ⟨hv0, hE.next.next.next, by show i + 1 ≤ M; omega, by show L.length ≤ i + 1; omega, by show ji N V [] (M - (i + 1)) (i + 1) E.next.next.next L = _; rw [hm2]; exact hf⟩, by show M - (i + 1) < M - i; omega, ⟨rfl, rfl, rfl, rfl, rfl, rfl, trivial⟩, ⟨rfl, rfl, trivial⟩⟩
  · obtain rfl : i = M := by simp at b1; omega
    have hf' : ji N V [] i 0 D [] = (E, L) := by rw [← hf, Nat.sub_self]; rfl
    rw [hf']
    repeat (first | ((with_reducible refine zK ?_); refine zJ rfl ?_) | ((with_reducible refine zE ?_); refine zF rfl ?_) | ((with_reducible refine za ?_); refine zf rfl (by first | rfl | assumption) rfl ?_)  | refine zL ?_ | refine zB rfl ?_ | refine yE rfl rfl (by first | rfl | assumption) ?_ | with_reducible (first | refine zG ?_ | refine zo ?_ | refine zH ?_ | refine yB ?_ | refine zN ?_) | ((with_reducible refine ze ?_ ?_); rfl) | ((with_reducible refine zA ?_ ?_); kernel_rfl) | refine yF rfl (by first | rfl | assumption) ?_)
    refine ret1_1 (by first | exact .inr rfl | exact .inl rfl) rfl rfl ?_ rfl hv0 (by repeat' (first | exact trivial | exact Ren.v _ | exact Ren.sl _ _ | exact Ren.ep _ | exact Ren.ptr _ _ _ _ rfl | exact Ren.bs _ _ _ _ _ rfl | exact Ren.nil _ | exact Ren.own _ _ _ _ ⟨_, rfl⟩ | refine zi ?_ | refine zj ?_ | refine zl ?_ | refine ⟨?_, ?_⟩))
    repeat' (first | exact trivial | exact Ren.v _ | exact Ren.sl _ _ | exact Ren.ep _ | exact Ren.ptr _ _ _ _ rfl | exact Ren.bs _ _ _ _ _ rfl | exact Ren.nil _ | exact Ren.own _ _ _ _ ⟨_, rfl⟩ | refine zi ?_ | refine zj ?_ | refine zl ?_ | refine ⟨?_, ?_⟩)
theorem eU (N : List Nd) (V : List Dv) (S : List Int) : ∀ (m i : Nat) (D : Dk) (L : List Lk), DkOk D → DkOk (ji N V S m i D L).1
  | 0, _, D, L, h => h
  | m + 1, i, D, L, h => by
    rw [ji]
    refine eU N V S m (i + 1) _ _ ?_
    unfold bB
    split
    · exact h.next
    · exact h.next.next.next
theorem nC {TB : Tabs} {σ : AS} {fn : Func} {ex : Exit} {t s k k0 e sz : Nat} {c c' L : List AV} (he : ex = .normal ∨ ex = .ret) (hfn : fn.results = #[.tmp t]) (hT : σ.T t = .own s k) (hH0 : σ.H (refB + 0) = ⟨k0, .box c'⟩) (hk0 : k0 = 0) (hc : RenL noB (πs [(refB + 0, 0), (s, k)]) c c') (hHs : σ.H s = ⟨k, .buf e sz L⟩) (hs : ¬ refB + 0 = s) : RetJ TB fn 2 (.own (refB + 1) 0) [.box c, .buf e sz L] ex σ := by
  subst hk0
  refine retJ he (xs := [.own s k]) (fs := [(refB + 0, 0), (s, k)]) ?_ (by simp; exact hs) (Ren.ownr _ _ _ rfl) ⟨⟨⟨c', hH0, hc⟩, fun _ => ⟨rfl, rfl⟩⟩, hHs, trivial⟩
  rw [hfn, ← hT]
  exact ⟨.tmp t, trivial⟩
set_option maxHeartbeats 4000000 in
theorem set_J (n k : Nat) (D : Dk) (hD : DkOk D) (hn : n ≤ 1000) (hk : k ≤ 1000) :
    qw Tryz.prog G 75 [.ptr (refB + 0) 0 0, .v (.int .i64 (n : Nat)), .v (.int .i64 (k : Nat))] [.box D.cells, .buf 3 1 []] (.own (refB + 1) 0) [.box (setP n k D).1.cells, .buf 3 1 ((setP n k D).2.map iv)] := by
  refine qe tbOk (zc Tryz.func75 (by kernel_rfl) rfl) Tryz.func75 rfl _ Tryz.ntmps75 (Nat.le_of_ble_eq_true rfl) fun X hX => ?_
  subst hX
  repeat (first | ((with_reducible refine zE ?_); refine zF rfl ?_)  | refine zL ?_ | refine zB rfl ?_ | with_reducible (first | refine zG ?_ | refine zH ?_ | refine zY ?_) | ((with_reducible refine zA ?_ ?_); kernel_rfl))
  refine fX (t := 7) (s := 25) 3 1 rfl rfl ?_
  refine jg (ι := Nat × Dk × List Int) (fun v i => v (refB + 0) = 0 ∧ DkOk i.2.1 ∧ i.1 ≤ n ∧ i.2.2.length ≤ k ∧ fG k (n - i.1) i.1 i.2.1 i.2.2 = setP n k D) (fun i => n - i.1) (fun v i => [(0, .ptr (refB + 0) (v (refB + 0)) 0), (1, .v (.int .i64 (n : Nat))), (2, .v (.int .i64 (k : Nat))), (7, .own 25 (v 25)), (8, .v (.int .i64 (i.1 : Nat)))]) (fun v i => [(refB + 0, .box i.2.1.cells), (25, .buf 3 1 (i.2.2.map iv))]) ?_ ?_
  · exact ⟨(0, D, []), ⟨rfl, hD, Nat.zero_le _, Nat.zero_le _, rfl⟩, trivial, ⟨rfl, rfl, rfl, rfl, rfl, trivial⟩, ⟨rfl, rfl, trivial⟩⟩
  rintro v ⟨i, E, L⟩ ⟨hv0, hE, hi, hl, hf⟩
  dsimp only at hv0 hE hi hl hf ⊢
  have hml : (L.map iv).length = L.length := by simp
  repeat (first | ((with_reducible refine zK ?_); refine zJ rfl ?_) | ((with_reducible refine zQ ?_); refine zT rfl rfl rfl ?_)  | refine zB rfl ?_ | with_reducible refine zH ?_ | ((with_reducible refine zA ?_ ?_); kernel_rfl))
  refine zv rfl rfl (fun b1 => ?_) (fun b1 => ?_)
  · have hlt : i < n := by simp at b1; omega
    obtain ⟨m, hm1, hm2⟩ : ∃ m, n - i = m + 1 ∧ n - (i + 1) = m := ⟨n - 1 - i, by omega, by omega⟩
    rw [hm1, fG] at hf
    repeat (first | ((with_reducible refine zK ?_); refine zJ rfl ?_) | ((with_reducible refine za ?_); refine zh rfl (by first | rfl | assumption) rfl ?_) | ((with_reducible refine zt ?_); refine aC tbOk rfl rfl rfl rfl ?_) | ((with_reducible refine zQ ?_); refine zT rfl rfl rfl ?_)  | refine zL ?_ | refine zB rfl ?_ | refine yC rfl rfl (by first | rfl | assumption) ?_ | with_reducible refine zG ?_ )
    refine zZ rfl (fun c => ?_) (fun c => ?_)
    · rw [if_neg (by simp at c; omega)] at hf
      have hl2 : L.length < k := by simp at c; omega
      repeat (first | ((with_reducible refine zK ?_); refine zJ rfl ?_)  | refine zB rfl ?_ | with_reducible (first | refine zG ?_ | refine zH ?_ | refine zY ?_ | refine zS ?_) | ((with_reducible refine zA ?_ ?_); kernel_rfl))
      refine zD (ss := [(refB + 0, v (refB + 0))]) (one_A E 3 hE (by omega) (by omega)) (by simp) (in1 rfl rfl) rfl (ya rfl) ?_
      repeat (first   | refine zL ?_ | with_reducible refine zG ?_ )
      refine zZ rfl (fun h => ?_) (fun h => ?_)
      · have h0 : E.val 3 = 0 := by simpa using h
        rw [if_pos h0] at hf
        repeat (first | ((with_reducible refine zK ?_); refine zJ rfl ?_) | ((with_reducible refine zr ?_); refine zx tbOk rfl rfl rfl rfl rfl (by omega) rfl rfl rfl ?_) | refine zB rfl ?_  | ((with_reducible refine zA ?_ ?_); kernel_rfl))
        refine yG tbOk rfl rfl rfl rfl rfl (by decide) rfl rfl rfl rfl rfl (fun x hx => by simp at hx; subst hx; rfl) (by simp only [List.length_map, List.length_cons, List.length_nil]; omega) (by simp only [List.length_map, List.length_cons, List.length_nil]; omega) ?_
        repeat (first | ((with_reducible refine zK ?_); refine zJ rfl ?_) | ((with_reducible refine zE ?_); refine zF rfl ?_) | ((with_reducible refine zQ ?_); refine zg rfl rfl (by omega) ?_)  | refine zL ?_ | refine zB rfl ?_ | with_reducible (first | refine zG ?_ | refine zu ?_) | ((with_reducible refine zA ?_ ?_); kernel_rfl))
        exact ⟨(i + 1, E.next, L ++ [(i : Int)]), ⟨hv0, hE.next, by show i + 1 ≤ n; omega, by simp; omega, by show fG k (n - (i + 1)) (i + 1) E.next (L ++ [(i : Int)]) = _; rw [hm2]; exact hf⟩, by show n - (i + 1) < n - i; omega, ⟨rfl, rfl, rfl, rfl, rfl, trivial⟩, ⟨rfl, jr (by rw [List.map_append]; rfl), trivial⟩⟩
      · have h0 : ¬ E.val 3 = 0 := by simpa using h
        rw [if_neg h0] at hf
        repeat (first | ((with_reducible refine zK ?_); refine zJ rfl ?_) | ((with_reducible refine zE ?_); refine zF rfl ?_) | ((with_reducible refine zQ ?_); refine zg rfl rfl (by omega) ?_)  | refine zL ?_ | refine zB rfl ?_ | with_reducible (first | refine zG ?_ | refine zu ?_ | refine zS ?_) | ((with_reducible refine zA ?_ ?_); kernel_rfl))
        exact ⟨(i + 1, E.next, L), ⟨hv0, hE.next, by show i + 1 ≤ n; omega, hl, by show fG k (n - (i + 1)) (i + 1) E.next L = _; rw [hm2]; exact hf⟩, by show n - (i + 1) < n - i; omega, ⟨rfl, rfl, rfl, rfl, rfl, trivial⟩, ⟨rfl, rfl, trivial⟩⟩
    · rw [if_pos (by simp at c; omega)] at hf
      rw [← hf]
      repeat (first | ((with_reducible refine zK ?_); refine zJ rfl ?_) | ((with_reducible refine zE ?_); refine zF rfl ?_)  | refine zL ?_ | refine zB rfl ?_ | with_reducible (first | refine zG ?_ | refine zo ?_ | refine zH ?_ | refine yB ?_ | refine zN ?_) | ((with_reducible refine ze ?_ ?_); rfl) | ((with_reducible refine zA ?_ ?_); kernel_rfl))
      exact nC (by first | exact .inr rfl | exact .inl rfl) rfl rfl rfl hv0 (by repeat' (first | exact trivial | exact Ren.v _ | exact Ren.sl _ _ | exact Ren.ep _ | exact Ren.ptr _ _ _ _ rfl | exact Ren.ownr _ _ _ rfl | exact Ren.bs _ _ _ _ _ rfl | refine zi ?_ | refine zj ?_ | refine zl ?_ | refine ⟨?_, ?_⟩)) rfl (by decide)
  · have hge : n - i = 0 := by simp at b1; omega
    rw [hge] at hf
    have hf' : setP n k D = (E, L) := hf.symm
    rw [hf']
    repeat (first | ((with_reducible refine zK ?_); refine zJ rfl ?_) | ((with_reducible refine zE ?_); refine zF rfl ?_) | ((with_reducible refine za ?_); refine zf rfl (by first | rfl | assumption) rfl ?_)  | refine zL ?_ | refine zB rfl ?_ | refine yE rfl rfl (by first | rfl | assumption) ?_ | with_reducible (first | refine zG ?_ | refine zo ?_ | refine zH ?_ | refine yB ?_ | refine zN ?_) | ((with_reducible refine ze ?_ ?_); rfl) | ((with_reducible refine zA ?_ ?_); kernel_rfl) | refine yF rfl (by first | rfl | assumption) ?_)
    exact nC (by first | exact .inr rfl | exact .inl rfl) rfl rfl rfl hv0 (by repeat' (first | exact trivial | exact Ren.v _ | exact Ren.sl _ _ | exact Ren.ep _ | exact Ren.ptr _ _ _ _ rfl | exact Ren.ownr _ _ _ rfl | exact Ren.bs _ _ _ _ _ rfl | refine zi ?_ | refine zj ?_ | refine zl ?_ | refine ⟨?_, ?_⟩)) rfl (by decide)
set_option maxHeartbeats 4000000 in
theorem zone_J (N : List Nd) (V : List Dv) (D : Dk) (hD : DkOk D) (h0 : 0 < N.length) (hn : N.length ≤ 1000) :
    qw Tryz.prog G 36 [.ptr (refB + 0) 0 0, jo N V] [.box D.cells, .buf 3 1 []] (.own (refB + 1) 0) [.box (fH N.length D).1.cells, .buf 3 1 ((fH N.length D).2.map iv)] := by
  have hnl : (N.map Nd.av).length = N.length := by simp
  have hset := set_J (G := G) (N.map Nd.av).length 2 D hD (by omega) (by omega)
  rw [hnl] at hset
  obtain ⟨hE, hl⟩ := tK (n := N.length) (k := 2) hD
  unfold fH
  obtain ⟨⟨E, L⟩, hEL⟩ : ∃ q, q = setP N.length 2 D := ⟨_, rfl⟩
  rw [← hEL] at hE hl hset ⊢
  dsimp only at hE hl hset ⊢
  have hml : (L.map iv).length = L.length := by simp
  refine qe tbOk (zc Tryz.func36 (by kernel_rfl) rfl) Tryz.func36 rfl _ Tryz.ntmps36 (Nat.le_of_ble_eq_true rfl) fun X hX => ?_
  subst hX
  repeat (first | ((with_reducible refine zE ?_); refine zF rfl ?_) | ((with_reducible refine zM ?_); refine zI tbOk rfl rfl rfl rfl ?_) | ((with_reducible refine zR ?_); refine zP tbOk rfl rfl rfl rfl rfl ?_) | ((with_reducible refine yr ?_); refine yu rfl rfl rfl ?_) | ((with_reducible refine zt ?_); refine yH tbOk rfl rfl ?_) | ((with_reducible refine zQ ?_); refine zT rfl rfl rfl ?_)  | refine zL ?_ | refine zB rfl ?_ | with_reducible (first | refine zG ?_ | refine zH ?_) | ((with_reducible refine zA ?_ ?_); kernel_rfl))
  refine zZ rfl (fun h => ?_) (fun h => ?_)
  · exfalso; simp at h; rw [h] at h0; simp at h0
  repeat (first | ((with_reducible refine zK ?_); refine zJ rfl ?_) | ((with_reducible refine zM ?_); refine zI tbOk rfl rfl rfl rfl ?_) | ((with_reducible refine zR ?_); refine zP tbOk rfl rfl rfl rfl rfl ?_) | ((with_reducible refine zt ?_); refine yH tbOk rfl rfl ?_)  | refine zB rfl ?_ | with_reducible (first | refine zG ?_ | refine zH ?_ | refine zS ?_) | ((with_reducible refine zA ?_ ?_); kernel_rfl))
  rw [← hnl] at hset
  refine dW (ss := [(refB + 0, 0), (refB + 1, 0)]) (ss' := [(refB + 0, 0), (refB + 1, 1)]) (cs' := [.box E.cells, .buf 3 1 (L.map iv)]) (y := .own (refB + 1) 1) hset (by repeat' (first | exact trivial | exact Ren.v _ | exact Ren.sl _ _ | exact Ren.ep _ | exact Ren.ptr _ _ _ _ rfl | exact Ren.ownr _ _ _ rfl | exact Ren.bs _ _ _ _ _ rfl | refine zi ?_ | refine zj ?_ | refine zl ?_ | refine ⟨?_, ?_⟩)) (by simp [refB]) ⟨⟨_, rfl, by repeat' (first | exact trivial | exact Ren.v _ | exact Ren.sl _ _ | exact Ren.ep _ | exact Ren.ptr _ _ _ _ rfl | exact Ren.ownr _ _ _ rfl | exact Ren.bs _ _ _ _ _ rfl | refine zi ?_ | refine zj ?_ | refine zl ?_ | refine ⟨?_, ?_⟩)⟩, rfl, trivial⟩ ⟨⟨⟨rfl, rfl⟩, _, rfl, by repeat' (first | exact trivial | exact RenB.v _ | exact RenB.sl _ _ | exact RenB.ep _ | exact RenB.ptr _ _ _ _ rfl | exact RenB.own _ _ _ rfl | refine jX ?_ | refine jW ?_ | refine ⟨?_, ?_⟩)⟩, ⟨⟨rfl, rfl⟩, rfl⟩, trivial⟩ (by repeat' (first | exact trivial | exact RenB.v _ | exact RenB.sl _ _ | exact RenB.ep _ | exact RenB.ptr _ _ _ _ rfl | exact RenB.own _ _ _ rfl | refine jX ?_ | refine jW ?_ | refine ⟨?_, ?_⟩)) ?_
  repeat (first | ((with_reducible refine zK ?_); refine zJ rfl ?_) | ((with_reducible refine zE ?_); refine zF rfl ?_) | ((with_reducible refine zt ?_); refine aC tbOk rfl rfl rfl rfl ?_) | ((with_reducible refine zQ ?_); refine zT rfl rfl rfl ?_)  | refine zL ?_ | refine zB rfl ?_ | with_reducible (first | refine zG ?_ | refine zH ?_) | ((with_reducible refine zA ?_ ?_); kernel_rfl))
  refine zZ rfl (fun h => ?_) (fun h => ?_)
  · have hL : L = [] := List.length_eq_zero_iff.1 (by simp at h; simpa using h)
    rw [if_pos hL]
    have hnx := jJ (G := X.G) E ((N.map Nd.av).length : Int) hE (by omega) (by omega)
    repeat (first | ((with_reducible refine zK ?_); refine zJ rfl ?_) | ((with_reducible refine zM ?_); refine zI tbOk rfl rfl rfl rfl ?_) | ((with_reducible refine zR ?_); refine zP tbOk rfl rfl rfl rfl rfl ?_) | ((with_reducible refine zt ?_); refine yH tbOk rfl rfl ?_) | refine zB rfl ?_  | ((with_reducible refine zA ?_ ?_); kernel_rfl))
    refine zD (ss := [(refB + 0, 0)]) (hnx) (by simp) (in1 rfl rfl) rfl (ya rfl) ?_
    repeat (first  | refine zB rfl ?_  )
    with_reducible refine zr ?_
    refine jR tbOk rfl rfl rfl rfl rfl (by omega) rfl rfl rfl rfl ?_
    repeat (first | ((with_reducible refine zK ?_); refine zJ rfl ?_) | ((with_reducible refine zE ?_); refine zF rfl ?_)  | refine zL ?_ | refine zB rfl ?_ | with_reducible (first | refine zG ?_ | refine zH ?_ | refine zN ?_) | ((with_reducible refine zA ?_ ?_); kernel_rfl))
    rw [← hnl]
    exact nC (by first | exact .inr rfl | exact .inl rfl) rfl rfl rfl rfl (by repeat' (first | exact trivial | exact Ren.v _ | exact Ren.sl _ _ | exact Ren.ep _ | exact Ren.ptr _ _ _ _ rfl | exact Ren.ownr _ _ _ rfl | exact Ren.bs _ _ _ _ _ rfl | refine zi ?_ | refine zj ?_ | refine zl ?_ | refine ⟨?_, ?_⟩)) rfl (by decide)
  · rw [if_neg (fun e => by rw [e] at h; simp at h)]
    repeat (first | ((with_reducible refine zK ?_); refine zJ rfl ?_) | ((with_reducible refine zE ?_); refine zF rfl ?_)  | refine zL ?_ | refine zB rfl ?_ | with_reducible (first | refine zG ?_ | refine zH ?_ | refine zS ?_ | refine zN ?_) | ((with_reducible refine zA ?_ ?_); kernel_rfl))
    exact nC (by first | exact .inr rfl | exact .inl rfl) rfl rfl rfl rfl (by repeat' (first | exact trivial | exact Ren.v _ | exact Ren.sl _ _ | exact Ren.ep _ | exact Ren.ptr _ _ _ _ rfl | exact Ren.ownr _ _ _ rfl | exact Ren.bs _ _ _ _ _ rfl | refine zi ?_ | refine zj ?_ | refine zl ?_ | refine ⟨?_, ?_⟩)) rfl (by decide)
theorem span_A (D : Dk) (hD : DkOk D) : zz Tryz.prog G 37 [.ptr (refB + 0) 0 0, .v (.int .i64 100)] [D.cells] (.ag [.v (.int .i64 (D.val 100)), .v (.int .i64 (D.val 100 + 1 + D.next.val 51))]) [D.next.next.cells] := by
  have h1 := D.in_ (n := 100) (by omega) (by omega)
  have h2 := D.next.in_ (n := 51) (by omega) (by omega)
  refine zb tbOk (zc Tryz.func37 (by kernel_rfl) rfl) Tryz.func37 rfl _ Tryz.ntmps37 (Nat.le_of_ble_eq_true rfl) fun X hX => ?_
  subst hX
  repeat (first | ((with_reducible refine zK ?_); refine zJ rfl ?_) | ((with_reducible refine yR ?_); refine yQ tbOk rfl rfl ?_)  | refine zL ?_ | refine zB rfl ?_ | with_reducible (first | refine zG ?_ | refine zH ?_) | ((with_reducible refine zA ?_ ?_); kernel_rfl))
  refine zD (ss := [(refB + 0, 0)]) (jJ D 100 hD (by omega) (by omega)) (by simp) (in1 rfl rfl) rfl (ya rfl) ?_
  repeat (first | ((with_reducible refine zK ?_); refine zJ rfl ?_) | ((with_reducible refine zE ?_); refine zF rfl ?_) | ((with_reducible refine zQ ?_); (first | refine zg rfl rfl (by omega) ?_ | refine zT rfl rfl rfl ?_ | refine lY rfl rfl (by first | decide | assumption | omega) ?_))  | refine zL ?_ | refine zB rfl ?_ | with_reducible (first | refine zG ?_ | refine zH ?_) | ((with_reducible refine zA ?_ ?_); kernel_rfl))
  refine zD (ss := [(refB + 0, 0)]) (jJ D.next 51 hD.next (by omega) (by omega)) (by simp) (in1 rfl rfl) rfl (ya rfl) ?_
  repeat (first | ((with_reducible refine zp ?_); refine zq tbOk rfl rfl rfl rfl rfl rfl rfl (Nat.le_of_ble_eq_true rfl) rfl ?_) | ((with_reducible refine yM ?_); refine yN tbOk rfl rfl rfl rfl rfl ?_) | ((with_reducible refine zQ ?_); refine zg rfl rfl (by omega) ?_)  | refine zL ?_ | refine zB rfl ?_ | with_reducible (first | refine zG ?_ | refine zN ?_) )
  refine jp (by first | exact .inr rfl | exact .inl rfl) rfl rfl rfl rfl rfl rfl (by first | rfl | assumption) ?_ rfl ?_ rfl <;> rfl
end Go.Proofs.YtjamibeffalhaaaGreatDoor
