/- permitofficemake.Locks with a state, for up to 8 rounds, by the abstract machine; conditions: as many positions as devices, each 1 or 2. -/
import Derived.Test.YtnafokinifbfhaaGreatDoorLcC
set_option linter.unusedVariables false
set_option linter.unusedSimpArgs false
namespace Go.Proofs.YtnafokinifbfhaaGreatDoor
open Go Go.RowKit
set_option maxRecDepth 10000
variable {G : Nat → Option (List Value)}
set_option maxHeartbeats 4000000 in
theorem locksM_A (M : Nat) (hM : M ≤ 8) (D : Dk) (N : List Nd) (V : List Dv) (S : List Int) (hD : DkOk D) (hN : ∀ x ∈ N, x.n.size ≤ maxLen) (hV : ∀ x ∈ V, x.n.size ≤ maxLen) (h1 : N.length ≤ maxLen) (hV0 : 0 < V.length) (hV64 : V.length ≤ 64) (hS : S.length = V.length) (hS2 : ∀ p ∈ S, p = 1 ∨ p = 2) :
    zu Tryz.prog G 27 [.ptr (refB + 0) 0 0, qE N V, .sl 1 (S.map iv), .v (.int .i64 (M : Nat))] [D.cells] (.sl 3 ((jg N V S M 0 D []).2.map Lk.av)) [(jg N V S M 0 D []).1.cells] := by
  have h2 : V.length ≤ maxLen := by unfold maxLen; omega
  have hml : (V.map Dv.av).length = V.length := by simp
  have hsl : (S.map iv).length = S.length := by simp
  refine zf tbOk (zM Tryz.func27 (by kernel_rfl) rfl) Tryz.func27 rfl _ Tryz.ntmps27 (Nat.le_of_ble_eq_true rfl) fun X hX => ?_
  subst hX
  repeat (first | ((with_reducible refine zE ?_); refine zD rfl ?_) | ((with_reducible refine yw ?_); refine yv rfl rfl rfl ?_)  | refine zJ ?_ | refine zB rfl ?_ | with_reducible (first | refine zC ?_ | refine zF ?_ | refine zU ?_) | ((with_reducible refine zA ?_ ?_); kernel_rfl))
  refine awp_slot (t := 9) (.sl 3 (([] : List Lk).map Lk.av)) rfl (.inr ⟨rfl, 3, rfl⟩) (by decide) ?_
  refine jG (ι := Nat × Dk × List Lk) (fun v i => v (refB + 0) = 0 ∧ DkOk i.2.1 ∧ i.1 ≤ M ∧ i.2.2.length ≤ i.1 ∧ jg N V S (M - i.1) i.1 i.2.1 i.2.2 = jg N V S M 0 D []) (fun i => M - i.1) (fun v i => [(0, .ptr (refB + 0) (v (refB + 0)) 0), (2, .sl 1 (S.map iv)), (3, .v (.int .i64 (M : Nat))), (5, .ptr 5 (v 5) 0), (9, .sl 3 (i.2.2.map Lk.av)), (10, .v (.int .i64 (i.1 : Nat)))]) (fun v i => [(refB + 0, .box i.2.1.cells), (5, .box [.sl 3 (N.map Nd.av), .sl 5 (V.map Dv.av)])]) ?_ ?_
  · exact ⟨(0, D, []), ⟨rfl, hD, Nat.zero_le _, Nat.le_refl _, rfl⟩, trivial, ⟨rfl, rfl, rfl, rfl, rfl, rfl, trivial⟩, ⟨rfl, rfl, trivial⟩⟩
  rintro v ⟨i, E, L⟩ ⟨hv0, hE, hi, hl, hf⟩
  simp only at hv0 hE hi hl hf
  dsimp only
  repeat (first | ((with_reducible refine zI ?_); refine zH rfl ?_) | ((with_reducible refine zP ?_); refine zS rfl rfl rfl ?_)  | refine zB rfl ?_ | with_reducible refine zF ?_ | ((with_reducible refine zA ?_ ?_); kernel_rfl))
  refine yD rfl rfl (fun b1 => ?_) (fun b1 => ?_)
  · have hlt : i < M := by simp at b1; omega
    obtain ⟨m, hm1, hm2⟩ : ∃ m, M - i = m + 1 ∧ M - (i + 1) = m := ⟨M - 1 - i, by omega, by omega⟩
    have b2 : decide (((V.map Dv.av).length : Int) > 0) = true := by rw [hml]; simp; omega
    rw [hm1] at hf
    repeat (first | ((with_reducible refine zI ?_); refine zH rfl ?_) | ((with_reducible refine zK ?_); refine zG tbOk rfl rfl rfl rfl ?_) | ((with_reducible refine zO ?_); refine zL tbOk rfl rfl rfl rfl rfl ?_) | ((with_reducible refine zZ ?_); refine zh rfl (by first | rfl | assumption) rfl ?_) | ((with_reducible refine zp ?_); refine yU tbOk rfl rfl ?_) | ((with_reducible refine zP ?_); refine zS rfl rfl rfl ?_)  | refine zJ ?_ | refine zB rfl ?_ | refine zq rfl rfl (by first | rfl | assumption) ?_ | with_reducible (first | refine zC ?_ | refine zF ?_ | refine zU ?_ | refine zN ?_) | ((with_reducible refine zA ?_ ?_); kernel_rfl) | refine yJ rfl (by first | rfl | assumption) ?_)
    refine yW (ss := [(refB + 0, v (refB + 0))]) (kA E 3 hE (by omega) (by omega)) (by repeat' (first | exact trivial | exact Ren.v _ | exact Ren.ptr _ _ _ _ rfl | refine ⟨?_, ?_⟩)) (by simp) (in1 rfl rfl) rfl (ym rfl) (by repeat' exact RenB.v _) ?_
    repeat (first   | refine zJ ?_ | with_reducible refine zC ?_ )
    refine zX rfl (fun h => ?_) (fun h => ?_)
    · have h0 : E.val 3 = 0 := by simpa using h
      have eS : aK N V S i E L = (E.next, L) := by unfold aK; rw [if_pos h0]
      rw [jg, eS] at hf
      repeat (first | ((with_reducible refine zI ?_); refine zH rfl ?_) | ((with_reducible refine zE ?_); refine zD rfl ?_) | ((with_reducible refine zP ?_); refine zY rfl rfl (by omega) ?_)  | refine zJ ?_ | refine zB rfl ?_ | with_reducible (first | refine zC ?_ | refine ze ?_ | refine zr ?_) | ((with_reducible refine za ?_ ?_); rfl) | ((with_reducible refine zA ?_ ?_); kernel_rfl))
      exact ⟨(i + 1, E.next, L), ⟨hv0, hE.next, by show i + 1 ≤ M; omega, by show L.length ≤ i + 1; omega, by show jg N V S (M - (i + 1)) (i + 1) E.next L = _; rw [hm2]; exact hf⟩, by show M - (i + 1) < M - i; omega, ⟨rfl, rfl, rfl, rfl, rfl, rfl, trivial⟩, ⟨rfl, rfl, trivial⟩⟩
    have h0 : ¬ E.val 3 = 0 := by simpa using h
    have hn := jK (G := X.G) E.next ((V.map Dv.av).length : Int) hE.next (by omega) (by omega)
    have r := E.next.val_range (n := ((V.map Dv.av).length : Int)) (by omega)
    have rlt := r.2.1 (by omega)
    obtain ⟨d, hd⟩ := Int.eq_ofNat_of_zero_le r.1
    rw [hd] at hn rlt
    obtain ⟨p, hp⟩ := zT (L := S) (k := d) (by omega)
    have hy : (S.map iv)[d]? = some (iv p) := by rw [List.getElem?_map, hp]; rfl
    have hp12 := hS2 p (List.mem_of_getElem? hp)
    have b3 : decide ((d : Int) < ((S.map iv).length : Int)) = true := by simp only [decide_eq_true_eq]; omega
    have b4 : decide (p > 0) = true := by simp only [decide_eq_true_eq]; omega
    have b5 : decide (p > 2) = false := by simp only [decide_eq_false_iff_not]; omega
    have r3 := E.next.next.val_range (n := 3) (by omega)
    have a3 := r3.2.1 (by omega)
    have ek : lkN S i E V.length = ⟨(d : Int), p, 10 + 3 * (i : Int) + E.next.next.val 3⟩ := by
      rw [hml] at hd
      unfold lkN posS
      rw [hd, Int.toNat_natCast, hp]
    have hA := radd_A (G := X.G) N V L ⟨(d : Int), p, 10 + 3 * (i : Int) + E.next.next.val 3⟩ hN hV h1 h2 (by unfold maxLen; omega)
    have hlen := sH N V L ⟨(d : Int), p, 10 + 3 * (i : Int) + E.next.next.val 3⟩
    have eS : aK N V S i E L = (E.next.next.next, if (addK N V L ⟨(d : Int), p, 10 + 3 * (i : Int) + E.next.next.val 3⟩).2 = 0 then (addK N V L ⟨(d : Int), p, 10 + 3 * (i : Int) + E.next.next.val 3⟩).1 else L) := by unfold aK; rw [if_neg h0, ek]
    rw [jg, eS] at hf
    generalize addK N V L ⟨(d : Int), p, 10 + 3 * (i : Int) + E.next.next.val 3⟩ = Q at hA hlen hf
    obtain ⟨Q, e⟩ := Q
    simp only at hA hlen hf
    have hw : IntKind.i64.wrap (IntKind.i64.wrap (10 + IntKind.i64.wrap (3 * (i : Int))) + E.next.next.val 3) = 10 + 3 * (i : Int) + E.next.next.val 3 := by
      rw [jT (z := 3 * (i : Int)) (by omega), jT (z := 10 + 3 * (i : Int)) (by omega), jT (by omega)]
    rw [← hw] at hA
    repeat (first | ((with_reducible refine zI ?_); refine zH rfl ?_) | ((with_reducible refine zK ?_); refine zG tbOk rfl rfl rfl rfl ?_) | ((with_reducible refine zO ?_); refine zL tbOk rfl rfl rfl rfl rfl ?_) | ((with_reducible refine zp ?_); refine yU tbOk rfl rfl ?_)  | refine zB rfl ?_ | with_reducible (first | refine zC ?_ | refine zF ?_ | refine zN ?_) | ((with_reducible refine zA ?_ ?_); kernel_rfl))
    refine yW (ss := [(refB + 0, v (refB + 0))]) (hn) (by repeat' (first | exact trivial | exact Ren.v _ | exact Ren.ptr _ _ _ _ rfl | refine ⟨?_, ?_⟩)) (by simp) (in1 rfl rfl) rfl (ym rfl) (by repeat' exact RenB.v _) ?_
    repeat (first | ((with_reducible refine zI ?_); refine zH rfl ?_) | ((with_reducible refine zE ?_); refine zD rfl ?_) | ((with_reducible refine zO ?_); (first | refine zk tbOk rfl rfl rfl rfl (Nat.le_of_ble_eq_true rfl) ?_ | refine zm tbOk rfl rfl rfl ?_)) | ((with_reducible refine zZ ?_); refine zh rfl (by first | rfl | assumption) rfl ?_) | ((with_reducible refine zW ?_); refine zb tbOk rfl rfl rfl rfl (by assumption) ?_) | ((with_reducible refine zp ?_); refine yU tbOk rfl rfl ?_) | ((with_reducible refine zP ?_); refine zS rfl rfl rfl ?_)  | refine zJ ?_ | refine zB rfl ?_ | refine zq rfl rfl (by first | rfl | assumption) ?_ | with_reducible (first | refine zC ?_ | refine zF ?_ | refine zN ?_) | ((with_reducible refine zA ?_ ?_); kernel_rfl) | ((with_reducible refine yz mixd ?_ ?_); kernel_rfl) | refine yJ rfl (by first | rfl | assumption) ?_ | refine zy rfl (by first | rfl | assumption) ?_)
    refine yW (ss := [(refB + 0, v (refB + 0))]) (jK E.next.next 3 hE.next.next (by omega) (by omega)) (by repeat' (first | exact trivial | exact Ren.v _ | exact Ren.ptr _ _ _ _ rfl | refine ⟨?_, ?_⟩)) (by simp) (in1 rfl rfl) rfl (ym rfl) (by repeat' exact RenB.v _) ?_
    repeat (first | ((with_reducible refine kD ?_); refine kK tbOk rfl rfl rfl rfl rfl ?_) | ((with_reducible refine zP ?_); refine zS rfl rfl rfl ?_)  | refine zB rfl ?_  )
    refine zl (hA) (by repeat' (first | exact trivial | exact Ren.v _ | exact Ren.sl _ _ | refine zn ?_ | refine ⟨?_, ?_⟩)) (by repeat' (first | exact trivial | exact RenB.v _ | exact RenB.sl _ _ | refine yM ?_ | refine ⟨?_, ?_⟩)) ?_
    repeat (first | ((with_reducible refine zI ?_); refine zH rfl ?_) | ((with_reducible refine zE ?_); refine zD rfl ?_) | ((with_reducible refine jP ?_); refine jN rfl rfl ?_) | ((with_reducible refine zP ?_); refine zS rfl rfl rfl ?_)  | refine zJ ?_ | refine jD (by kernel_rfl) ?_ | refine zB rfl ?_ | with_reducible (first | refine zC ?_ | refine zF ?_) | ((with_reducible refine zA ?_ ?_); kernel_rfl))
    refine zX rfl (fun h => ?_) (fun h => ?_)
    · have he : e = 0 := by simpa using h
      rw [if_pos he] at hf
      repeat (first | ((with_reducible refine zI ?_); refine zH rfl ?_) | ((with_reducible refine zE ?_); refine zD rfl ?_) | ((with_reducible refine zP ?_); refine zY rfl rfl (by omega) ?_)  | refine zJ ?_ | refine zB rfl ?_ | with_reducible (first | refine zC ?_ | refine zd ?_) | ((with_reducible refine zA ?_ ?_); kernel_rfl))
      exact ⟨(i + 1, E.next.next.next, Q), ⟨hv0, hE.next.next.next, by show i + 1 ≤ M; omega, by show Q.length ≤ i + 1; omega, by show jg N V S (M - (i + 1)) (i + 1) E.next.next.next Q = _; rw [hm2]; exact hf⟩, by show M - (i + 1) < M - i; omega, ⟨rfl, rfl, rfl, rfl, rfl, rfl, trivial⟩, ⟨rfl, rfl, trivial⟩⟩
    · have he : ¬ e = 0 := by simpa using h
      rw [if_neg he] at hf
      repeat (first | ((with_reducible refine zI ?_); refine zH rfl ?_) | ((with_reducible refine zE ?_); refine zD rfl ?_) | ((with_reducible refine zP ?_); refine zY rfl rfl (by omega) ?_)  | refine zJ ?_ | refine zB rfl ?_ | with_reducible (first | refine zC ?_ | refine zd ?_ | refine zN ?_) | ((with_reducible refine zA ?_ ?_); kernel_rfl))
      exact ⟨(i + 1, E.next.next.next, L), ⟨hv0, hE.next.next.next, by show i + 1 ≤ M; omega, by show L.length ≤ i + 1; omega, by show jg N V S (M - (i + 1)) (i + 1) E.next.next.next L = _; rw [hm2]; exact hf⟩, by show M - (i + 1) < M - i; omega, ⟨rfl, rfl, rfl, rfl, rfl, rfl, trivial⟩, ⟨rfl, rfl, trivial⟩⟩
  · obtain rfl : i = M := by simp at b1; omega
    have hf' : jg N V S i 0 D [] = (E, L) := by rw [← hf, Nat.sub_self]; rfl
    rw [hf']
    repeat (first | ((with_reducible refine zI ?_); refine zH rfl ?_) | ((with_reducible refine zE ?_); refine zD rfl ?_) | ((with_reducible refine zZ ?_); refine zi rfl (by first | rfl | assumption) rfl ?_)  | refine zJ ?_ | refine zB rfl ?_ | refine yH rfl rfl (by first | rfl | assumption) ?_ | with_reducible (first | refine zC ?_ | refine ze ?_ | refine zF ?_ | refine zr ?_ | refine zQ ?_) | ((with_reducible refine za ?_ ?_); rfl) | ((with_reducible refine zA ?_ ?_); kernel_rfl) | refine zy rfl (by first | rfl | assumption) ?_)
    refine eB (by first | exact .inr rfl | exact .inl rfl) rfl rfl ?_ rfl hv0 (by repeat' (first | exact trivial | exact Ren.v _ | exact Ren.sl _ _ | refine ⟨?_, ?_⟩))
    repeat' exact Ren.sl _ _
end Go.Proofs.YtnafokinifbfhaaGreatDoor
