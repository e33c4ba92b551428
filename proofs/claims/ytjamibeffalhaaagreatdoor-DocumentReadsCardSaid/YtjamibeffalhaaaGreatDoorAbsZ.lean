/- A cut in a walk: ways that part come together in one state; conditions: none / Deck.One, by the abstract machine; conditions: none / permitofficeref14.Add and permitofficemake.Locks, by the abstract machine: the locks that it makes are valid; conditions: none / Documents that a deck makes, by plain functions; nothing of the program stands here / Parts of own buffers: sliced, measured, and laid behind one another in place; conditions: tables of types that agree with the program's. -/
import Derived.Test.YtjamibeffalhaaaGreatDoorAbsX
import Derived.Test.YtjamibeffalhaaaGreatDoorNetA
import Derived.Test.YtjamibeffalhaaaGreatDoorLcA
import Derived.Test.YtjamibeffalhaaaGreatDoorDcP
set_option linter.unusedVariables false
set_option linter.unusedSimpArgs false
namespace Go.Proofs.YtjamibeffalhaaaGreatDoor
open Go Go.RowKit
section
variable {P : Program} {X : Ctx} {n : Nat} {σ : AS} {Q Q' : Exit → AS → Prop}
theorem awp_via {ι : Type} (ok : (Nat → Nat) → ι → Prop) (lT : (Nat → Nat) → ι → List (Nat × AV)) (lH : (Nat → Nat) → ι → List (Nat × Cont)) {c y : Code}
    (h1 : AWp P X n c (cD (fun τ => At ok lT lH τ fun _ => True) Q') σ) (h2 : ∀ v i, ok v i → AWp P X n y Q (st v (lT v i) (lH v i))) : AWp P X n c (cD (AWp P X n y Q) Q') σ := by
  refine ⟨fun M ρ a w hR => wp_mono (h1.run M ρ a w hR) ?_⟩
  rintro e a' w' ⟨M', ρ', σ', hR', hQ⟩
  cases e with
  | normal =>
    obtain ⟨j, hj, -, h3, h4⟩ := hQ
    exact ⟨M', ρ', σ', hR', AWp.weak (oL h3 h4) (h2 _ j hj)⟩
  | _ => exact ⟨M', ρ', σ', hR', hQ⟩
end
end Go.Proofs.YtjamibeffalhaaaGreatDoor
namespace Go.Proofs.YtjamibeffalhaaaGreatDoor
open Go Go.RowKit
set_option maxRecDepth 10000
variable {G : Nat → Option (List Value)}
theorem one_A (D : Dk) (n : Int) (hD : DkOk D) (h1 : -9223372036854775808 ≤ n) (h2 : n ≤ 9223372036854775807) : zz Tryz.prog G 19 [.ptr (refB + 0) 0 0, .v (.int .i64 n)] [D.cells] (.v (.bool (D.val n == 0))) [D.next.cells] := by
  refine zb tbOk (zc Tryz.func19 (by kernel_rfl) rfl) Tryz.func19 rfl _ Tryz.ntmps19 (Nat.le_of_ble_eq_true rfl) fun X hX => ?_
  subst hX
  repeat (first | ((with_reducible refine zK ?_); refine zJ rfl ?_) | ((with_reducible refine zE ?_); refine zF rfl ?_)  | refine zL ?_ | refine zB rfl ?_ | with_reducible (first | refine zG ?_ | refine zH ?_) | ((with_reducible refine zA ?_ ?_); kernel_rfl))
  refine zD (ss := [(refB + 0, 0)]) (jJ D n hD h1 h2) (by simp) (in1 rfl rfl) rfl (ya rfl) ?_
  repeat (first | ((with_reducible refine zE ?_); refine zF rfl ?_) | ((with_reducible refine zQ ?_); refine zT rfl rfl rfl ?_)  | refine zL ?_ | refine zB rfl ?_ | with_reducible (first | refine zG ?_ | refine zN ?_) )
  refine jG (by first | exact .inr rfl | exact .inl rfl) rfl rfl rfl (by first | rfl | assumption) ?_ ?_ (by repeat' (first | exact trivial | exact Ren.v _ | exact Ren.sl _ _ | exact Ren.ep _ | exact Ren.ptr _ _ _ _ rfl | exact Ren.bs _ _ _ _ _ rfl | exact Ren.nil _ | exact Ren.own _ _ _ _ ⟨_, rfl⟩ | refine zi ?_ | refine zj ?_ | refine zl ?_ | refine ⟨?_, ?_⟩)) <;> rfl
end Go.Proofs.YtjamibeffalhaaaGreatDoor
namespace Go.Proofs.YtjamibeffalhaaaGreatDoor
open Go Go.RowKit
set_option maxRecDepth 10000
variable {G : Nat → Option (List Value)}
theorem lowK_at {L : List Lk} {a : Nat} {x k : Lk} (h : L[a]? = some x) : lowK k (L.drop a) = if befB x k = true then lowK k (L.drop (a + 1)) + 1 else 0 := by rw [yT h]; rfl
theorem rY (L : List Lk) : ∀ x ∈ L.map Lk.av, js x.cells = true := by
  intro x hx
  obtain ⟨r, _, rfl⟩ := List.mem_map.1 hx
  rfl
set_option maxHeartbeats 4000000 in
theorem radd_A (N : List Nd) (V : List Dv) (L : List Lk) (k : Lk) (hN : ∀ x ∈ N, x.n.size ≤ maxLen) (hV : ∀ x ∈ V, x.n.size ≤ maxLen) (h1 : N.length ≤ maxLen) (h2 : V.length ≤ maxLen) (h3 : L.length ≤ maxLen) :
    zz Tryz.prog G 61 [jo N V, .sl 3 (L.map Lk.av), k.av] [] (.tu [.sl 3 ((addK N V L k).1.map Lk.av), .v (.int .i64 (addK N V L k).2)]) [] := by
  have hml : (L.map Lk.av).length = L.length := by simp
  have hm9 : L.length ≤ 9223372036854775807 := by unfold maxLen at h3; omega
  refine zb tbOk (zc Tryz.func61 (by kernel_rfl) rfl) Tryz.func61 rfl _ Tryz.ntmps61 (Nat.le_of_ble_eq_true rfl) fun X hX => ?_
  subst hX
  unfold addK
  repeat (first | ((with_reducible refine zK ?_); refine zJ rfl ?_) | ((with_reducible refine zE ?_); refine zF rfl ?_) | ((with_reducible refine zR ?_); refine zk tbOk rfl rfl rfl rfl (Nat.le_of_ble_eq_true rfl) ?_) | ((with_reducible refine yr ?_); refine yu rfl rfl rfl ?_)  | refine zL ?_ | refine zB rfl ?_ | with_reducible (first | refine zG ?_ | refine zH ?_) | ((with_reducible refine zA ?_ ?_); kernel_rfl))
  refine zC (oU N V L hN hV h1 h2) ?_
  repeat (first | ((with_reducible refine zK ?_); refine zJ rfl ?_) | ((with_reducible refine zE ?_); refine zF rfl ?_) | ((with_reducible refine zQ ?_); refine zT rfl rfl rfl ?_)  | refine zL ?_ | refine zB rfl ?_ | with_reducible (first | refine zG ?_ | refine zH ?_) | ((with_reducible refine zA ?_ ?_); kernel_rfl))
  refine zZ rfl (fun h => ?_) (fun h => ?_)
  · rw [if_pos (by simpa using h)]
    repeat (first | ((with_reducible refine zK ?_); refine zJ rfl ?_) | ((with_reducible refine zE ?_); refine zF rfl ?_)  | refine zL ?_ | refine zB rfl ?_ | with_reducible (first | refine zG ?_ | refine zO ?_ | refine zH ?_ | refine zN ?_) | ((with_reducible refine zA ?_ ?_); kernel_rfl))
    refine yp (by first | exact .inr rfl | exact .inl rfl) rfl rfl rfl ?_
    repeat' (first | exact trivial | exact Ren.v _ | exact Ren.sl _ _ | exact Ren.ep _ | exact Ren.ptr _ _ _ _ rfl | exact Ren.bs _ _ _ _ _ rfl | exact Ren.nil _ | exact Ren.own _ _ _ _ ⟨_, rfl⟩ | refine zi ?_ | refine zj ?_ | refine zl ?_ | refine ⟨?_, ?_⟩)
  rw [if_neg (by simpa using h)]
  repeat (first | ((with_reducible refine zR ?_); refine zk tbOk rfl rfl rfl rfl (Nat.le_of_ble_eq_true rfl) ?_)  | refine zB rfl ?_ | with_reducible (first | refine zG ?_ | refine zH ?_ | refine zS ?_) | ((with_reducible refine zA ?_ ?_); kernel_rfl))
  refine zC (tF N V k) ?_
  repeat (first | ((with_reducible refine zK ?_); refine zJ rfl ?_) | ((with_reducible refine zE ?_); refine zF rfl ?_) | ((with_reducible refine zQ ?_); refine zT rfl rfl rfl ?_)  | refine zL ?_ | refine zB rfl ?_ | with_reducible (first | refine zG ?_ | refine zH ?_) | ((with_reducible refine zA ?_ ?_); kernel_rfl))
  refine zZ rfl (fun h => ?_) (fun h => ?_)
  · rw [if_pos (by simpa using h)]
    repeat (first | ((with_reducible refine zK ?_); refine zJ rfl ?_) | ((with_reducible refine zE ?_); refine zF rfl ?_)  | refine zL ?_ | refine zB rfl ?_ | with_reducible (first | refine zG ?_ | refine zO ?_ | refine zH ?_ | refine zN ?_) | ((with_reducible refine zA ?_ ?_); kernel_rfl))
    refine yp (by first | exact .inr rfl | exact .inl rfl) rfl rfl rfl ?_
    repeat' (first | exact trivial | exact Ren.v _ | exact Ren.sl _ _ | exact Ren.ep _ | exact Ren.ptr _ _ _ _ rfl | exact Ren.bs _ _ _ _ _ rfl | exact Ren.nil _ | exact Ren.own _ _ _ _ ⟨_, rfl⟩ | refine zi ?_ | refine zj ?_ | refine zl ?_ | refine ⟨?_, ?_⟩)
  rw [if_neg (by simpa using h)]
  repeat (first | ((with_reducible refine zE ?_); refine zF rfl ?_)  | refine zL ?_ | refine zB rfl ?_ | with_reducible (first | refine zG ?_ | refine zH ?_ | refine zY ?_ | refine zS ?_) | ((with_reducible refine zA ?_ ?_); kernel_rfl))
  refine yL (ι := Nat) (fun i => i ≤ L.length ∧ keyB (L.take i) k.k = false) (fun i => L.length - i) (fun v i => [(1, .sl 3 (L.map Lk.av)), (3, .ptr 3 (v 3) 0), (5, .ptr 5 (v 5) 0), (10, .v (.int .i64 i))]) (fun v i => [(3, .box [.sl 3 (N.map Nd.av), .sl 5 (V.map Dv.av)]), (5, .box [.v (.int .i64 k.d), .v (.int .i64 k.p), .v (.int .i64 k.k)])]) ?_ ?_
  · exact ⟨0, ⟨Nat.zero_le _, rfl⟩, trivial, ⟨rfl, rfl, rfl, rfl, trivial⟩, ⟨rfl, rfl, trivial⟩⟩
  rintro v i ⟨hi, hu⟩
  repeat (first | ((with_reducible refine zK ?_); refine zJ rfl ?_) | ((with_reducible refine zt ?_); refine yH tbOk rfl rfl ?_) | ((with_reducible refine zQ ?_); refine zT rfl rfl rfl ?_)  | refine zL ?_ | refine zB rfl ?_ | with_reducible (first | refine zG ?_ | refine zH ?_) | ((with_reducible refine zA ?_ ?_); kernel_rfl))
  refine zZ rfl (fun h => ?_) (fun h => ?_)
  · have hlt : i < L.length := by simpa using h
    obtain ⟨x, hx⟩ := zd hlt
    have hy := aS hx
    repeat (first | ((with_reducible refine zK ?_); refine zJ rfl ?_) | ((with_reducible refine zM ?_); (first | refine zI tbOk rfl rfl rfl rfl ?_ | refine yW tbOk rfl rfl rfl rfl ?_)) | ((with_reducible refine zR ?_); (first | refine zP tbOk rfl rfl rfl rfl rfl ?_ | refine zW tbOk rfl rfl rfl ?_)) | ((with_reducible refine zU ?_); refine zX tbOk rfl rfl rfl rfl (by assumption) ?_) | ((with_reducible refine zQ ?_); refine zT rfl rfl rfl ?_)  | refine yf (by kernel_rfl) ?_ | refine zB rfl ?_ | with_reducible (first | refine zG ?_ | refine zH ?_ | refine zY ?_ | refine zS ?_) | ((with_reducible refine yZ mixd ?_ ?_); kernel_rfl))
    refine zZ rfl (fun h => ?_) (fun h => ?_)
    · rw [if_pos (pI (i := L.length) hx hlt (by simpa using h) |> fun e => by rwa [List.take_length] at e)]
      repeat (first | ((with_reducible refine zE ?_); refine zF rfl ?_)  | refine zL ?_ | refine zB rfl ?_ | with_reducible (first | refine zG ?_ | refine zO ?_ | refine zV ?_ | refine zH ?_ | refine zN ?_) | ((with_reducible refine zA ?_ ?_); kernel_rfl))
      refine yp (by first | exact .inr rfl | exact .inl rfl) rfl rfl rfl ?_
      repeat' (first | exact trivial | exact Ren.v _ | exact Ren.sl _ _ | exact Ren.ep _ | exact Ren.ptr _ _ _ _ rfl | exact Ren.bs _ _ _ _ _ rfl | exact Ren.nil _ | exact Ren.own _ _ _ _ ⟨_, rfl⟩ | refine zi ?_ | refine zj ?_ | refine zl ?_ | refine ⟨?_, ?_⟩)
    · have c1' : ¬ x.k = k.k := by simpa using h
      repeat (first | ((with_reducible refine zK ?_); refine zJ rfl ?_) | ((with_reducible refine zE ?_); refine zF rfl ?_) | ((with_reducible refine zQ ?_); refine zg rfl rfl (by omega) ?_)  | refine zL ?_ | refine zB rfl ?_ | with_reducible (first | refine zG ?_ | refine zu ?_ | refine zS ?_) | ((with_reducible refine zA ?_ ?_); kernel_rfl))
      exact ⟨i + 1, ⟨by omega, by rw [mL hx, hu, decide_eq_false c1']; rfl⟩, by omega, ⟨rfl, rfl, rfl, rfl, trivial⟩, ⟨rfl, rfl, trivial⟩⟩
  obtain rfl : i = L.length := by simp at h; omega
  rw [List.take_length] at hu
  rw [if_neg (by rw [hu]; decide)]
  repeat (first | ((with_reducible refine zK ?_); refine zJ rfl ?_) | ((with_reducible refine zM ?_); refine zI tbOk rfl rfl rfl rfl ?_) | ((with_reducible refine zR ?_); refine zP tbOk rfl rfl rfl rfl rfl ?_)  | refine zB rfl ?_ | with_reducible (first | refine zG ?_ | refine zo ?_ | refine zH ?_ | refine yB ?_) | ((with_reducible refine ze ?_ ?_); rfl) | ((with_reducible refine zA ?_ ?_); kernel_rfl))
  refine zC (locked_A L k.d h3) ?_
  repeat (first | ((with_reducible refine zK ?_); refine zJ rfl ?_) | ((with_reducible refine zE ?_); refine zF rfl ?_) | ((with_reducible refine ye ?_); refine yd rfl rfl ?_)  | refine zL ?_ | refine zB rfl ?_ | with_reducible (first | refine zG ?_ | refine zH ?_) | ((with_reducible refine zA ?_ ?_); kernel_rfl))
  refine zv rfl rfl (fun b1 => ?_) (fun b1 => ?_)
  repeat (first | ((with_reducible refine zK ?_); refine zJ rfl ?_) | ((with_reducible refine zM ?_); refine zI tbOk rfl rfl rfl rfl ?_) | ((with_reducible refine zR ?_); refine zP tbOk rfl rfl rfl rfl rfl ?_) | ((with_reducible refine za ?_); refine zh rfl (by first | rfl | assumption) rfl ?_) | ((with_reducible refine zQ ?_); refine zT rfl rfl rfl ?_)  | refine zL ?_ | refine zB rfl ?_ | refine yC rfl rfl (by first | rfl | assumption) ?_ | with_reducible refine zG ?_ )
  refine zZ rfl (fun h => ?_) (fun h => ?_)
  · rw [if_pos ⟨b1, by simpa using h⟩]
    repeat (first | ((with_reducible refine zE ?_); refine zF rfl ?_)  | refine zL ?_ | refine zB rfl ?_ | with_reducible (first | refine zG ?_ | refine zO ?_ | refine zH ?_ | refine zN ?_) | ((with_reducible refine zA ?_ ?_); kernel_rfl))
    refine yp (by first | exact .inr rfl | exact .inl rfl) rfl rfl rfl ?_
    repeat' (first | exact trivial | exact Ren.v _ | exact Ren.sl _ _ | exact Ren.ep _ | exact Ren.ptr _ _ _ _ rfl | exact Ren.bs _ _ _ _ _ rfl | exact Ren.nil _ | exact Ren.own _ _ _ _ ⟨_, rfl⟩ | refine zi ?_ | refine zj ?_ | refine zl ?_ | refine ⟨?_, ?_⟩)
  have hB : ¬((jL L k.d).2 = true ∧ (jL L k.d).1 ≠ k.p) := fun e => e.2 (by simpa using h)
  rotate_left
  have hB : ¬((jL L k.d).2 = true ∧ (jL L k.d).1 ≠ k.p) := fun e => by rw [b1] at e; cases e.1
  all_goals
    rw [if_neg hB]
    repeat (first | ((with_reducible refine zK ?_); refine zJ rfl ?_) | ((with_reducible refine za ?_); refine zf rfl (by first | rfl | assumption) rfl ?_) | ((with_reducible refine zt ?_); refine yH tbOk rfl rfl ?_) | ((with_reducible refine zQ ?_); refine zT rfl rfl rfl ?_)  | refine zL ?_ | refine zB rfl ?_ | refine yE rfl rfl (by first | rfl | assumption) ?_ | with_reducible (first | refine zG ?_ | refine zH ?_ | refine zS ?_) | ((with_reducible refine zA ?_ ?_); kernel_rfl) | refine yF rfl (by first | rfl | assumption) ?_)
    refine zZ rfl (fun h => ?_) (fun h => ?_)
    · rw [if_pos (by simp at h; omega)]
      repeat (first | ((with_reducible refine zE ?_); refine zF rfl ?_)  | refine zL ?_ | refine zB rfl ?_ | with_reducible (first | refine zG ?_ | refine zO ?_ | refine zH ?_ | refine zN ?_) | ((with_reducible refine zA ?_ ?_); kernel_rfl))
      refine yp (by first | exact .inr rfl | exact .inl rfl) rfl rfl rfl ?_
      repeat' (first | exact trivial | exact Ren.v _ | exact Ren.sl _ _ | exact Ren.ep _ | exact Ren.ptr _ _ _ _ rfl | exact Ren.bs _ _ _ _ _ rfl | exact Ren.nil _ | exact Ren.own _ _ _ _ ⟨_, rfl⟩ | refine zi ?_ | refine zj ?_ | refine zl ?_ | refine ⟨?_, ?_⟩)
    have h128 : L.length < 128 := by simp at h; omega
    rw [if_neg (by omega)]
    repeat (first | ((with_reducible refine zE ?_); refine zF rfl ?_)  | refine zL ?_ | refine zB rfl ?_ | with_reducible (first | refine zG ?_ | refine zH ?_ | refine zY ?_ | refine zS ?_) | ((with_reducible refine zA ?_ ?_); kernel_rfl))
    refine yL (ι := Nat) (fun a => a ≤ L.length ∧ lowK k (L.drop a) + a = lowK k L) (fun a => L.length - a) (fun v a => [(1, .sl 3 (L.map Lk.av)), (5, .ptr 5 (v 5) 0), (13, .v (.int .i64 a))]) (fun v a => [(5, .box [.v (.int .i64 k.d), .v (.int .i64 k.p), .v (.int .i64 k.k)])]) ?_ ?_
    · exact ⟨0, ⟨Nat.zero_le _, rfl⟩, trivial, ⟨rfl, rfl, rfl, trivial⟩, ⟨rfl, trivial⟩⟩
    rintro v a ⟨ha, hlo⟩
    repeat (first | ((with_reducible refine zK ?_); refine zJ rfl ?_) | ((with_reducible refine zt ?_); refine yH tbOk rfl rfl ?_) | ((with_reducible refine zQ ?_); refine zT rfl rfl rfl ?_)  | refine zB rfl ?_ | with_reducible refine zH ?_ | ((with_reducible refine yZ mixd ?_ ?_); kernel_rfl))
    refine zv rfl rfl (fun b2 => ?_) (fun b2 => ?_)
    have hlt : a < L.length := by simpa using b2
    obtain ⟨x, hx⟩ := zd hlt
    have hy := aS hx
    rw [lowK_at hx] at hlo
    repeat (first | ((with_reducible refine zK ?_); refine zJ rfl ?_) | ((with_reducible refine zR ?_); (first | refine zk tbOk rfl rfl rfl rfl (Nat.le_of_ble_eq_true rfl) ?_ | refine yj tbOk rfl rfl (Nat.le_of_ble_eq_true rfl) ?_)) | ((with_reducible refine zU ?_); refine zX tbOk rfl rfl rfl rfl (by assumption) ?_)  | refine yC rfl rfl (by first | rfl | assumption) ?_  )
    refine zC (pP x k) ?_
    repeat (first | ((with_reducible refine za ?_); refine zh rfl (by first | rfl | assumption) rfl ?_)  | refine yf (by kernel_rfl) ?_ | refine zB rfl ?_ | with_reducible refine zG ?_ )
    refine zZ rfl (fun h => ?_) (fun h => ?_)
    · rw [if_pos h] at hlo
      repeat (first | ((with_reducible refine zK ?_); refine zJ rfl ?_) | ((with_reducible refine zE ?_); refine zF rfl ?_) | ((with_reducible refine zQ ?_); refine zg rfl rfl (by omega) ?_)  | refine zL ?_ | refine zB rfl ?_ | with_reducible (first | refine zG ?_ | refine zu ?_ | refine zY ?_ | refine zS ?_) | ((with_reducible refine zA ?_ ?_); kernel_rfl))
      exact ⟨a + 1, ⟨by omega, by omega⟩, by omega, ⟨rfl, rfl, rfl, trivial⟩, ⟨rfl, trivial⟩⟩
    rw [if_neg (by rw [h]; decide)] at hlo
    have hA : a = lowK k L := by omega
    rotate_left
    have hlt : ¬ a < L.length := by simpa using b2
    rw [List.drop_of_length_le (by omega)] at hlo
    have hA : a = lowK k L := by simp only [lowK] at hlo; omega
    all_goals
      rw [← hA]
      have e1 : ((L.map Lk.av).take ((a : Int)).toNat).drop (0 : Int).toNat = (L.take a).map Lk.av := by rw [List.map_take]; rfl
      have e2 : ((L.map Lk.av).take (((L.map Lk.av).length : Int)).toNat).drop ((a : Int)).toNat = (L.drop a).map Lk.av := by
        show ((L.map Lk.av).take (L.map Lk.av).length).drop a = _
        rw [List.take_length, List.map_drop]
      have e3 : (L.take a ++ k :: L.drop a).map Lk.av = (L.take a).map Lk.av ++ [k.av] ++ (L.drop a).map Lk.av := by simp
      rw [e3]
      repeat (first | ((with_reducible refine zK ?_); refine zJ rfl ?_) | ((with_reducible refine za ?_); refine zf rfl (by first | rfl | assumption) rfl ?_) | ((with_reducible refine jz ?_); refine dN tbOk rfl rfl rfl rfl rfl (by refine ⟨?_, ?_, ?_⟩ <;> omega) ?_)  | refine yf (by kernel_rfl) ?_ | refine zB rfl ?_ | refine yE rfl rfl (by first | rfl | assumption) ?_ | with_reducible (first | refine zG ?_ | refine zo ?_ | refine zH ?_ | refine yB ?_) | ((with_reducible refine ze ?_ ?_); rfl) | ((with_reducible refine yZ mixd ?_ ?_); kernel_rfl) | refine yF rfl (by first | rfl | assumption) ?_)
      refine nZ (N := (L.take a).map Lk.av) tbOk rfl rfl rfl rfl rfl (by decide) rfl (congrArg (AV.sl 3) e1) rfl (rY _) (by simp only [List.length_map, List.length_take]; omega) ?_
      repeat (first | ((with_reducible refine zR ?_); refine zk tbOk rfl rfl rfl rfl (Nat.le_of_ble_eq_true rfl) ?_) | ((with_reducible refine zr ?_); refine zx tbOk rfl rfl rfl rfl rfl (by omega) rfl rfl rfl ?_) | refine zB rfl ?_  )
      refine yG (N := [k.av]) tbOk rfl rfl rfl rfl rfl (by decide) rfl rfl rfl rfl rfl (rY [k]) (by simp only [List.length_map, List.length_take, List.length_cons, List.length_nil]; omega) (by simp only [List.length_map, List.length_take, List.length_cons, List.length_nil]; omega) ?_
      repeat (first | ((with_reducible refine zK ?_); refine zJ rfl ?_) | ((with_reducible refine zE ?_); refine zF rfl ?_) | ((with_reducible refine jz ?_); refine dN tbOk rfl rfl rfl rfl rfl (by refine ⟨?_, ?_, ?_⟩ <;> omega) ?_)  | refine yf (by kernel_rfl) ?_ | refine zB rfl ?_ | with_reducible (first | refine zG ?_ | refine zH ?_) | ((with_reducible refine zA ?_ ?_); kernel_rfl))
      refine yG (N := (L.drop a).map Lk.av) tbOk rfl rfl rfl rfl rfl (by decide) rfl rfl rfl (congrArg (AV.sl 3) e2) rfl (rY _) (by simp only [List.length_map, List.length_take, List.length_drop, List.length_append, List.length_cons, List.length_nil]; omega) (by simp only [List.length_map, List.length_take, List.length_drop, List.length_append, List.length_cons, List.length_nil]; omega) ?_
      repeat (first | ((with_reducible refine zE ?_); refine zF rfl ?_)  | refine zL ?_ | refine zB rfl ?_ | with_reducible (first | refine zG ?_ | refine zN ?_) )
      refine yp (by first | exact .inr rfl | exact .inl rfl) rfl rfl rfl ?_
      repeat' (first | exact trivial | exact Ren.v _ | exact Ren.sl _ _ | exact Ren.ep _ | exact Ren.ptr _ _ _ _ rfl | exact Ren.bs _ _ _ _ _ rfl | exact Ren.nil _ | exact Ren.own _ _ _ _ ⟨_, rfl⟩ | refine zi ?_ | refine zj ?_ | refine zl ?_ | refine ⟨?_, ?_⟩)
theorem ret1_1 {TB : Tabs} {σ : AS} {fn : Func} {r : AV} {e : Exit} {t1 k : Nat} {y : AV} {c c' : List AV} (he : e = .normal ∨ e = .ret) (hfn : fn.results = #[.tmp t1]) (h1 : vf (σ.T t1) = some y) (hr : Ren (bufs σ) (jK 1 []) r y) (hH : σ.H (refB + 0) = ⟨k, .box c'⟩) (hk : k = 0) (hc : RenL (bufs σ) (jK 1 []) c c') : RetQ TB fn 1 r [c] e σ := by
  refine ret1 he (xs := [σ.T t1]) ?_ (by rw [qp h1]; exact hr) hH hk hc
  rw [hfn]
  exact ⟨.tmp t1, trivial⟩
def posS (S : List Int) (d : Int) : Int := match S[d.toNat]? with
  | some p => p
  | none => 1
def lkN (S : List Int) (i : Nat) (D : Dk) (n : Int) : Lk := ⟨D.next.val n, posS S (D.next.val n), 10 + 3 * (i : Int) + D.next.next.val 3⟩
def bB (N : List Nd) (V : List Dv) (S : List Int) (i : Nat) (D : Dk) (L : List Lk) : Dk × List Lk :=
  if D.val 3 = 0 then (D.next, L) else (D.next.next.next, if (addK N V L (lkN S i D V.length)).2 = 0 then (addK N V L (lkN S i D V.length)).1 else L)
def ji (N : List Nd) (V : List Dv) (S : List Int) : Nat → Nat → Dk → List Lk → Dk × List Lk
  | 0, _, D, L => (D, L)
  | m + 1, i, D, L => ji N V S m (i + 1) (bB N V S i D L).1 (bB N V S i D L).2
theorem pD (N : List Nd) (V : List Dv) (L : List Lk) (k : Lk) : (addK N V L k).1.length ≤ L.length + 1 := by
  unfold addK
  split
  · simp
  split
  · simp
  split
  · simp
  split
  · simp
  split
  · simp
  · have := tY k L
    simp; omega
theorem xL {N : List Nd} {V : List Dv} {S : List Int} {i : Nat} {D : Dk} {L : List Lk} (h : LkOk V L) : LkOk V (bB N V S i D L).2 ∧ (bB N V S i D L).2.length ≤ L.length + 1 := by
  unfold bB
  split
  · exact ⟨h, by show L.length ≤ _; omega⟩
  · dsimp only
    split
    · rename_i c
      exact ⟨(addK_ok h c).1, pD _ _ _ _⟩
    · exact ⟨h, by omega⟩
theorem lC {N : List Nd} {V : List Dv} {S : List Int} : ∀ (m i : Nat) (D : Dk) (L : List Lk), LkOk V L → LkOk V (ji N V S m i D L).2 ∧ (ji N V S m i D L).2.length ≤ L.length + m
  | 0, _, _, L, h => ⟨h, Nat.le_refl _⟩
  | m + 1, i, D, L, h => by
    obtain ⟨a, b⟩ := xL (N := N) (S := S) (i := i) (D := D) h
    obtain ⟨c, d⟩ := lC (N := N) (S := S) m (i + 1) (bB N V S i D L).1 _ a
    exact ⟨c, by show (ji N V S m (i + 1) (bB N V S i D L).1 (bB N V S i D L).2).2.length ≤ _; omega⟩
end Go.Proofs.YtjamibeffalhaaaGreatDoor
namespace Go.Proofs.YtjamibeffalhaaaGreatDoor
open Go Go.RowKit
theorem Dk.in_ (D : Dk) {n : Int} (h1 : 1 ≤ n) (h2 : n ≤ 1000000) : 0 ≤ D.val n ∧ D.val n < n := by
  have h := D.val_range (n := n) (by omega)
  exact ⟨h.1, h.2.1 h1⟩
def fG (k : Nat) : Nat → Nat → Dk → List Int → Dk × List Int
  | 0, _, D, L => (D, L)
  | m + 1, i, D, L => if k ≤ L.length then (D, L) else fG k m (i + 1) D.next (if D.val 3 = 0 then L ++ [(i : Int)] else L)
def setP (n k : Nat) (D : Dk) : Dk × List Int := fG k n 0 D []
theorem oR (k : Nat) : ∀ (m i : Nat) (D : Dk) (L : List Int), DkOk D → L.length ≤ k → DkOk (fG k m i D L).1 ∧ (fG k m i D L).2.length ≤ k
  | 0, _, D, L, h, hl => ⟨h, hl⟩
  | m + 1, i, D, L, h, hl => by
    rw [fG]
    split
    · exact ⟨h, hl⟩
    · rename_i c
      refine oR k m (i + 1) D.next _ h.next ?_
      split
      · simp; omega
      · omega
theorem tK {n k : Nat} {D : Dk} (h : DkOk D) : DkOk (setP n k D).1 ∧ (setP n k D).2.length ≤ k := oR k n 0 D [] h (Nat.zero_le _)
def fH (n : Nat) (D : Dk) : Dk × List Int := if (setP n 2 D).2 = [] then ((setP n 2 D).1.next, [(setP n 2 D).1.val n]) else setP n 2 D
theorem pC {n : Nat} {D : Dk} (h : DkOk D) : DkOk (fH n D).1 ∧ (fH n D).2.length ≤ 2 := by
  have := tK (n := n) (k := 2) h
  unfold fH
  split
  · exact ⟨this.1.next, by simp⟩
  · exact this
def issW (z : Int) : ByteArray := if z = 0 then ⟨#[65, 49]⟩ else if z = 1 then ⟨#[65, 50]⟩ else ⟨#[67, 49]⟩
def holW (z : Int) : ByteArray := if z = 0 then ⟨#[66, 49]⟩ else if z = 1 then ⟨#[66, 50]⟩ else ⟨#[67, 50]⟩
def eB : Nat → Dk → List Int → Dk × List Int
  | 0, D, L => (D, L)
  | m + 1, D, L => eB m D.next (L ++ [10 * (4 - ((m + 1 : Nat) : Int)) + D.val 9])
theorem pK : ∀ (m : Nat) (D : Dk) (L : List Int), DkOk D → DkOk (eB m D L).1 ∧ (eB m D L).2.length = L.length + m
  | 0, D, L, h => ⟨h, rfl⟩
  | m + 1, D, L, h => by
    have := pK m D.next (L ++ [10 * (4 - ((m + 1 : Nat) : Int)) + D.val 9]) h.next
    refine ⟨this.1, ?_⟩
    rw [eB, this.2]; simp; omega
/-- The deck ahead of the zone, behind the zone, behind the locks and behind the certificates. -/
def dc1 (D : Dk) : Dk := D.next.next.next.next
def dc2 (N : List Nd) (D : Dk) : Dk := (fH N.length (dc1 D)).1
def dc3 (N : List Nd) (D : Dk) : Dk := (dc2 N D).next.next.next.next.next
def dc4 (N : List Nd) (V : List Dv) (D : Dk) : Dk := (ji N V [] 5 0 (dc3 N D) []).1
def dc5 (N : List Nd) (V : List Dv) (D : Dk) : Dk := (eB ((dc4 N V D).val 3).toNat (dc4 N V D).next []).1
/-- The document ahead of its change. -/
def doc0 (N : List Nd) (V : List Dv) (D : Dk) : Dc :=
  ⟨1 + D.val 60, 1 + D.next.val 3, 1 + D.next.next.val 5, D.next.next.next.val 3, (fH N.length (dc1 D)).2, 1 + (dc2 N D).val 4, (ji N V [] 5 0 (dc3 N D) []).2, issW ((dc2 N D).next.val 3), holW ((dc2 N D).next.next.val 3),
    (dc2 N D).next.next.next.val 100, (dc2 N D).next.next.next.val 100 + 1 + (dc2 N D).next.next.next.next.val 51, (eB ((dc4 N V D).val 3).toNat (dc4 N V D).next []).2⟩
/-- A change of a document, by a number; the deck E stands behind this number. -/
def docC (c : Int) (E : Dk) (d : Dc) : Dc × Dk :=
  if c = 0 then ({ d with num := if E.val 2 = 0 then 0 else 65537 }, E.next)
  else if c = 1 then ({ d with kind := E.val 5, st := E.next.val 8 }, E.next.next)
  else if c = 2 then ({ d with zone := d.zone ++ [E.val 6] }, E.next)
  else if c = 3 then ({ d with safe := if E.val 2 = 0 then 0 else 17 }, E.next)
  else if c = 4 then ({ d with hol := d.iss }, E)
  else if c = 5 then ({ d with f := 5, u := 5 }, E)
  else if c = 6 then ({ d with ce := d.ce ++ [5] }, E)
  else if c = 7 then ({ d with iss := ⟨#[]⟩ }, E)
  else (d, E)
def docD (N : List Nd) (V : List Dv) (D : Dk) : Dc × Dk := docC ((dc5 N V D).val 20) (dc5 N V D).next (doc0 N V D)
end Go.Proofs.YtjamibeffalhaaaGreatDoor
namespace Go.Proofs.YtjamibeffalhaaaGreatDoor
open Go Go.RowKit
section
variable {P : Program} {X : Ctx} {n : Nat} {ops : Array Oper} {os : List Oper} {acc : List Rule} {σ : AS} {K : List Rule → AS → Prop} {gt : List (Nat × AV)} {ty : TypeId} {ps : String} {af : Array Edge} {g : Option (Nat × Bool)}
variable {TB : Tabs} (hTB : TabsOk P TB)
include hTB
end
section
variable {P : Program} {X : Ctx} {n : Nat} {σ : AS} {Q : Exit → AS → Prop} {c : Code}
end
end Go.Proofs.YtjamibeffalhaaaGreatDoor
