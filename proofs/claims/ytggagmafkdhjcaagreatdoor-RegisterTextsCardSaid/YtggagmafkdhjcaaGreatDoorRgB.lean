/- permitofficeref05.Check, register.Find, register.Can and their references, by the abstract machine; conditions: the table of classes stands. -/
import Derived.Test.YtggagmafkdhjcaaGreatDoorRgA
set_option linter.unusedVariables false
set_option linter.unusedSimpArgs false
namespace Go.Proofs.YtggagmafkdhjcaaGreatDoor
open Go Go.RowKit
set_option maxRecDepth 10000
variable {G : Nat → Option (List Value)}
theorem mN {E : Per → Int} {L : List Per} (h : jI E L = 0) : L.length ≤ 64 := by
  unfold jI at h
  split at h
  · cases h
  · omega
theorem rD (a b : ByteArray) : (!jQ a b) = (jQ b a || jM b a) := by
  unfold jQ jM
  rw [ByteArray.toList_eq, ByteArray.toList_eq]
  exact lZ _ _
set_option maxHeartbeats 2000000 in
theorem rE (L : List Per) (hG : GCls G) (hs : ∀ p ∈ L, p.n.size ≤ maxLen) (hm : L.length ≤ maxLen) :
    jD Tryz.prog G 15 [.ag [.sl 5 (L.map Per.av)]] [] (.v (.int .i64 (jI jV L))) [] := by
  have hm2 : L.length ≤ 9223372036854775807 := by unfold maxLen at hm; omega
  refine yi tbOk (yj Tryz.func15 (by kernel_rfl) rfl) Tryz.func15 rfl _ Tryz.ntmps15 (Nat.le_of_ble_eq_true rfl) fun X hX => ?_
  subst hX
  repeat (first | ((with_reducible refine zL ?_); refine zM rfl ?_) | ((with_reducible refine zB ?_); refine zH tbOk rfl rfl rfl rfl ?_) | ((with_reducible refine zF ?_); refine zX tbOk rfl rfl rfl rfl rfl ?_) | ((with_reducible refine yo ?_); refine ym rfl rfl rfl ?_) | ((with_reducible refine zG ?_); refine yp tbOk rfl rfl ?_) | ((with_reducible refine zA ?_); refine yM rfl rfl rfl ?_)  | refine yA ?_ | refine zS rfl ?_ | with_reducible (first | refine zY ?_ | refine zR ?_) | ((with_reducible refine zJ ?_ ?_); kernel_rfl))
  refine jE rfl (fun h64 => ?_) (fun h64 => ?_)
  · repeat (first | ((with_reducible refine zL ?_); refine zM rfl ?_)  | refine yA ?_ | refine zS rfl ?_ | with_reducible (first | refine zY ?_ | refine zV ?_ | refine zR ?_ | refine zv ?_) | ((with_reducible refine zJ ?_ ?_); kernel_rfl))
    refine jK (by first | exact .inr rfl | exact .inl rfl) rfl rfl ?_
    unfold jI
    rw [if_pos (by simp at h64; omega)]
  · repeat (first | ((with_reducible refine zL ?_); refine zM rfl ?_)  | refine yA ?_ | refine zS rfl ?_ | with_reducible (first | refine zY ?_ | refine zR ?_ | refine zq ?_ | refine zr ?_) | ((with_reducible refine zJ ?_ ?_); kernel_rfl))
    have h64' : ¬ 64 < L.length := by simp at h64; omega
    have e0 : jI jV L = pgoE jV none L := by unfold jI; rw [if_neg h64']
    rw [e0]
    refine jZ (ι := Nat) (fun k => k ≤ L.length ∧ pgoE jV (aG L k) (L.drop k) = pgoE jV none L) (fun k => L.length - k) (fun v k => [(1, .ptr 1 (v 1) 0), (3, .v (.int .i64 k))]) (fun v k => [(1, .box [.sl 5 (L.map Per.av)])]) ?_ ?_
    · exact ⟨0, ⟨Nat.zero_le _, rfl⟩, trivial, ⟨rfl, rfl, trivial⟩, ⟨rfl, trivial⟩⟩
    · rintro v k ⟨hk, hf⟩
      repeat (first | ((with_reducible refine zm ?_); refine zl rfl ?_) | ((with_reducible refine zB ?_); refine zH tbOk rfl rfl rfl rfl ?_) | ((with_reducible refine zF ?_); refine zX tbOk rfl rfl rfl rfl rfl ?_) | ((with_reducible refine zG ?_); refine yp tbOk rfl rfl ?_) | ((with_reducible refine zA ?_); refine yM rfl rfl rfl ?_)  | refine yA ?_ | refine zS rfl ?_ | with_reducible (first | refine zY ?_ | refine zR ?_) | ((with_reducible refine zJ ?_ ?_); kernel_rfl))
      refine jE rfl (fun h => ?_) (fun h => ?_)
      · have hlt : k < L.length := by simpa using h
        obtain ⟨p, hx⟩ := yr hlt
        have hy : (L.map Per.av)[k]? = some p.av := by rw [List.getElem?_map, hx]; rfl
        have hp := tB (E := jV) hx (aG L k)
        rw [hf] at hp
        repeat (first | ((with_reducible refine zm ?_); refine zl rfl ?_) | ((with_reducible refine zB ?_); refine zH tbOk rfl rfl rfl rfl ?_) | ((with_reducible refine zF ?_); (first | refine zX tbOk rfl rfl rfl rfl rfl ?_ | refine zU tbOk rfl rfl (Nat.le_of_ble_eq_true rfl) ?_)) | ((with_reducible refine zE ?_); refine zQ tbOk rfl rfl rfl rfl (by assumption) ?_)  | refine zS rfl ?_ | with_reducible (first | refine zY ?_ | refine zR ?_ | refine zq ?_ | refine zr ?_) | ((with_reducible refine zJ ?_ ?_); kernel_rfl))
        with_reducible refine zG ?_
        refine zC (nL p (hs p (List.mem_of_getElem? hx))) ?_
        repeat (first | ((with_reducible refine zm ?_); refine zl rfl ?_) | ((with_reducible refine zL ?_); refine zM rfl ?_) | ((with_reducible refine zA ?_); refine yM rfl rfl rfl ?_)  | refine yA ?_ | refine zS rfl ?_ | with_reducible (first | refine zY ?_ | refine zR ?_) | ((with_reducible refine zJ ?_ ?_); kernel_rfl))
        refine jE rfl (fun hE => ?_) (fun hE => ?_)
        · repeat (first | ((with_reducible refine zm ?_); refine zl rfl ?_) | ((with_reducible refine zL ?_); refine zM rfl ?_)  | refine yA ?_ | refine zS rfl ?_ | with_reducible (first | refine zY ?_ | refine zV ?_ | refine za ?_ | refine zR ?_ | refine zv ?_) | ((with_reducible refine zJ ?_ ?_); kernel_rfl))
          refine jK (by first | exact .inr rfl | exact .inl rfl) rfl rfl ?_
          rw [if_pos (by simpa using hE)] at hp
          rw [hp]
        · rw [if_neg (by simpa using hE)] at hp
          repeat (first | ((with_reducible refine zm ?_); refine zl rfl ?_) | ((with_reducible refine zA ?_); refine yM rfl rfl rfl ?_)  | refine zS rfl ?_ | with_reducible (first | refine zY ?_ | refine zR ?_ | refine zr ?_) | ((with_reducible refine yg mixd ?_ ?_); kernel_rfl))
          refine jH rfl rfl (fun h0 => ?_) (fun h0 => ?_)
          · obtain ⟨m, rfl⟩ : ∃ m, k = m + 1 := ⟨k - 1, by simp at h0; omega⟩
            obtain ⟨q, hq⟩ := yr (L := L) (k := m) (by omega)
            have hz : (((m + 1 : Nat) : Int) - 1).toNat = m := by omega
            have hqz : (L.map Per.av)[(((m + 1 : Nat) : Int) - 1).toNat]? = some q.av := by rw [hz, List.getElem?_map, hq]; rfl
            repeat (first | ((with_reducible refine zm ?_); refine zl rfl ?_) | ((with_reducible refine zB ?_); (first | refine zH tbOk rfl rfl rfl rfl ?_ | refine zO tbOk rfl rfl rfl rfl ?_)) | ((with_reducible refine zF ?_); (first | refine zX tbOk rfl rfl rfl rfl rfl ?_ | refine zT tbOk rfl rfl rfl ?_)) | ((with_reducible refine zh ?_); refine yO rfl (by first | rfl | assumption) rfl ?_) | ((with_reducible refine zE ?_); (first | refine zQ tbOk rfl rfl rfl rfl (by assumption) ?_ | refine zk tbOk rfl rfl rfl rfl (by omega) (by assumption) ?_)) | ((with_reducible refine zA ?_); (first | refine yN rfl rfl (by omega) ?_ | refine yh rfl rfl rfl ?_))  | refine yl (by kernel_rfl) ?_ | refine zS rfl ?_ | refine yR rfl rfl (by first | rfl | assumption) ?_ | with_reducible refine zY ?_ )
            rw [qS hq] at hp
            refine jE rfl (fun hT => ?_) (fun hT => ?_)
            · repeat (first | ((with_reducible refine zL ?_); refine zM rfl ?_)  | refine yA ?_ | refine zS rfl ?_ | with_reducible (first | refine zY ?_ | refine zV ?_ | refine za ?_ | refine zR ?_ | refine zv ?_) | ((with_reducible refine zJ ?_ ?_); kernel_rfl))
              refine jK (by first | exact .inr rfl | exact .inl rfl) rfl rfl ?_
              rw [← rD] at hT
              rw [hp, if_pos]
              unfold less
              simpa [jQ, ByteArray.toList_eq] using hT
            · repeat (first | ((with_reducible refine zm ?_); refine zl rfl ?_) | ((with_reducible refine zL ?_); refine zM rfl ?_) | ((with_reducible refine zA ?_); refine yE rfl rfl (by omega) ?_)  | refine yA ?_ | refine zS rfl ?_ | with_reducible (first | refine zY ?_ | refine yV ?_ | refine zr ?_) | ((with_reducible refine zJ ?_ ?_); kernel_rfl))
              refine ⟨m + 1 + 1, ⟨by omega, ?_⟩, by omega, ⟨rfl, rfl, trivial⟩, ⟨rfl, trivial⟩⟩
              rw [← rD] at hT
              rw [hp, if_neg, qS hx]
              unfold less
              simpa [jQ, ByteArray.toList_eq] using hT
          · obtain rfl : k = 0 := by simp at h0; omega
            repeat (first | ((with_reducible refine zm ?_); refine zl rfl ?_) | ((with_reducible refine zL ?_); refine zM rfl ?_) | ((with_reducible refine zh ?_); refine yP rfl (by first | rfl | assumption) rfl ?_) | ((with_reducible refine zA ?_); refine yE rfl rfl (by omega) ?_)  | refine yA ?_ | refine yl (by kernel_rfl) ?_ | refine zS rfl ?_ | refine yL rfl rfl (by first | rfl | assumption) ?_ | with_reducible (first | refine zY ?_ | refine yV ?_ | refine zr ?_) | ((with_reducible refine zJ ?_ ?_); kernel_rfl) | refine yJ rfl (by first | rfl | assumption) ?_)
            refine ⟨1, ⟨by omega, ?_⟩, by omega, ⟨rfl, rfl, trivial⟩, ⟨rfl, trivial⟩⟩
            rw [hp, if_neg (by simp [aG]), qS hx]
      · have hlt : ¬ k < L.length := by simpa using h
        repeat (first | ((with_reducible refine zL ?_); refine zM rfl ?_)  | refine yA ?_ | refine zS rfl ?_ | with_reducible (first | refine zY ?_ | refine ze ?_ | refine zR ?_ | refine yK ?_ | refine zv ?_) | ((with_reducible refine zW ?_ ?_); rfl) | ((with_reducible refine zJ ?_ ?_); kernel_rfl))
        refine jK (by first | exact .inr rfl | exact .inl rfl) rfl rfl ?_
        rw [List.drop_of_length_le (by omega)] at hf
        rw [← hf]; rfl
theorem cl_A (p : Per) (nm : ByteArray) : jD Tryz.prog G 68 [p.av, .ptr (refB + 0) 0 0] [[.v (.string nm)]] (.v (.bool (qh nm p))) [[.v (.string nm)]] := by
  refine yi tbOk (yj Tryz.func68 (by kernel_rfl) rfl) Tryz.func68 rfl _ Tryz.ntmps68 (Nat.le_of_ble_eq_true rfl) fun X hX => ?_
  subst hX
  repeat (first | ((with_reducible refine zL ?_); refine zM rfl ?_) | ((with_reducible refine zB ?_); refine zH tbOk rfl rfl rfl rfl ?_) | ((with_reducible refine zF ?_); refine zX tbOk rfl rfl rfl rfl rfl ?_) | ((with_reducible refine yo ?_); refine ym rfl rfl rfl ?_) | ((with_reducible refine zA ?_); refine yh rfl rfl rfl ?_)  | refine yA ?_ | refine zS rfl ?_ | with_reducible (first | refine zY ?_ | refine zR ?_ | refine zv ?_) | ((with_reducible refine zJ ?_ ?_); kernel_rfl))
  refine aK (by first | exact .inr rfl | exact .inl rfl) rfl rfl rfl (by first | rfl | assumption) ?_ ?_ (by repeat' (first | exact trivial | exact Ren.v _ | exact Ren.sl _ _ | exact Ren.ep _ | exact Ren.ptr _ _ _ _ rfl | exact Ren.bs _ _ _ _ _ rfl | exact Ren.nil _ | exact Ren.own _ _ _ _ ⟨_, rfl⟩ | refine yz ?_ | refine jA ?_ | refine jB ?_ | refine ⟨?_, ?_⟩)) <;> rfl
set_option maxRecDepth 100000 in
set_option maxHeartbeats 1000000 in
theorem xO (L : List Per) (nm : ByteArray) (hm : L.length ≤ 4611686018427387904) : jD Tryz.prog G 67 [.sl 5 (L.map Per.av), .fn 68 [.ptr (refB + 0) 0 0]] [[.v (.string nm)]] (.v (.int .i64 (idxP nm L 0))) [[.v (.string nm)]] := by
  refine yi tbOk (yj Tryz.func67 (by kernel_rfl) rfl) Tryz.func67 rfl _ Tryz.ntmps67 (Nat.le_of_ble_eq_true rfl) fun X hX => ?_
  subst hX
  repeat (first | ((with_reducible refine zm ?_); refine zl rfl ?_) | ((with_reducible refine zL ?_); refine zM rfl ?_) | ((with_reducible refine zG ?_); refine yp tbOk rfl rfl ?_)  | refine yA ?_ | refine zS rfl ?_ | with_reducible (first | refine zY ?_ | refine zR ?_ | refine zq ?_) | ((with_reducible refine zJ ?_ ?_); kernel_rfl))
  refine qT (ι := Nat) (fun v k => v (refB + 0) = 0 ∧ k ≤ L.length ∧ idxP nm (L.drop k) k = idxP nm L 0) (fun k => L.length - k) (fun v k => [(0, .sl 5 (L.map Per.av)), (1, .fn 68 [.ptr (refB + 0) (v (refB + 0)) 0]), (7, .v (.int .i64 (L.map Per.av).length)), (8, .v (.int .i64 k))]) (fun v k => [(refB + 0, .box [.v (.string nm)])]) ?_ ?_
  · exact ⟨0, ⟨rfl, Nat.zero_le _, rfl⟩, trivial, ⟨rfl, rfl, rfl, rfl, trivial⟩, ⟨rfl, trivial⟩⟩
  · rintro v k ⟨hv0, hk, hf⟩
    repeat (first | ((with_reducible refine zA ?_); refine yM rfl rfl rfl ?_)  | refine yA ?_ | refine zS rfl ?_ | with_reducible (first | refine zY ?_ | refine zR ?_) | ((with_reducible refine zJ ?_ ?_); kernel_rfl))
    refine jE rfl (fun h => ?_) (fun h => ?_)
    · have hlt : k < L.length := by simpa using h
      obtain ⟨p, hx⟩ := yr hlt
      have hy : (L.map Per.av)[k]? = some p.av := by rw [List.getElem?_map, hx]; rfl
      rw [wF hx] at hf
      repeat (first | ((with_reducible refine zm ?_); refine zl rfl ?_) | ((with_reducible refine zL ?_); refine zM rfl ?_) | ((with_reducible refine zF ?_); refine zU tbOk rfl rfl (Nat.le_of_ble_eq_true rfl) ?_) | ((with_reducible refine zE ?_); refine zQ tbOk rfl rfl rfl rfl (by assumption) ?_)  | refine yA ?_ | refine zS rfl ?_ | with_reducible (first | refine zY ?_ | refine zR ?_ | refine zq ?_ | refine zr ?_) | ((with_reducible refine zJ ?_ ?_); kernel_rfl))
      with_reducible refine zG ?_
      refine dQ (ss := [(refB + 0, v (refB + 0))]) (cl_A p nm) rfl (by repeat' (first | exact trivial | exact Ren.v _ | exact Ren.sl _ _ | exact Ren.ep _ | exact Ren.ptr _ _ _ _ rfl | exact Ren.bs _ _ _ _ _ rfl | exact Ren.nil _ | exact Ren.own _ _ _ _ ⟨_, rfl⟩ | refine yz ?_ | refine jA ?_ | refine jB ?_ | refine ⟨?_, ?_⟩)) (by simp) (in1 rfl rfl) rfl (aD rfl) (by repeat' (first | exact trivial | exact RenB.v _ | exact RenB.sl _ _ | exact RenB.ep _ | exact RenB.ptr _ _ _ _ rfl | refine aA ?_ | refine qv ?_ | refine ⟨?_, ?_⟩)) ?_
      repeat (first   | refine yA ?_ | with_reducible refine zY ?_ )
      refine jE rfl (fun hc => ?_) (fun hc => ?_)
      · repeat (first | ((with_reducible refine zm ?_); refine zl rfl ?_) | ((with_reducible refine zL ?_); refine zM rfl ?_)  | refine yA ?_ | refine zS rfl ?_ | with_reducible (first | refine zY ?_ | refine zV ?_ | refine za ?_ | refine zR ?_ | refine zv ?_) | ((with_reducible refine zJ ?_ ?_); kernel_rfl))
        refine aK (by first | exact .inr rfl | exact .inl rfl) rfl rfl rfl (by first | rfl | assumption) ?_ ?_ (by repeat' (first | exact trivial | exact Ren.v _ | exact Ren.sl _ _ | exact Ren.ep _ | exact Ren.ptr _ _ _ _ rfl | exact Ren.bs _ _ _ _ _ rfl | exact Ren.nil _ | exact Ren.own _ _ _ _ ⟨_, rfl⟩ | refine yz ?_ | refine jA ?_ | refine jB ?_ | refine ⟨?_, ?_⟩))
        · rw [if_pos hc] at hf
          rw [← hf]
        · rfl
      · repeat (first | ((with_reducible refine zm ?_); refine zl rfl ?_) | ((with_reducible refine zA ?_); refine yE rfl rfl (by omega) ?_)  | refine yA ?_ | refine zS rfl ?_ | with_reducible (first | refine zY ?_ | refine yV ?_ | refine zr ?_) | ((with_reducible refine zJ ?_ ?_); kernel_rfl))
        rw [if_neg (by simp [hc])] at hf
        exact ⟨k + 1, ⟨hv0, by omega, hf⟩, by omega, ⟨rfl, rfl, rfl, rfl, trivial⟩, ⟨rfl, trivial⟩⟩
    · have hlt : ¬ k < L.length := by simpa using h
      repeat (first | ((with_reducible refine zL ?_); refine zM rfl ?_)  | refine yA ?_ | refine zS rfl ?_ | with_reducible (first | refine zY ?_ | refine ze ?_ | refine zR ?_ | refine yK ?_ | refine zv ?_) | ((with_reducible refine zW ?_ ?_); rfl) | ((with_reducible refine zJ ?_ ?_); kernel_rfl))
      refine aK (by first | exact .inr rfl | exact .inl rfl) rfl rfl rfl (by first | rfl | assumption) ?_ ?_ (by repeat' (first | exact trivial | exact Ren.v _ | exact Ren.sl _ _ | exact Ren.ep _ | exact Ren.ptr _ _ _ _ rfl | exact Ren.bs _ _ _ _ _ rfl | exact Ren.nil _ | exact Ren.own _ _ _ _ ⟨_, rfl⟩ | refine yz ?_ | refine jA ?_ | refine jB ?_ | refine ⟨?_, ?_⟩))
      · rw [List.drop_of_length_le (by omega)] at hf
        rw [← hf]; rfl
      · rfl
theorem nR (L : List Per) (nm : ByteArray) (hm : L.length ≤ 4611686018427387904) : jD Tryz.prog G 41 [.ag [.sl 5 (L.map Per.av)], .v (.string nm)] [] (.v (.int .i64 (idxP nm L 0))) [] := by
  refine yi tbOk (yj Tryz.func41 (by kernel_rfl) rfl) Tryz.func41 rfl _ Tryz.ntmps41 (Nat.le_of_ble_eq_true rfl) fun X hX => ?_
  subst hX
  repeat (first | ((with_reducible refine zL ?_); refine zM rfl ?_) | ((with_reducible refine zB ?_); refine zH tbOk rfl rfl rfl rfl ?_) | ((with_reducible refine zF ?_); refine zX tbOk rfl rfl rfl rfl rfl ?_) | ((with_reducible refine yo ?_); refine ym rfl rfl rfl ?_) | ((with_reducible refine zI ?_); refine yv rfl ?_)  | refine yA ?_ | refine zS rfl ?_ | with_reducible (first | refine zY ?_ | refine zR ?_) | ((with_reducible refine zJ ?_ ?_); kernel_rfl))
  with_reducible refine zG ?_
  refine zD (ss := [(3, 1)]) (xO L nm hm) (by simp) (in1 rfl rfl) rfl (aD rfl) ?_
  repeat (first | ((with_reducible refine zL ?_); refine zM rfl ?_)  | refine yA ?_ | refine zS rfl ?_ | with_reducible (first | refine zY ?_ | refine zv ?_) )
  refine jK (by first | exact .inr rfl | exact .inl rfl) rfl rfl ?_
  rfl
end Go.Proofs.YtggagmafkdhjcaaGreatDoor
