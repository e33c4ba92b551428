/- register.valid, register.Check and their references, by the abstract machine; conditions: the table of classes stands. -/
import Derived.Test.YtggagmafkdhjcaaGreatDoorLexA
import Derived.Test.YtggagmafkdhjcaaGreatDoorRgP
set_option linter.unusedVariables false
set_option linter.unusedSimpArgs false
namespace Go.Proofs.YtggagmafkdhjcaaGreatDoor
open Go Go.RowKit
set_option maxRecDepth 10000
def Per.av (p : Per) : AV := .ag [.v (.string p.n), .v (.int .i64 p.c), .v (.int .i64 p.s), .v (.int .i64 p.f), .v (.int .i64 p.u)]
theorem aL (L : List Per) : ∀ x ∈ L.map Per.av, jY x.cells = true := by
  intro x hx
  obtain ⟨p, _, rfl⟩ := List.mem_map.1 hx
  rfl
variable {G : Nat → Option (List Value)}
theorem pZ (f u : Int) : jD Tryz.prog G 64 [.ag [.v (.int .i64 f), .v (.int .i64 u)]] [] (.v (.bool (dF f u))) [] := by
  refine yi tbOk (yj Tryz.func64 (by kernel_rfl) rfl) Tryz.func64 rfl _ Tryz.ntmps64 (Nat.le_of_ble_eq_true rfl) fun X hX => ?_
  subst hX
  repeat' (first | ((with_reducible refine zm ?_); refine zl rfl ?_) | ((with_reducible refine zL ?_); refine zM rfl ?_) | ((with_reducible refine zB ?_); refine zH tbOk rfl rfl rfl rfl ?_) | ((with_reducible refine zF ?_); refine zX tbOk rfl rfl rfl rfl rfl ?_) | ((with_reducible refine yo ?_); refine ym rfl rfl rfl ?_) | ((with_reducible refine zh ?_); (first | refine yO rfl (by first | rfl | assumption) rfl ?_ | refine yP rfl (by first | rfl | assumption) rfl ?_)) | ((with_reducible refine zA ?_); refine yM rfl rfl rfl ?_)  | refine yA ?_ | refine zS rfl ?_ | refine yR rfl rfl (by first | rfl | assumption) ?_ | refine yL rfl rfl (by first | rfl | assumption) ?_ | with_reducible (first | refine zY ?_ | refine zR ?_ | refine zv ?_) | ((with_reducible refine zJ ?_ ?_); kernel_rfl) | refine jH rfl rfl (fun _ => ?_) (fun _ => ?_) | refine jE rfl (fun _ => ?_) (fun _ => ?_))
  all_goals refine jK (by first | exact .inr rfl | exact .inl rfl) rfl rfl ?_
  all_goals simp_all [dF]
  all_goals omega
theorem uS (f u : Int) : jD Tryz.prog G 66 [.ag [.v (.int .i64 f), .v (.int .i64 u)]] [] (.v (.bool (dF f u))) [] := by
  refine yi tbOk (yj Tryz.func66 (by kernel_rfl) rfl) Tryz.func66 rfl _ Tryz.ntmps66 (Nat.le_of_ble_eq_true rfl) fun X hX => ?_
  subst hX
  repeat' (first | ((with_reducible refine zm ?_); refine zl rfl ?_) | ((with_reducible refine zL ?_); refine zM rfl ?_) | ((with_reducible refine zB ?_); refine zH tbOk rfl rfl rfl rfl ?_) | ((with_reducible refine zF ?_); refine zX tbOk rfl rfl rfl rfl rfl ?_) | ((with_reducible refine yo ?_); refine ym rfl rfl rfl ?_) | ((with_reducible refine zh ?_); (first | refine yO rfl (by first | rfl | assumption) rfl ?_ | refine yP rfl (by first | rfl | assumption) rfl ?_)) | ((with_reducible refine zA ?_); refine yM rfl rfl rfl ?_)  | refine yA ?_ | refine zS rfl ?_ | refine yR rfl rfl (by first | rfl | assumption) ?_ | refine yL rfl rfl (by first | rfl | assumption) ?_ | with_reducible (first | refine zY ?_ | refine zR ?_ | refine zv ?_) | ((with_reducible refine zJ ?_ ?_); kernel_rfl) | refine jH rfl rfl (fun _ => ?_) (fun _ => ?_) | refine jE rfl (fun _ => ?_) (fun _ => ?_))
  all_goals refine jK (by first | exact .inr rfl | exact .inl rfl) rfl rfl ?_
  all_goals simp_all [dF]
  all_goals omega
set_option maxHeartbeats 1000000 in
theorem nW (p : Per) (hG : GCls G) (hm : p.n.size ≤ maxLen) : jD Tryz.prog G 39 [p.av] [] (.v (.int .i64 (jF p))) [] := by
  refine yi tbOk (yj Tryz.func39 (by kernel_rfl) rfl) Tryz.func39 rfl _ Tryz.ntmps39 (Nat.le_of_ble_eq_true rfl) fun X hX => ?_
  subst hX
  repeat (first | ((with_reducible refine zL ?_); refine zM rfl ?_) | ((with_reducible refine zB ?_); refine zH tbOk rfl rfl rfl rfl ?_) | ((with_reducible refine zF ?_); refine zX tbOk rfl rfl rfl rfl rfl ?_) | ((with_reducible refine yo ?_); refine ym rfl rfl rfl ?_)  | refine yA ?_ | refine zS rfl ?_ | with_reducible (first | refine zY ?_ | refine zR ?_ | refine zq ?_) | ((with_reducible refine zJ ?_ ?_); kernel_rfl))
  with_reducible refine zG ?_
  refine zC (wH p.n hG hm) ?_
  repeat' (first | ((with_reducible refine zm ?_); refine zl rfl ?_) | ((with_reducible refine zL ?_); refine zM rfl ?_) | ((with_reducible refine zB ?_); refine zH tbOk rfl rfl rfl rfl ?_) | ((with_reducible refine zF ?_); refine zX tbOk rfl rfl rfl rfl rfl ?_) | ((with_reducible refine k_un ?_); refine yn rfl ?_) | ((with_reducible refine zh ?_); (first | refine yO rfl (by first | rfl | assumption) rfl ?_ | refine yP rfl (by first | rfl | assumption) rfl ?_)) | ((with_reducible refine yW ?_); refine yX tbOk rfl rfl rfl rfl rfl ?_) | ((with_reducible refine zA ?_); refine yM rfl rfl rfl ?_)  | refine yA ?_ | refine zS rfl ?_ | refine yU rfl rfl (by first | rfl | assumption) ?_ | refine yI rfl rfl (by first | rfl | assumption) ?_ | with_reducible (first | refine zY ?_ | refine zV ?_ | refine za ?_ | refine zR ?_ | refine zv ?_) | ((with_reducible refine zJ ?_ ?_); kernel_rfl) | refine yD rfl (by first | rfl | assumption) ?_ | refine jH rfl rfl (fun _ => ?_) (fun _ => ?_) | refine jE rfl (fun _ => ?_) (fun _ => ?_))
  · refine jK (by first | exact .inr rfl | exact .inl rfl) rfl rfl ?_
    rename_i h
    unfold jF
    rw [if_pos (by simpa using h)]
  all_goals first
    | (refine jK (by first | exact .inr rfl | exact .inl rfl) rfl rfl ?_; unfold jF; rw [if_neg (by simp_all), if_pos (by simp_all)]; done)
    | skip
  all_goals
    with_reducible refine zG ?_
    refine zC (pZ p.f p.u) ?_
    repeat' (first | ((with_reducible refine zL ?_); refine zM rfl ?_) | ((with_reducible refine k_un ?_); refine yn rfl ?_)  | refine yA ?_ | refine zS rfl ?_ | with_reducible (first | refine zY ?_ | refine zV ?_ | refine yV ?_ | refine za ?_ | refine zR ?_ | refine zr ?_ | refine zv ?_) | ((with_reducible refine zJ ?_ ?_); kernel_rfl) | refine jH rfl rfl (fun _ => ?_) (fun _ => ?_) | refine jE rfl (fun _ => ?_) (fun _ => ?_))
  all_goals
    refine jK (by first | exact .inr rfl | exact .inl rfl) rfl rfl ?_
    unfold jF
    rw [if_neg (by simp_all), if_neg (by simp_all <;> omega)]
    simp_all
set_option maxHeartbeats 1000000 in
theorem nL (p : Per) (hm : p.n.size ≤ maxLen) : jD Tryz.prog G 40 [p.av] [] (.v (.int .i64 (jV p))) [] := by
  refine yi tbOk (yj Tryz.func40 (by kernel_rfl) rfl) Tryz.func40 rfl _ Tryz.ntmps40 (Nat.le_of_ble_eq_true rfl) fun X hX => ?_
  subst hX
  repeat (first | ((with_reducible refine zL ?_); refine zM rfl ?_) | ((with_reducible refine zB ?_); refine zH tbOk rfl rfl rfl rfl ?_) | ((with_reducible refine zF ?_); refine zX tbOk rfl rfl rfl rfl rfl ?_) | ((with_reducible refine yo ?_); refine ym rfl rfl rfl ?_)  | refine yA ?_ | refine zS rfl ?_ | with_reducible (first | refine zY ?_ | refine zR ?_) | ((with_reducible refine zJ ?_ ?_); kernel_rfl))
  with_reducible refine zG ?_
  refine zC (vK p.n hm) ?_
  repeat' (first | ((with_reducible refine zm ?_); refine zl rfl ?_) | ((with_reducible refine zL ?_); refine zM rfl ?_) | ((with_reducible refine zB ?_); refine zH tbOk rfl rfl rfl rfl ?_) | ((with_reducible refine zF ?_); refine zX tbOk rfl rfl rfl rfl rfl ?_) | ((with_reducible refine k_un ?_); refine yn rfl ?_) | ((with_reducible refine zh ?_); (first | refine yO rfl (by first | rfl | assumption) rfl ?_ | refine yP rfl (by first | rfl | assumption) rfl ?_)) | ((with_reducible refine yW ?_); refine yX tbOk rfl rfl rfl rfl rfl ?_) | ((with_reducible refine zA ?_); refine yM rfl rfl rfl ?_)  | refine yA ?_ | refine zS rfl ?_ | refine yU rfl rfl (by first | rfl | assumption) ?_ | refine yI rfl rfl (by first | rfl | assumption) ?_ | with_reducible (first | refine zY ?_ | refine zV ?_ | refine zR ?_ | refine zr ?_ | refine zv ?_) | ((with_reducible refine zJ ?_ ?_); kernel_rfl) | refine yD rfl (by first | rfl | assumption) ?_ | refine jH rfl rfl (fun _ => ?_) (fun _ => ?_) | refine jE rfl (fun _ => ?_) (fun _ => ?_))
  · refine jK (by first | exact .inr rfl | exact .inl rfl) rfl rfl ?_
    rename_i h
    unfold jV
    rw [if_pos (by simpa using h)]
  all_goals first
    | (refine jK (by first | exact .inr rfl | exact .inl rfl) rfl rfl ?_; unfold jV; rw [if_neg (by simp_all), if_pos (by simp_all)]; done)
    | skip
  all_goals
    with_reducible refine zG ?_
    refine zC (uS p.f p.u) ?_
    repeat' (first | ((with_reducible refine zL ?_); refine zM rfl ?_) | ((with_reducible refine k_un ?_); refine yn rfl ?_)  | refine yA ?_ | refine zS rfl ?_ | with_reducible (first | refine zY ?_ | refine zV ?_ | refine zR ?_ | refine zr ?_ | refine zv ?_) | ((with_reducible refine zJ ?_ ?_); kernel_rfl) | refine jH rfl rfl (fun _ => ?_) (fun _ => ?_) | refine jE rfl (fun _ => ?_) (fun _ => ?_))
  all_goals
    refine jK (by first | exact .inr rfl | exact .inl rfl) rfl rfl ?_
    unfold jV
    rw [if_neg (by simp_all), if_neg (by simp_all <;> omega)]
    simp_all
set_option maxHeartbeats 2000000 in
theorem dM (L : List Per) (hG : GCls G) (hs : ∀ p ∈ L, p.n.size ≤ maxLen) (hm : L.length ≤ maxLen) :
    jD Tryz.prog G 14 [.ag [.sl 5 (L.map Per.av)]] [] (.v (.int .i64 (jI jF L))) [] := by
  have hm2 : L.length ≤ 9223372036854775807 := by unfold maxLen at hm; omega
  refine yi tbOk (yj Tryz.func14 (by kernel_rfl) rfl) Tryz.func14 rfl _ Tryz.ntmps14 (Nat.le_of_ble_eq_true rfl) fun X hX => ?_
  subst hX
  repeat (first | ((with_reducible refine zL ?_); refine zM rfl ?_) | ((with_reducible refine zB ?_); refine zH tbOk rfl rfl rfl rfl ?_) | ((with_reducible refine zF ?_); refine zX tbOk rfl rfl rfl rfl rfl ?_) | ((with_reducible refine yo ?_); refine ym rfl rfl rfl ?_) | ((with_reducible refine zG ?_); refine yp tbOk rfl rfl ?_) | ((with_reducible refine zA ?_); refine yM rfl rfl rfl ?_)  | refine yA ?_ | refine zS rfl ?_ | with_reducible (first | refine zY ?_ | refine zR ?_) | ((with_reducible refine zJ ?_ ?_); kernel_rfl))
  refine jE rfl (fun h64 => ?_) (fun h64 => ?_)
  · repeat (first | ((with_reducible refine zL ?_); refine zM rfl ?_)  | refine yA ?_ | refine zS rfl ?_ | with_reducible (first | refine zY ?_ | refine zV ?_ | refine zR ?_ | refine zv ?_) | ((with_reducible refine zJ ?_ ?_); kernel_rfl))
    refine jK (by first | exact .inr rfl | exact .inl rfl) rfl rfl ?_
    unfold jI
    rw [if_pos (by simp at h64; omega)]
  · repeat (first | ((with_reducible refine zm ?_); refine zl rfl ?_) | ((with_reducible refine zB ?_); refine zH tbOk rfl rfl rfl rfl ?_) | ((with_reducible refine zF ?_); refine zX tbOk rfl rfl rfl rfl rfl ?_) | ((with_reducible refine zG ?_); refine yp tbOk rfl rfl ?_)  | refine yA ?_ | refine zS rfl ?_ | with_reducible (first | refine zY ?_ | refine zR ?_ | refine zq ?_ | refine zr ?_) | ((with_reducible refine zJ ?_ ?_); kernel_rfl))
    have h64' : ¬ 64 < L.length := by simp at h64; omega
    have e0 : jI jF L = pgoE jF none L := by unfold jI; rw [if_neg h64']
    rw [e0]
    refine jZ (ι := Nat) (fun k => k ≤ L.length ∧ pgoE jF (aG L k) (L.drop k) = pgoE jF none L) (fun k => L.length - k) (fun v k => [(1, .ptr 1 (v 1) 0), (11, .sl 5 (L.map Per.av)), (12, .v (.int .i64 (L.map Per.av).length)), (13, .v (.int .i64 k))]) (fun v k => [(1, .box [.sl 5 (L.map Per.av)])]) ?_ ?_
    · exact ⟨0, ⟨Nat.zero_le _, rfl⟩, trivial, ⟨rfl, rfl, rfl, rfl, trivial⟩, ⟨rfl, trivial⟩⟩
    · rintro v k ⟨hk, hf⟩
      repeat (first | ((with_reducible refine zA ?_); refine yM rfl rfl rfl ?_)  | refine yA ?_ | refine zS rfl ?_ | with_reducible (first | refine zY ?_ | refine zR ?_) | ((with_reducible refine zJ ?_ ?_); kernel_rfl))
      refine jE rfl (fun h => ?_) (fun h => ?_)
      · have hlt : k < L.length := by simpa using h
        obtain ⟨p, hx⟩ := yr hlt
        have hy : (L.map Per.av)[k]? = some p.av := by rw [List.getElem?_map, hx]; rfl
        have hp := tB (E := jF) hx (aG L k)
        rw [hf] at hp
        repeat (first | ((with_reducible refine zm ?_); refine zl rfl ?_) | ((with_reducible refine zL ?_); refine zM rfl ?_) | ((with_reducible refine zF ?_); (first | refine zj tbOk rfl rfl rfl rfl (Nat.le_of_ble_eq_true rfl) ?_ | refine zU tbOk rfl rfl (Nat.le_of_ble_eq_true rfl) ?_)) | ((with_reducible refine yQ ?_); refine yS tbOk rfl rfl rfl rfl rfl rfl rfl (Nat.le_of_ble_eq_true rfl) rfl ?_) | ((with_reducible refine yZ ?_); refine ya tbOk rfl rfl ?_) | ((with_reducible refine zE ?_); refine zQ tbOk rfl rfl rfl rfl (by assumption) ?_)  | refine yA ?_ | refine zS rfl ?_ | with_reducible (first | refine zY ?_ | refine zR ?_ | refine zq ?_ | refine zr ?_) | ((with_reducible refine zJ ?_ ?_); kernel_rfl))
        with_reducible refine zG ?_
        refine zC (nW p hG (hs p (List.mem_of_getElem? hx))) ?_
        repeat (first | ((with_reducible refine zm ?_); refine zl rfl ?_) | ((with_reducible refine zL ?_); refine zM rfl ?_) | ((with_reducible refine zA ?_); refine yM rfl rfl rfl ?_)  | refine yA ?_ | refine zS rfl ?_ | with_reducible (first | refine zY ?_ | refine zR ?_) | ((with_reducible refine zJ ?_ ?_); kernel_rfl))
        refine jE rfl (fun hE => ?_) (fun hE => ?_)
        · repeat (first | ((with_reducible refine zm ?_); refine zl rfl ?_) | ((with_reducible refine zL ?_); refine zM rfl ?_)  | refine yA ?_ | refine zS rfl ?_ | with_reducible (first | refine zY ?_ | refine zV ?_ | refine za ?_ | refine zR ?_ | refine zv ?_) | ((with_reducible refine zJ ?_ ?_); kernel_rfl))
          refine jK (by first | exact .inr rfl | exact .inl rfl) rfl rfl ?_
          rw [if_pos (by simpa using hE)] at hp
          rw [hp]
        · rw [if_neg (by simpa using hE)] at hp
          repeat (first | ((with_reducible refine zm ?_); refine zl rfl ?_) | ((with_reducible refine zA ?_); refine yM rfl rfl rfl ?_)  | refine zS rfl ?_ | with_reducible (first | refine zY ?_ | refine zR ?_ | refine zr ?_) | ((with_reducible refine yg mixd ?_ ?_); kernel_rfl))
          refine jH rfl rfl (fun h0 => ?_) (fun h0 => ?_)
          · obtain ⟨m, rfl⟩ : ∃ m, k = m + 1 := ⟨k - 1, by simp at h0; omega⟩
            obtain ⟨q, hq⟩ := yr (L := L) (k := m) (by omega)
            have hz : (((m + 1 : Nat) : Int) - 1).toNat = m := by omega
            have hqz : (L.map Per.av)[(((m + 1 : Nat) : Int) - 1).toNat]? = some q.av := by rw [hz, List.getElem?_map, hq]; rfl
            repeat (first | ((with_reducible refine zm ?_); refine zl rfl ?_) | ((with_reducible refine zB ?_); (first | refine zH tbOk rfl rfl rfl rfl ?_ | refine zO tbOk rfl rfl rfl rfl ?_)) | ((with_reducible refine zF ?_); (first | refine zX tbOk rfl rfl rfl rfl rfl ?_ | refine zT tbOk rfl rfl rfl ?_)) | ((with_reducible refine zh ?_); refine yO rfl (by first | rfl | assumption) rfl ?_) | ((with_reducible refine zE ?_); refine zk tbOk rfl rfl rfl rfl (by omega) (by assumption) ?_) | ((with_reducible refine zA ?_); (first | refine yN rfl rfl (by omega) ?_ | refine yh rfl rfl rfl ?_))  | refine yl (by kernel_rfl) ?_ | refine zS rfl ?_ | refine yR rfl rfl (by first | rfl | assumption) ?_ | with_reducible refine zY ?_ )
            rw [qS hq] at hp
            refine jE rfl (fun hT => ?_) (fun hT => ?_)
            · repeat (first | ((with_reducible refine zL ?_); refine zM rfl ?_)  | refine yA ?_ | refine zS rfl ?_ | with_reducible (first | refine zY ?_ | refine zV ?_ | refine za ?_ | refine zR ?_ | refine zv ?_) | ((with_reducible refine zJ ?_ ?_); kernel_rfl))
              refine jK (by first | exact .inr rfl | exact .inl rfl) rfl rfl ?_
              rw [hp, if_pos]
              unfold less
              simpa [jQ, ByteArray.toList_eq] using hT
            · repeat (first | ((with_reducible refine zm ?_); refine zl rfl ?_) | ((with_reducible refine zA ?_); refine yE rfl rfl (by omega) ?_)  | refine yA ?_ | refine zS rfl ?_ | with_reducible (first | refine zY ?_ | refine yV ?_ | refine zr ?_) | ((with_reducible refine zJ ?_ ?_); kernel_rfl))
              refine ⟨m + 1 + 1, ⟨by omega, ?_⟩, by omega, ⟨rfl, rfl, rfl, rfl, trivial⟩, ⟨rfl, trivial⟩⟩
              rw [hp, if_neg, qS hx]
              unfold less
              simpa [jQ, ByteArray.toList_eq] using hT
          · obtain rfl : k = 0 := by simp at h0; omega
            repeat (first | ((with_reducible refine zm ?_); refine zl rfl ?_) | ((with_reducible refine zh ?_); refine yP rfl (by first | rfl | assumption) rfl ?_) | ((with_reducible refine zA ?_); refine yE rfl rfl (by omega) ?_)  | refine yA ?_ | refine yl (by kernel_rfl) ?_ | refine zS rfl ?_ | refine yL rfl rfl (by first | rfl | assumption) ?_ | with_reducible (first | refine zY ?_ | refine yV ?_ | refine zr ?_) | ((with_reducible refine zJ ?_ ?_); kernel_rfl) | refine yJ rfl (by first | rfl | assumption) ?_)
            refine ⟨1, ⟨by omega, ?_⟩, by omega, ⟨rfl, rfl, rfl, rfl, trivial⟩, ⟨rfl, trivial⟩⟩
            rw [hp, if_neg (by simp [aG]), qS hx]
      · have hlt : ¬ k < L.length := by simpa using h
        repeat (first | ((with_reducible refine zL ?_); refine zM rfl ?_)  | refine yA ?_ | refine zS rfl ?_ | with_reducible (first | refine zY ?_ | refine ze ?_ | refine zR ?_ | refine yK ?_ | refine zv ?_) | ((with_reducible refine zW ?_ ?_); rfl) | ((with_reducible refine zJ ?_ ?_); kernel_rfl))
        refine jK (by first | exact .inr rfl | exact .inl rfl) rfl rfl ?_
        rw [List.drop_of_length_le (by omega)] at hf
        rw [← hf]; rfl
end Go.Proofs.YtggagmafkdhjcaaGreatDoor
