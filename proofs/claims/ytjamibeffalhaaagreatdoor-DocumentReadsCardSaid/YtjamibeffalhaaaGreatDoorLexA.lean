/- lexeme.Name, its reference, and what they call, by the abstract machine; conditions: the table of classes stands. -/
import Derived.Test.YtjamibeffalhaaaGreatDoorAbsS
import Derived.Test.YtjamibeffalhaaaGreatDoorTab
import Derived.Test.YtjamibeffalhaaaGreatDoorLexP
set_option linter.unusedVariables false
set_option linter.unusedSimpArgs false
namespace Go.Proofs.YtjamibeffalhaaaGreatDoor
open Go Go.RowKit
set_option maxRecDepth 10000
def clsL : List Value := [.int .u8 65, .int .u8 90, .bool true, .int .u8 97, .int .u8 122, .bool true, .int .u8 48, .int .u8 57, .bool false, .int .u8 95, .int .u8 95, .bool false]
def GCls (G : Nat → Option (List Value)) : Prop := G 0 = some clsL
theorem idxS (s : ByteArray) (k : Nat) (c : UInt8) (hc : s.data.toList[k]? = some c) (w : World) : (Instr.index 9 (.string s) (.int .i64 k)).run Tryz.prog w = .ok (.int .u8 (c.toNat : Int)) w := by
  have hk := yO hc
  have hk2 : k < s.size := by simpa using hk
  rw [run_index_string w 9 s .i64 _ Tryz.underlying9, dif_pos ⟨by omega, by omega⟩]
  have e : ((k : Int)).toNat = k := by omega
  simp only [e]
  have : s[k] = c := by
    rw [List.getElem?_eq_getElem hk] at hc
    injection hc with hc
  rw [this]
theorem sizeS (s : ByteArray) : s.size = s.data.toList.length := by simp
theorem clsAt {k : Nat} (hk : k < 4) : ∃ lo hi fs, gE[k]? = some (lo, hi, fs) ∧ ∀ w : World, (Instr.index 143 (.agg ⟨clsL⟩) (.int .i64 k)).run Tryz.prog w = .ok (.agg ⟨[.int .u8 lo, .int .u8 hi, .bool fs]⟩) w := by
  obtain rfl | rfl | rfl | rfl : k = 0 ∨ k = 1 ∨ k = 2 ∨ k = 3 := by omega
  · exact ⟨65, 90, true, rfl, fun w => by kernel_rfl⟩
  · exact ⟨97, 122, true, rfl, fun w => by kernel_rfl⟩
  · exact ⟨48, 57, false, rfl, fun w => by kernel_rfl⟩
  · exact ⟨95, 95, false, rfl, fun w => by kernel_rfl⟩
variable {G : Nat → Option (List Value)}
theorem rD (b : Int) : zz Tryz.prog G 103 [.v (.int .u8 b)] [] (.v (.bool (qX b))) [] := by
  refine zb tbOk (zc Tryz.func103 (by kernel_rfl) rfl) Tryz.func103 rfl _ Tryz.ntmps103 (Nat.le_of_ble_eq_true rfl) fun X hX => ?_
  subst hX
  repeat' (first | ((with_reducible refine zK ?_); refine zJ rfl ?_) | ((with_reducible refine zE ?_); refine zF rfl ?_) | ((with_reducible refine za ?_); (first | refine zh rfl (by first | rfl | assumption) rfl ?_ | refine zf rfl (by first | rfl | assumption) rfl ?_)) | ((with_reducible refine zQ ?_); refine zT rfl rfl rfl ?_)  | refine zL ?_ | refine zB rfl ?_ | refine yC rfl rfl (by first | rfl | assumption) ?_ | refine yE rfl rfl (by first | rfl | assumption) ?_ | refine zw rfl rfl (by first | rfl | assumption) ?_ | refine yA rfl rfl (by first | rfl | assumption) ?_ | refine jT rfl rfl rfl ?_ | with_reducible (first | refine zG ?_ | refine zH ?_ | refine zN ?_) | ((with_reducible refine zA ?_ ?_); kernel_rfl) | refine zv rfl rfl (fun _ => ?_) (fun _ => ?_) | refine zZ rfl (fun _ => ?_) (fun _ => ?_))
  all_goals refine zm (by first | exact .inr rfl | exact .inl rfl) rfl rfl ?_
  all_goals simp_all [qX]
  all_goals omega
theorem digit_A (b : Int) : zz Tryz.prog G 104 [.v (.int .u8 b)] [] (.v (.bool (iR b))) [] := by
  refine zb tbOk (zc Tryz.func104 (by kernel_rfl) rfl) Tryz.func104 rfl _ Tryz.ntmps104 (Nat.le_of_ble_eq_true rfl) fun X hX => ?_
  subst hX
  repeat' (first | ((with_reducible refine zK ?_); refine zJ rfl ?_) | ((with_reducible refine zE ?_); refine zF rfl ?_) | ((with_reducible refine za ?_); (first | refine zh rfl (by first | rfl | assumption) rfl ?_ | refine zf rfl (by first | rfl | assumption) rfl ?_)) | ((with_reducible refine zQ ?_); refine zT rfl rfl rfl ?_)  | refine zL ?_ | refine zB rfl ?_ | refine yC rfl rfl (by first | rfl | assumption) ?_ | refine yE rfl rfl (by first | rfl | assumption) ?_ | with_reducible (first | refine zG ?_ | refine zH ?_ | refine zN ?_) | ((with_reducible refine zA ?_ ?_); kernel_rfl) | refine zv rfl rfl (fun _ => ?_) (fun _ => ?_) | refine zZ rfl (fun _ => ?_) (fun _ => ?_))
  all_goals refine zm (by first | exact .inr rfl | exact .inl rfl) rfl rfl ?_
  all_goals simp_all [iR]
  all_goals omega
set_option maxHeartbeats 1000000 in
theorem fits_A (b : Int) (f : Bool) (hG : GCls G) : zz Tryz.prog G 101 [.v (.int .u8 b), .v (.bool f)] [] (.v (.bool (fK b f))) [] := by
  refine zb tbOk (zc Tryz.func101 (by kernel_rfl) rfl) Tryz.func101 rfl _ Tryz.ntmps101 (Nat.le_of_ble_eq_true rfl) fun X hX => ?_
  subst hX
  have hg0 : X.G 0 = some clsL := hG
  repeat (first | ((with_reducible refine zE ?_); refine zF rfl ?_)  | refine zL ?_ | refine zB rfl ?_ | with_reducible (first | refine zG ?_ | refine zH ?_) | ((with_reducible refine zA ?_ ?_); kernel_rfl))
  with_reducible refine zR ?_
  refine rL tbOk rfl rfl hg0 rfl ?_
  repeat (first | ((with_reducible refine zK ?_); refine zJ rfl ?_)  | refine zL ?_ | refine zB rfl ?_ | with_reducible (first | refine zG ?_ | refine zY ?_) )
  refine yL (ι := Nat) (fun k => k ≤ 4 ∧ eP (gE.drop k) b f = fK b f) (fun k => 4 - k) (fun v k => [(0, .v (.int .u8 b)), (1, .v (.bool f)), (7, .v (.agg ⟨clsL⟩)), (8, .v (.int .i64 k))]) (fun v k => []) ?_ ?_
  · exact ⟨0, ⟨by omega, rfl⟩, trivial, ⟨rfl, rfl, rfl, rfl, trivial⟩, trivial⟩
  · rintro v k ⟨hk, hf⟩
    repeat (first | ((with_reducible refine zQ ?_); refine zT rfl rfl rfl ?_)  | refine zL ?_ | refine zB rfl ?_ | with_reducible (first | refine zG ?_ | refine zH ?_) | ((with_reducible refine zA ?_ ?_); kernel_rfl))
    refine zZ rfl (fun h => ?_) (fun h => ?_)
    · have hlt : k < 4 := by simp at h; omega
      obtain ⟨lo, hi, fs, ht, ix⟩ := clsAt hlt
      have e0 : fK b f = if lo ≤ b ∧ b ≤ hi then (fs || !f) else eP (gE.drop (k + 1)) b f := by
        rw [← hf, yT ht, eP]
      repeat' (first | ((with_reducible refine zK ?_); refine zJ rfl ?_) | ((with_reducible refine zE ?_); refine zF rfl ?_) | ((with_reducible refine zM ?_); refine zI tbOk rfl rfl rfl rfl ?_) | ((with_reducible refine zR ?_); refine zP tbOk rfl rfl rfl rfl rfl ?_) | ((with_reducible refine zp ?_); refine zq tbOk rfl rfl rfl rfl rfl rfl rfl (Nat.le_of_ble_eq_true rfl) rfl ?_) | ((with_reducible refine yR ?_); refine yQ tbOk rfl rfl ?_) | ((with_reducible refine k_un ?_); refine jF rfl ?_) | ((with_reducible refine za ?_); (first | refine zh rfl (by first | rfl | assumption) rfl ?_ | refine zf rfl (by first | rfl | assumption) rfl ?_)) | ((with_reducible refine jA ?_); refine sE rfl rfl (by assumption) ?_) | ((with_reducible refine zQ ?_); (first | refine zg rfl rfl (by omega) ?_ | refine zT rfl rfl rfl ?_))  | refine zL ?_ | refine zB rfl ?_ | refine yC rfl rfl (by first | rfl | assumption) ?_ | refine yE rfl rfl (by first | rfl | assumption) ?_ | refine zw rfl rfl (by first | rfl | assumption) ?_ | refine yA rfl rfl (by first | rfl | assumption) ?_ | with_reducible (first | refine zG ?_ | refine zO ?_ | refine zu ?_ | refine zV ?_ | refine zH ?_ | refine zY ?_ | refine zS ?_ | refine zN ?_) | ((with_reducible refine zA ?_ ?_); kernel_rfl) | refine yF rfl (by first | rfl | assumption) ?_ | refine zv rfl rfl (fun _ => ?_) (fun _ => ?_) | refine zZ rfl (fun _ => ?_) (fun _ => ?_))
      all_goals first
        | (refine zm (by first | exact .inr rfl | exact .inl rfl) rfl rfl ?_; rw [e0, if_pos (by simp_all)]; simp_all; done)
        | (refine ⟨k + 1, ⟨by omega, ?_⟩, by omega, ⟨rfl, rfl, rfl, rfl, trivial⟩, trivial⟩; rw [e0, if_neg (by simp_all <;> omega)])
    · obtain rfl : k = 4 := by simp at h; omega
      repeat (first | ((with_reducible refine zE ?_); refine zF rfl ?_)  | refine zL ?_ | refine zB rfl ?_ | with_reducible (first | refine zG ?_ | refine zo ?_ | refine zH ?_ | refine yB ?_ | refine zN ?_) | ((with_reducible refine ze ?_ ?_); rfl) | ((with_reducible refine zA ?_ ?_); kernel_rfl))
      refine zm (by first | exact .inr rfl | exact .inl rfl) rfl rfl ?_
      rw [← hf]; rfl
set_option maxHeartbeats 1000000 in
theorem nJ (s : ByteArray) (hG : GCls G) (hm : s.size ≤ maxLen) : zz Tryz.prog G 65 [.v (.string s)] [] (.v (.bool (jd s.data.toList))) [] := by
  have hm2 : s.size ≤ 9223372036854775807 := by unfold maxLen at hm; omega
  have hs := sizeS s
  refine zb tbOk (zc Tryz.func65 (by kernel_rfl) rfl) Tryz.func65 rfl _ Tryz.ntmps65 (Nat.le_of_ble_eq_true rfl) fun X hX => ?_
  subst hX
  repeat (first | ((with_reducible refine zK ?_); refine zJ rfl ?_) | ((with_reducible refine zE ?_); refine zF rfl ?_) | ((with_reducible refine zt ?_); refine yv (by exact Tryz.underlying9) rfl ?_)  | refine zL ?_ | refine zB rfl ?_ | with_reducible (first | refine zG ?_ | refine zH ?_ | refine zY ?_) | ((with_reducible refine zA ?_ ?_); kernel_rfl))
  refine yL (ι := Nat) (fun k => k ≤ s.size ∧ qN (s.data.toList.drop k) (decide (k = 0)) = qN s.data.toList true) (fun k => s.size - k) (fun v k => [(0, .v (.string s)), (5, .v (.int .i64 s.size)), (6, .v (.int .i64 k))]) (fun v k => []) ?_ ?_
  · exact ⟨0, ⟨by omega, rfl⟩, trivial, ⟨rfl, rfl, rfl, trivial⟩, trivial⟩
  · rintro v k ⟨hk, hf⟩
    repeat (first | ((with_reducible refine zQ ?_); refine zT rfl rfl rfl ?_)  | refine zL ?_ | refine zB rfl ?_ | with_reducible (first | refine zG ?_ | refine zH ?_) | ((with_reducible refine zA ?_ ?_); kernel_rfl))
    refine zZ rfl (fun h => ?_) (fun h => ?_)
    · have hlt : k < s.size := by simp at h; omega
      obtain ⟨c, hx⟩ := zd (L := s.data.toList) (k := k) (by rw [← hs]; exact hlt)
      have ix := idxS s k c hx
      have hf0 : decide (k = 0) = ((k : Int) == 0) := by
        by_cases h0 : k = 0
        · simp [h0]
        · have : ((k : Int) == 0) = false := by simp; omega
          rw [this]; simp [h0]
      rw [yT hx, qN, hf0] at hf
      repeat (first | ((with_reducible refine zK ?_); refine zJ rfl ?_) | ((with_reducible refine zE ?_); refine zF rfl ?_) | ((with_reducible refine jA ?_); refine jC rfl rfl (by assumption) ?_) | ((with_reducible refine zQ ?_); refine zT rfl rfl rfl ?_)  | refine zL ?_ | refine zB rfl ?_ | with_reducible (first | refine zG ?_ | refine zH ?_ | refine zY ?_ | refine zS ?_) | ((with_reducible refine zA ?_ ?_); kernel_rfl))
      with_reducible refine zt ?_
      refine zC (fits_A _ _ hG) ?_
      repeat (first | ((with_reducible refine k_un ?_); refine jF rfl ?_)  | refine zL ?_ | refine zB rfl ?_ | with_reducible refine zG ?_ )
      refine zZ rfl (fun h1 => ?_) (fun h1 => ?_)
      · repeat (first | ((with_reducible refine zE ?_); refine zF rfl ?_)  | refine zL ?_ | refine zB rfl ?_ | with_reducible (first | refine zG ?_ | refine zO ?_ | refine zV ?_ | refine zH ?_ | refine zN ?_) | ((with_reducible refine zA ?_ ?_); kernel_rfl))
        refine zm (by first | exact .inr rfl | exact .inl rfl) rfl rfl ?_
        unfold jd
        rw [← hf]
        simp at h1
        rw [h1]; rfl
      · repeat (first | ((with_reducible refine zK ?_); refine zJ rfl ?_) | ((with_reducible refine zQ ?_); refine zg rfl rfl (by omega) ?_)  | refine zL ?_ | refine zB rfl ?_ | with_reducible (first | refine zG ?_ | refine zu ?_ | refine zS ?_) | ((with_reducible refine zA ?_ ?_); kernel_rfl))
        refine ⟨k + 1, ⟨by omega, ?_⟩, by omega, ⟨rfl, rfl, rfl, trivial⟩, trivial⟩
        simp at h1
        rw [← hf, h1]; simp
    · obtain rfl : k = s.size := by simp at h; omega
      have hf1 : qN s.data.toList true = true := by
        rw [← hf, List.drop_of_length_le (by rw [← hs]; exact Nat.le_refl _)]; rfl
      repeat' (first | ((with_reducible refine zK ?_); refine zJ rfl ?_) | ((with_reducible refine zE ?_); refine zF rfl ?_) | ((with_reducible refine za ?_); (first | refine zh rfl (by first | rfl | assumption) rfl ?_ | refine zf rfl (by first | rfl | assumption) rfl ?_)) | ((with_reducible refine zt ?_); refine yv (by exact Tryz.underlying9) rfl ?_) | ((with_reducible refine zQ ?_); refine zT rfl rfl rfl ?_)  | refine zL ?_ | refine zB rfl ?_ | refine yC rfl rfl (by first | rfl | assumption) ?_ | refine yE rfl rfl (by first | rfl | assumption) ?_ | with_reducible (first | refine zG ?_ | refine zo ?_ | refine zH ?_ | refine yB ?_ | refine zN ?_) | ((with_reducible refine ze ?_ ?_); rfl) | ((with_reducible refine zA ?_ ?_); kernel_rfl) | refine zv rfl rfl (fun _ => ?_) (fun _ => ?_) | refine zZ rfl (fun _ => ?_) (fun _ => ?_))
      all_goals refine zm (by first | exact .inr rfl | exact .inl rfl) rfl rfl ?_
      all_goals unfold jd
      all_goals rw [hf1, ← hs]
      all_goals clear hs hf hf1
      all_goals refine congrArg (fun b => AV.v (.bool b)) ?_
      all_goals rw [Bool.eq_iff_iff]
      all_goals simp at *
      all_goals omega
set_option maxHeartbeats 1000000 in
theorem iD (s : ByteArray) (hm : s.size ≤ maxLen) : zz Tryz.prog G 70 [.v (.string s)] [] (.v (.bool (jd s.data.toList))) [] := by
  have hm2 : s.size ≤ 9223372036854775807 := by unfold maxLen at hm; omega
  have hs := sizeS s
  rw [← oF]
  refine zb tbOk (zc Tryz.func70 (by kernel_rfl) rfl) Tryz.func70 rfl _ Tryz.ntmps70 (Nat.le_of_ble_eq_true rfl) fun X hX => ?_
  subst hX
  repeat (first | ((with_reducible refine zK ?_); refine zJ rfl ?_) | ((with_reducible refine zE ?_); refine zF rfl ?_) | ((with_reducible refine zt ?_); refine yv (by exact Tryz.underlying9) rfl ?_) | ((with_reducible refine zQ ?_); refine zT rfl rfl rfl ?_)  | refine zL ?_ | refine zB rfl ?_ | with_reducible (first | refine zG ?_ | refine zH ?_) | ((with_reducible refine zA ?_ ?_); kernel_rfl))
  refine zv rfl rfl (fun h1 => ?_) (fun h1 => ?_)
  · have e : cK s.data.toList = false := by
      have : s.data.toList = [] := List.eq_nil_of_length_eq_zero (by rw [← hs]; simp at h1; omega)
      rw [this]; rfl
    repeat (first | ((with_reducible refine zK ?_); refine zJ rfl ?_) | ((with_reducible refine zE ?_); refine zF rfl ?_) | ((with_reducible refine za ?_); refine zh rfl (by first | rfl | assumption) rfl ?_)  | refine zL ?_ | refine zB rfl ?_ | refine yA rfl rfl (by first | rfl | assumption) ?_ | with_reducible (first | refine zG ?_ | refine zO ?_ | refine zH ?_ | refine zN ?_) | ((with_reducible refine zA ?_ ?_); kernel_rfl) | refine zn rfl (by first | rfl | assumption) ?_)
    refine zm (by first | exact .inr rfl | exact .inl rfl) rfl rfl ?_
    rw [e]
  · repeat (first | ((with_reducible refine zK ?_); refine zJ rfl ?_) | ((with_reducible refine za ?_); refine zf rfl (by first | rfl | assumption) rfl ?_) | ((with_reducible refine zt ?_); refine yv (by exact Tryz.underlying9) rfl ?_) | ((with_reducible refine zQ ?_); refine zT rfl rfl rfl ?_)  | refine zB rfl ?_ | refine zw rfl rfl (by first | rfl | assumption) ?_  )
    refine zv rfl rfl (fun h2 => ?_) (fun h2 => ?_)
    · have e : cK s.data.toList = false := by
        unfold cK
        simp at h2
        split
        · rfl
        · rename_i c r hc
          have : decide ((c :: r).length ≤ 12) = false := by rw [← hc, ← hs]; simp; omega
          rw [this]; rfl
      repeat (first | ((with_reducible refine zE ?_); refine zF rfl ?_) | ((with_reducible refine za ?_); refine zh rfl (by first | rfl | assumption) rfl ?_)  | refine zL ?_ | refine zB rfl ?_ | refine yA rfl rfl (by first | rfl | assumption) ?_ | with_reducible (first | refine zG ?_ | refine zO ?_ | refine zH ?_ | refine zN ?_) | ((with_reducible refine zA ?_ ?_); kernel_rfl) | refine zn rfl (by first | rfl | assumption) ?_)
      refine zm (by first | exact .inr rfl | exact .inl rfl) rfl rfl ?_
      rw [e]
    · obtain ⟨c0, hx0⟩ := zd (L := s.data.toList) (k := 0) (by rw [← hs]; simp at h1; omega)
      have ix0 : ∀ w : World, (Instr.index 9 (.string s) (.int .i64 0)).run Tryz.prog w = .ok (.int .u8 (c0.toNat : Int)) w := fun w => idxS s 0 c0 hx0 w
      have e : cK s.data.toList = (qX c0.toNat && qf s.data.toList) := by
        unfold cK
        match hl : s.data.toList with
        | [] => rw [hl] at hx0; simp at hx0
        | c :: r =>
          rw [hl] at hx0
          simp at hx0
          subst hx0
          have : decide ((c :: r).length ≤ 12) = true := by rw [← hl, ← hs]; simp at h2 ⊢; omega
          simp only [this, Bool.true_and]
      rw [e]
      repeat (first | ((with_reducible refine zK ?_); refine zJ rfl ?_) | ((with_reducible refine jA ?_); refine jC rfl rfl (by assumption) ?_)  | refine zw rfl rfl (by first | rfl | assumption) ?_  )
      with_reducible refine zt ?_
      refine zC (rD _) ?_
      repeat (first | ((with_reducible refine k_un ?_); refine jF rfl ?_) | ((with_reducible refine za ?_); refine zf rfl (by first | rfl | assumption) rfl ?_)  | refine zL ?_ | refine zB rfl ?_ | refine zw rfl rfl (by first | rfl | assumption) ?_ | with_reducible refine zG ?_ )
      refine zZ rfl (fun h3 => ?_) (fun h3 => ?_)
      · repeat (first | ((with_reducible refine zE ?_); refine zF rfl ?_)  | refine zL ?_ | refine zB rfl ?_ | with_reducible (first | refine zG ?_ | refine zO ?_ | refine zH ?_ | refine zN ?_) | ((with_reducible refine zA ?_ ?_); kernel_rfl))
        refine zm (by first | exact .inr rfl | exact .inl rfl) rfl rfl ?_
        simp at h3
        rw [h3]; rfl
      · simp at h3
        rw [h3, Bool.true_and]
        repeat (first | ((with_reducible refine zE ?_); refine zF rfl ?_)  | refine zL ?_ | refine zB rfl ?_ | with_reducible (first | refine zG ?_ | refine zH ?_ | refine zY ?_ | refine zS ?_) | ((with_reducible refine zA ?_ ?_); kernel_rfl))
        refine yL (ι := Nat) (fun k => k ≤ s.size ∧ qf (s.data.toList.drop k) = qf s.data.toList) (fun k => s.size - k) (fun v k => [(0, .v (.string s)), (3, .v (.int .i64 k))]) (fun v k => []) ?_ ?_
        · exact ⟨0, ⟨by omega, rfl⟩, trivial, ⟨rfl, rfl, trivial⟩, trivial⟩
        · rintro v k ⟨hk, hf⟩
          repeat (first | ((with_reducible refine zK ?_); refine zJ rfl ?_) | ((with_reducible refine zt ?_); refine yv (by exact Tryz.underlying9) rfl ?_) | ((with_reducible refine zQ ?_); refine zT rfl rfl rfl ?_)  | refine zL ?_ | refine zB rfl ?_ | with_reducible (first | refine zG ?_ | refine zH ?_) | ((with_reducible refine zA ?_ ?_); kernel_rfl))
          refine zZ rfl (fun h => ?_) (fun h => ?_)
          · have hlt : k < s.size := by simp at h; omega
            obtain ⟨c, hx⟩ := zd (L := s.data.toList) (k := k) (by rw [← hs]; exact hlt)
            have ix := idxS s k c hx
            have hf' := hf
            rw [yT hx, qf] at hf
            repeat (first | ((with_reducible refine zK ?_); refine zJ rfl ?_) | ((with_reducible refine jA ?_); refine jC rfl rfl (by assumption) ?_)  | refine zB rfl ?_ | with_reducible (first | refine zG ?_ | refine zH ?_ | refine zY ?_ | refine zS ?_) | ((with_reducible refine zA ?_ ?_); kernel_rfl))
            with_reducible refine zt ?_
            refine zC (rD _) ?_
            repeat (first | ((with_reducible refine zK ?_); refine zJ rfl ?_) | ((with_reducible refine k_un ?_); refine jF rfl ?_)  | refine zB rfl ?_  )
            refine zv rfl rfl (fun h4 => ?_) (fun h4 => ?_)
            · repeat (first | ((with_reducible refine zK ?_); refine zJ rfl ?_) | ((with_reducible refine jA ?_); refine jC rfl rfl (by assumption) ?_)  | refine yC rfl rfl (by first | rfl | assumption) ?_  )
              with_reducible refine zt ?_
              refine zC (digit_A _) ?_
              repeat' (first | ((with_reducible refine zK ?_); refine zJ rfl ?_) | ((with_reducible refine zE ?_); refine zF rfl ?_) | ((with_reducible refine k_un ?_); refine jF rfl ?_) | ((with_reducible refine za ?_); (first | refine zh rfl (by first | rfl | assumption) rfl ?_ | refine zf rfl (by first | rfl | assumption) rfl ?_)) | ((with_reducible refine jA ?_); refine jC rfl rfl (by assumption) ?_) | ((with_reducible refine zQ ?_); (first | refine zg rfl rfl (by omega) ?_ | refine zT rfl rfl rfl ?_))  | refine zL ?_ | refine zB rfl ?_ | refine yC rfl rfl (by first | rfl | assumption) ?_ | refine yE rfl rfl (by first | rfl | assumption) ?_ | with_reducible (first | refine zG ?_ | refine zO ?_ | refine zu ?_ | refine zV ?_ | refine zH ?_ | refine zS ?_ | refine zN ?_) | ((with_reducible refine zA ?_ ?_); kernel_rfl) | refine yF rfl (by first | rfl | assumption) ?_ | refine zv rfl rfl (fun _ => ?_) (fun _ => ?_) | refine zZ rfl (fun _ => ?_) (fun _ => ?_))
              all_goals first
                | (refine zm (by first | exact .inr rfl | exact .inl rfl) rfl rfl ?_; rw [← hf]; clear hf hf' ix ix0 hs e hx hx0; simp_all [cG]; done)
                | (refine ⟨k + 1, ⟨by omega, ?_⟩, by omega, ⟨rfl, rfl, trivial⟩, trivial⟩; rw [← hf]; clear hf hf' ix ix0 hs e hx hx0; simp_all [cG]; done)
            · repeat' (first | ((with_reducible refine zK ?_); refine zJ rfl ?_) | ((with_reducible refine zE ?_); refine zF rfl ?_) | ((with_reducible refine za ?_); refine zf rfl (by first | rfl | assumption) rfl ?_) | ((with_reducible refine zQ ?_); refine zg rfl rfl (by omega) ?_)  | refine zL ?_ | refine zB rfl ?_ | refine yE rfl rfl (by first | rfl | assumption) ?_ | with_reducible (first | refine zG ?_ | refine zu ?_ | refine zS ?_) | ((with_reducible refine zA ?_ ?_); kernel_rfl) | refine yF rfl (by first | rfl | assumption) ?_ | refine zv rfl rfl (fun _ => ?_) (fun _ => ?_) | refine zZ rfl (fun _ => ?_) (fun _ => ?_))
              all_goals first
                | (refine zm (by first | exact .inr rfl | exact .inl rfl) rfl rfl ?_; rw [← hf]; clear hf hf' ix ix0 hs e hx hx0; simp_all [cG]; done)
                | (refine ⟨k + 1, ⟨by omega, ?_⟩, by omega, ⟨rfl, rfl, trivial⟩, trivial⟩; rw [← hf]; clear hf hf' ix ix0 hs e hx hx0; simp_all [cG]; done)
          · obtain rfl : k = s.size := by simp at h; omega
            have hf1 : qf s.data.toList = true := by
              rw [← hf, List.drop_of_length_le (by rw [← hs]; exact Nat.le_refl _)]; rfl
            repeat (first | ((with_reducible refine zE ?_); refine zF rfl ?_)  | refine zL ?_ | refine zB rfl ?_ | with_reducible (first | refine zG ?_ | refine zo ?_ | refine zH ?_ | refine yB ?_ | refine zN ?_) | ((with_reducible refine ze ?_ ?_); rfl) | ((with_reducible refine zA ?_ ?_); kernel_rfl))
            refine zm (by first | exact .inr rfl | exact .inl rfl) rfl rfl ?_
            rw [hf1]
end Go.Proofs.YtjamibeffalhaaaGreatDoor
