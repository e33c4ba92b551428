/- lexeme.Name, its reference, and what they call, by the abstract machine; conditions: the table of classes stands. -/
import Derived.Test.YtggagmafkdhjcaaGreatDoorAbsS
import Derived.Test.YtggagmafkdhjcaaGreatDoorTab
import Derived.Test.YtggagmafkdhjcaaGreatDoorLexP
set_option linter.unusedVariables false
set_option linter.unusedSimpArgs false
namespace Go.Proofs.YtggagmafkdhjcaaGreatDoor
open Go Go.RowKit
set_option maxRecDepth 10000
def clsL : List Value := [.int .u8 65, .int .u8 90, .bool true, .int .u8 97, .int .u8 122, .bool true, .int .u8 48, .int .u8 57, .bool false, .int .u8 95, .int .u8 95, .bool false]
def GCls (G : Nat → Option (List Value)) : Prop := G 0 = some clsL
theorem idxS (s : ByteArray) (k : Nat) (c : UInt8) (hc : s.data.toList[k]? = some c) (w : World) : (Instr.index 9 (.string s) (.int .i64 k)).run Tryz.prog w = .ok (.int .u8 (c.toNat : Int)) w := by
  have hk := jG hc
  have hk2 : k < s.size := by simpa using hk
  rw [run_index_string w 9 s .i64 _ Tryz.underlying9, dif_pos ⟨by omega, by omega⟩]
  have e : ((k : Int)).toNat = k := by omega
  simp only [e]
  have : s[k] = c := by
    rw [List.getElem?_eq_getElem hk] at hc
    injection hc with hc
  rw [this]
theorem vM (s : ByteArray) : s.size = s.data.toList.length := by simp
theorem xU {k : Nat} (hk : k < 4) : ∃ lo hi fs, cR[k]? = some (lo, hi, fs) ∧ ∀ w : World, (Instr.index 126 (.agg ⟨clsL⟩) (.int .i64 k)).run Tryz.prog w = .ok (.agg ⟨[.int .u8 lo, .int .u8 hi, .bool fs]⟩) w := by
  obtain rfl | rfl | rfl | rfl : k = 0 ∨ k = 1 ∨ k = 2 ∨ k = 3 := by omega
  · exact ⟨65, 90, true, rfl, fun w => by kernel_rfl⟩
  · exact ⟨97, 122, true, rfl, fun w => by kernel_rfl⟩
  · exact ⟨48, 57, false, rfl, fun w => by kernel_rfl⟩
  · exact ⟨95, 95, false, rfl, fun w => by kernel_rfl⟩
variable {G : Nat → Option (List Value)}
theorem kA (b : Int) : jD Tryz.prog G 86 [.v (.int .u8 b)] [] (.v (.bool (qB b))) [] := by
  refine yi tbOk (yj Tryz.func86 (by kernel_rfl) rfl) Tryz.func86 rfl _ Tryz.ntmps86 (Nat.le_of_ble_eq_true rfl) fun X hX => ?_
  subst hX
  repeat' (first | ((with_reducible refine zm ?_); refine zl rfl ?_) | ((with_reducible refine zL ?_); refine zM rfl ?_) | ((with_reducible refine zh ?_); (first | refine yO rfl (by first | rfl | assumption) rfl ?_ | refine yP rfl (by first | rfl | assumption) rfl ?_)) | ((with_reducible refine zA ?_); refine yM rfl rfl rfl ?_)  | refine yA ?_ | refine zS rfl ?_ | refine yR rfl rfl (by first | rfl | assumption) ?_ | refine yL rfl rfl (by first | rfl | assumption) ?_ | refine yU rfl rfl (by first | rfl | assumption) ?_ | refine yI rfl rfl (by first | rfl | assumption) ?_ | refine yc rfl rfl rfl ?_ | with_reducible (first | refine zY ?_ | refine zR ?_ | refine zv ?_) | ((with_reducible refine zJ ?_ ?_); kernel_rfl) | refine jH rfl rfl (fun _ => ?_) (fun _ => ?_) | refine jE rfl (fun _ => ?_) (fun _ => ?_))
  all_goals refine jK (by first | exact .inr rfl | exact .inl rfl) rfl rfl ?_
  all_goals simp_all [qB]
  all_goals omega
theorem tT (b : Int) : jD Tryz.prog G 87 [.v (.int .u8 b)] [] (.v (.bool (fA b))) [] := by
  refine yi tbOk (yj Tryz.func87 (by kernel_rfl) rfl) Tryz.func87 rfl _ Tryz.ntmps87 (Nat.le_of_ble_eq_true rfl) fun X hX => ?_
  subst hX
  repeat' (first | ((with_reducible refine zm ?_); refine zl rfl ?_) | ((with_reducible refine zL ?_); refine zM rfl ?_) | ((with_reducible refine zh ?_); (first | refine yO rfl (by first | rfl | assumption) rfl ?_ | refine yP rfl (by first | rfl | assumption) rfl ?_)) | ((with_reducible refine zA ?_); refine yM rfl rfl rfl ?_)  | refine yA ?_ | refine zS rfl ?_ | refine yR rfl rfl (by first | rfl | assumption) ?_ | refine yL rfl rfl (by first | rfl | assumption) ?_ | with_reducible (first | refine zY ?_ | refine zR ?_ | refine zv ?_) | ((with_reducible refine zJ ?_ ?_); kernel_rfl) | refine jH rfl rfl (fun _ => ?_) (fun _ => ?_) | refine jE rfl (fun _ => ?_) (fun _ => ?_))
  all_goals refine jK (by first | exact .inr rfl | exact .inl rfl) rfl rfl ?_
  all_goals simp_all [fA]
  all_goals omega
set_option maxHeartbeats 1000000 in
theorem vZ (b : Int) (f : Bool) (hG : GCls G) : jD Tryz.prog G 85 [.v (.int .u8 b), .v (.bool f)] [] (.v (.bool (bV b f))) [] := by
  refine yi tbOk (yj Tryz.func85 (by kernel_rfl) rfl) Tryz.func85 rfl _ Tryz.ntmps85 (Nat.le_of_ble_eq_true rfl) fun X hX => ?_
  subst hX
  have hg0 : X.G 0 = some clsL := hG
  repeat (first | ((with_reducible refine zL ?_); refine zM rfl ?_)  | refine yA ?_ | refine zS rfl ?_ | with_reducible (first | refine zY ?_ | refine zR ?_) | ((with_reducible refine zJ ?_ ?_); kernel_rfl))
  with_reducible refine zF ?_
  refine iQ tbOk rfl rfl hg0 rfl ?_
  repeat (first | ((with_reducible refine zm ?_); refine zl rfl ?_)  | refine yA ?_ | refine zS rfl ?_ | with_reducible (first | refine zY ?_ | refine zq ?_) )
  refine jZ (ι := Nat) (fun k => k ≤ 4 ∧ bQ (cR.drop k) b f = bV b f) (fun k => 4 - k) (fun v k => [(0, .v (.int .u8 b)), (1, .v (.bool f)), (7, .v (.agg ⟨clsL⟩)), (8, .v (.int .i64 k))]) (fun v k => []) ?_ ?_
  · exact ⟨0, ⟨by omega, rfl⟩, trivial, ⟨rfl, rfl, rfl, rfl, trivial⟩, trivial⟩
  · rintro v k ⟨hk, hf⟩
    repeat (first | ((with_reducible refine zA ?_); refine yM rfl rfl rfl ?_)  | refine yA ?_ | refine zS rfl ?_ | with_reducible (first | refine zY ?_ | refine zR ?_) | ((with_reducible refine zJ ?_ ?_); kernel_rfl))
    refine jE rfl (fun h => ?_) (fun h => ?_)
    · have hlt : k < 4 := by simp at h; omega
      obtain ⟨lo, hi, fs, ht, ix⟩ := xU hlt
      have e0 : bV b f = if lo ≤ b ∧ b ≤ hi then (fs || !f) else bQ (cR.drop (k + 1)) b f := by
        rw [← hf, ju ht, bQ]
      repeat' (first | ((with_reducible refine zm ?_); refine zl rfl ?_) | ((with_reducible refine zL ?_); refine zM rfl ?_) | ((with_reducible refine zB ?_); refine zH tbOk rfl rfl rfl rfl ?_) | ((with_reducible refine zF ?_); refine zX tbOk rfl rfl rfl rfl rfl ?_) | ((with_reducible refine yQ ?_); refine yS tbOk rfl rfl rfl rfl rfl rfl rfl (Nat.le_of_ble_eq_true rfl) rfl ?_) | ((with_reducible refine yZ ?_); refine ya tbOk rfl rfl ?_) | ((with_reducible refine k_un ?_); refine yn rfl ?_) | ((with_reducible refine zh ?_); (first | refine yO rfl (by first | rfl | assumption) rfl ?_ | refine yP rfl (by first | rfl | assumption) rfl ?_)) | ((with_reducible refine zZ ?_); refine zx rfl rfl (by assumption) ?_) | ((with_reducible refine zA ?_); (first | refine yE rfl rfl (by omega) ?_ | refine yM rfl rfl rfl ?_))  | refine yA ?_ | refine zS rfl ?_ | refine yR rfl rfl (by first | rfl | assumption) ?_ | refine yL rfl rfl (by first | rfl | assumption) ?_ | refine yU rfl rfl (by first | rfl | assumption) ?_ | refine yI rfl rfl (by first | rfl | assumption) ?_ | with_reducible (first | refine zY ?_ | refine zV ?_ | refine yV ?_ | refine za ?_ | refine zR ?_ | refine zq ?_ | refine zr ?_ | refine zv ?_) | ((with_reducible refine zJ ?_ ?_); kernel_rfl) | refine yJ rfl (by first | rfl | assumption) ?_ | refine jH rfl rfl (fun _ => ?_) (fun _ => ?_) | refine jE rfl (fun _ => ?_) (fun _ => ?_))
      all_goals first
        | (refine jK (by first | exact .inr rfl | exact .inl rfl) rfl rfl ?_; rw [e0, if_pos (by simp_all)]; simp_all; done)
        | (refine ⟨k + 1, ⟨by omega, ?_⟩, by omega, ⟨rfl, rfl, rfl, rfl, trivial⟩, trivial⟩; rw [e0, if_neg (by simp_all <;> omega)])
    · obtain rfl : k = 4 := by simp at h; omega
      repeat (first | ((with_reducible refine zL ?_); refine zM rfl ?_)  | refine yA ?_ | refine zS rfl ?_ | with_reducible (first | refine zY ?_ | refine ze ?_ | refine zR ?_ | refine yK ?_ | refine zv ?_) | ((with_reducible refine zW ?_ ?_); rfl) | ((with_reducible refine zJ ?_ ?_); kernel_rfl))
      refine jK (by first | exact .inr rfl | exact .inl rfl) rfl rfl ?_
      rw [← hf]; rfl
set_option maxHeartbeats 1000000 in
theorem wH (s : ByteArray) (hG : GCls G) (hm : s.size ≤ maxLen) : jD Tryz.prog G 63 [.v (.string s)] [] (.v (.bool (ql s.data.toList))) [] := by
  have hm2 : s.size ≤ 9223372036854775807 := by unfold maxLen at hm; omega
  have hs := vM s
  refine yi tbOk (yj Tryz.func63 (by kernel_rfl) rfl) Tryz.func63 rfl _ Tryz.ntmps63 (Nat.le_of_ble_eq_true rfl) fun X hX => ?_
  subst hX
  repeat (first | ((with_reducible refine zm ?_); refine zl rfl ?_) | ((with_reducible refine zL ?_); refine zM rfl ?_) | ((with_reducible refine zG ?_); refine yB (by exact Tryz.underlying9) rfl ?_)  | refine yA ?_ | refine zS rfl ?_ | with_reducible (first | refine zY ?_ | refine zR ?_ | refine zq ?_) | ((with_reducible refine zJ ?_ ?_); kernel_rfl))
  refine jZ (ι := Nat) (fun k => k ≤ s.size ∧ qD (s.data.toList.drop k) (decide (k = 0)) = qD s.data.toList true) (fun k => s.size - k) (fun v k => [(0, .v (.string s)), (5, .v (.int .i64 s.size)), (6, .v (.int .i64 k))]) (fun v k => []) ?_ ?_
  · exact ⟨0, ⟨by omega, rfl⟩, trivial, ⟨rfl, rfl, rfl, trivial⟩, trivial⟩
  · rintro v k ⟨hk, hf⟩
    repeat (first | ((with_reducible refine zA ?_); refine yM rfl rfl rfl ?_)  | refine yA ?_ | refine zS rfl ?_ | with_reducible (first | refine zY ?_ | refine zR ?_) | ((with_reducible refine zJ ?_ ?_); kernel_rfl))
    refine jE rfl (fun h => ?_) (fun h => ?_)
    · have hlt : k < s.size := by simp at h; omega
      obtain ⟨c, hx⟩ := yr (L := s.data.toList) (k := k) (by rw [← hs]; exact hlt)
      have ix := idxS s k c hx
      have hf0 : decide (k = 0) = ((k : Int) == 0) := by
        by_cases h0 : k = 0
        · simp [h0]
        · have : ((k : Int) == 0) = false := by simp; omega
          rw [this]; simp [h0]
      rw [ju hx, qD, hf0] at hf
      repeat (first | ((with_reducible refine zm ?_); refine zl rfl ?_) | ((with_reducible refine zL ?_); refine zM rfl ?_) | ((with_reducible refine zZ ?_); refine yY rfl rfl (by assumption) ?_) | ((with_reducible refine zA ?_); refine yM rfl rfl rfl ?_)  | refine yA ?_ | refine zS rfl ?_ | with_reducible (first | refine zY ?_ | refine zR ?_ | refine zq ?_ | refine zr ?_) | ((with_reducible refine zJ ?_ ?_); kernel_rfl))
      with_reducible refine zG ?_
      refine zC (vZ _ _ hG) ?_
      repeat (first | ((with_reducible refine k_un ?_); refine yn rfl ?_)  | refine yA ?_ | refine zS rfl ?_ | with_reducible refine zY ?_ )
      refine jE rfl (fun h1 => ?_) (fun h1 => ?_)
      · repeat (first | ((with_reducible refine zL ?_); refine zM rfl ?_)  | refine yA ?_ | refine zS rfl ?_ | with_reducible (first | refine zY ?_ | refine zV ?_ | refine za ?_ | refine zR ?_ | refine zv ?_) | ((with_reducible refine zJ ?_ ?_); kernel_rfl))
        refine jK (by first | exact .inr rfl | exact .inl rfl) rfl rfl ?_
        unfold ql
        rw [← hf]
        simp at h1
        rw [h1]; rfl
      · repeat (first | ((with_reducible refine zm ?_); refine zl rfl ?_) | ((with_reducible refine zA ?_); refine yE rfl rfl (by omega) ?_)  | refine yA ?_ | refine zS rfl ?_ | with_reducible (first | refine zY ?_ | refine yV ?_ | refine zr ?_) | ((with_reducible refine zJ ?_ ?_); kernel_rfl))
        refine ⟨k + 1, ⟨by omega, ?_⟩, by omega, ⟨rfl, rfl, rfl, trivial⟩, trivial⟩
        simp at h1
        rw [← hf, h1]; simp
    · obtain rfl : k = s.size := by simp at h; omega
      have hf1 : qD s.data.toList true = true := by
        rw [← hf, List.drop_of_length_le (by rw [← hs]; exact Nat.le_refl _)]; rfl
      repeat' (first | ((with_reducible refine zm ?_); refine zl rfl ?_) | ((with_reducible refine zL ?_); refine zM rfl ?_) | ((with_reducible refine zh ?_); (first | refine yO rfl (by first | rfl | assumption) rfl ?_ | refine yP rfl (by first | rfl | assumption) rfl ?_)) | ((with_reducible refine zG ?_); refine yB (by exact Tryz.underlying9) rfl ?_) | ((with_reducible refine zA ?_); refine yM rfl rfl rfl ?_)  | refine yA ?_ | refine zS rfl ?_ | refine yR rfl rfl (by first | rfl | assumption) ?_ | refine yL rfl rfl (by first | rfl | assumption) ?_ | with_reducible (first | refine zY ?_ | refine ze ?_ | refine zR ?_ | refine yK ?_ | refine zv ?_) | ((with_reducible refine zW ?_ ?_); rfl) | ((with_reducible refine zJ ?_ ?_); kernel_rfl) | refine jH rfl rfl (fun _ => ?_) (fun _ => ?_) | refine jE rfl (fun _ => ?_) (fun _ => ?_))
      all_goals refine jK (by first | exact .inr rfl | exact .inl rfl) rfl rfl ?_
      all_goals unfold ql
      all_goals rw [hf1, ← hs]
      all_goals clear hs hf hf1
      all_goals refine congrArg (fun b => AV.v (.bool b)) ?_
      all_goals rw [Bool.eq_iff_iff]
      all_goals simp at *
      all_goals omega
set_option maxHeartbeats 1000000 in
theorem vK (s : ByteArray) (hm : s.size ≤ maxLen) : jD Tryz.prog G 65 [.v (.string s)] [] (.v (.bool (ql s.data.toList))) [] := by
  have hm2 : s.size ≤ 9223372036854775807 := by unfold maxLen at hm; omega
  have hs := vM s
  rw [← iT]
  refine yi tbOk (yj Tryz.func65 (by kernel_rfl) rfl) Tryz.func65 rfl _ Tryz.ntmps65 (Nat.le_of_ble_eq_true rfl) fun X hX => ?_
  subst hX
  repeat (first | ((with_reducible refine zm ?_); refine zl rfl ?_) | ((with_reducible refine zL ?_); refine zM rfl ?_) | ((with_reducible refine zG ?_); refine yB (by exact Tryz.underlying9) rfl ?_) | ((with_reducible refine zA ?_); refine yM rfl rfl rfl ?_)  | refine yA ?_ | refine zS rfl ?_ | with_reducible (first | refine zY ?_ | refine zR ?_) | ((with_reducible refine zJ ?_ ?_); kernel_rfl))
  refine jH rfl rfl (fun h1 => ?_) (fun h1 => ?_)
  · have e : aR s.data.toList = false := by
      have : s.data.toList = [] := List.eq_nil_of_length_eq_zero (by rw [← hs]; simp at h1; omega)
      rw [this]; rfl
    repeat (first | ((with_reducible refine zm ?_); refine zl rfl ?_) | ((with_reducible refine zL ?_); refine zM rfl ?_) | ((with_reducible refine zh ?_); refine yO rfl (by first | rfl | assumption) rfl ?_)  | refine yA ?_ | refine zS rfl ?_ | refine yI rfl rfl (by first | rfl | assumption) ?_ | with_reducible (first | refine zY ?_ | refine zV ?_ | refine zR ?_ | refine zv ?_) | ((with_reducible refine zJ ?_ ?_); kernel_rfl) | refine yD rfl (by first | rfl | assumption) ?_)
    refine jK (by first | exact .inr rfl | exact .inl rfl) rfl rfl ?_
    rw [e]
  · repeat (first | ((with_reducible refine zm ?_); refine zl rfl ?_) | ((with_reducible refine zh ?_); refine yP rfl (by first | rfl | assumption) rfl ?_) | ((with_reducible refine zG ?_); refine yB (by exact Tryz.underlying9) rfl ?_) | ((with_reducible refine zA ?_); refine yM rfl rfl rfl ?_)  | refine zS rfl ?_ | refine yU rfl rfl (by first | rfl | assumption) ?_  )
    refine jH rfl rfl (fun h2 => ?_) (fun h2 => ?_)
    · have e : aR s.data.toList = false := by
        unfold aR
        simp at h2
        split
        · rfl
        · rename_i c r hc
          have : decide ((c :: r).length ≤ 12) = false := by rw [← hc, ← hs]; simp; omega
          rw [this]; rfl
      repeat (first | ((with_reducible refine zL ?_); refine zM rfl ?_) | ((with_reducible refine zh ?_); refine yO rfl (by first | rfl | assumption) rfl ?_)  | refine yA ?_ | refine zS rfl ?_ | refine yI rfl rfl (by first | rfl | assumption) ?_ | with_reducible (first | refine zY ?_ | refine zV ?_ | refine zR ?_ | refine zv ?_) | ((with_reducible refine zJ ?_ ?_); kernel_rfl) | refine yD rfl (by first | rfl | assumption) ?_)
      refine jK (by first | exact .inr rfl | exact .inl rfl) rfl rfl ?_
      rw [e]
    · obtain ⟨c0, hx0⟩ := yr (L := s.data.toList) (k := 0) (by rw [← hs]; simp at h1; omega)
      have ix0 : ∀ w : World, (Instr.index 9 (.string s) (.int .i64 0)).run Tryz.prog w = .ok (.int .u8 (c0.toNat : Int)) w := fun w => idxS s 0 c0 hx0 w
      have e : aR s.data.toList = (qB c0.toNat && qJ s.data.toList) := by
        unfold aR
        match hl : s.data.toList with
        | [] => rw [hl] at hx0; simp at hx0
        | c :: r =>
          rw [hl] at hx0
          simp at hx0
          subst hx0
          have : decide ((c :: r).length ≤ 12) = true := by rw [← hl, ← hs]; simp at h2 ⊢; omega
          simp only [this, Bool.true_and]
      rw [e]
      repeat (first | ((with_reducible refine zm ?_); refine zl rfl ?_) | ((with_reducible refine zZ ?_); refine yY rfl rfl (by assumption) ?_)  | refine yU rfl rfl (by first | rfl | assumption) ?_  )
      with_reducible refine zG ?_
      refine zC (kA _) ?_
      repeat (first | ((with_reducible refine k_un ?_); refine yn rfl ?_) | ((with_reducible refine zh ?_); refine yP rfl (by first | rfl | assumption) rfl ?_)  | refine yA ?_ | refine zS rfl ?_ | refine yU rfl rfl (by first | rfl | assumption) ?_ | with_reducible refine zY ?_ )
      refine jE rfl (fun h3 => ?_) (fun h3 => ?_)
      · repeat (first | ((with_reducible refine zL ?_); refine zM rfl ?_)  | refine yA ?_ | refine zS rfl ?_ | with_reducible (first | refine zY ?_ | refine zV ?_ | refine zR ?_ | refine zv ?_) | ((with_reducible refine zJ ?_ ?_); kernel_rfl))
        refine jK (by first | exact .inr rfl | exact .inl rfl) rfl rfl ?_
        simp at h3
        rw [h3]; rfl
      · simp at h3
        rw [h3, Bool.true_and]
        repeat (first | ((with_reducible refine zL ?_); refine zM rfl ?_)  | refine yA ?_ | refine zS rfl ?_ | with_reducible (first | refine zY ?_ | refine zR ?_ | refine zq ?_ | refine zr ?_) | ((with_reducible refine zJ ?_ ?_); kernel_rfl))
        refine jZ (ι := Nat) (fun k => k ≤ s.size ∧ qJ (s.data.toList.drop k) = qJ s.data.toList) (fun k => s.size - k) (fun v k => [(0, .v (.string s)), (3, .v (.int .i64 k))]) (fun v k => []) ?_ ?_
        · exact ⟨0, ⟨by omega, rfl⟩, trivial, ⟨rfl, rfl, trivial⟩, trivial⟩
        · rintro v k ⟨hk, hf⟩
          repeat (first | ((with_reducible refine zm ?_); refine zl rfl ?_) | ((with_reducible refine zG ?_); refine yB (by exact Tryz.underlying9) rfl ?_) | ((with_reducible refine zA ?_); refine yM rfl rfl rfl ?_)  | refine yA ?_ | refine zS rfl ?_ | with_reducible (first | refine zY ?_ | refine zR ?_) | ((with_reducible refine zJ ?_ ?_); kernel_rfl))
          refine jE rfl (fun h => ?_) (fun h => ?_)
          · have hlt : k < s.size := by simp at h; omega
            obtain ⟨c, hx⟩ := yr (L := s.data.toList) (k := k) (by rw [← hs]; exact hlt)
            have ix := idxS s k c hx
            have hf' := hf
            rw [ju hx, qJ] at hf
            repeat (first | ((with_reducible refine zm ?_); refine zl rfl ?_) | ((with_reducible refine zZ ?_); refine yY rfl rfl (by assumption) ?_)  | refine zS rfl ?_ | with_reducible (first | refine zY ?_ | refine zR ?_ | refine zq ?_ | refine zr ?_) | ((with_reducible refine zJ ?_ ?_); kernel_rfl))
            with_reducible refine zG ?_
            refine zC (kA _) ?_
            repeat (first | ((with_reducible refine zm ?_); refine zl rfl ?_) | ((with_reducible refine k_un ?_); refine yn rfl ?_)  | refine zS rfl ?_  )
            refine jH rfl rfl (fun h4 => ?_) (fun h4 => ?_)
            · repeat (first | ((with_reducible refine zm ?_); refine zl rfl ?_) | ((with_reducible refine zZ ?_); refine yY rfl rfl (by assumption) ?_)  | refine yR rfl rfl (by first | rfl | assumption) ?_  )
              with_reducible refine zG ?_
              refine zC (tT _) ?_
              repeat' (first | ((with_reducible refine zm ?_); refine zl rfl ?_) | ((with_reducible refine zL ?_); refine zM rfl ?_) | ((with_reducible refine k_un ?_); refine yn rfl ?_) | ((with_reducible refine zh ?_); (first | refine yO rfl (by first | rfl | assumption) rfl ?_ | refine yP rfl (by first | rfl | assumption) rfl ?_)) | ((with_reducible refine zZ ?_); refine yY rfl rfl (by assumption) ?_) | ((with_reducible refine zA ?_); (first | refine yE rfl rfl (by omega) ?_ | refine yM rfl rfl rfl ?_))  | refine yA ?_ | refine zS rfl ?_ | refine yR rfl rfl (by first | rfl | assumption) ?_ | refine yL rfl rfl (by first | rfl | assumption) ?_ | with_reducible (first | refine zY ?_ | refine zV ?_ | refine yV ?_ | refine za ?_ | refine zR ?_ | refine zr ?_ | refine zv ?_) | ((with_reducible refine zJ ?_ ?_); kernel_rfl) | refine yJ rfl (by first | rfl | assumption) ?_ | refine jH rfl rfl (fun _ => ?_) (fun _ => ?_) | refine jE rfl (fun _ => ?_) (fun _ => ?_))
              all_goals first
                | (refine jK (by first | exact .inr rfl | exact .inl rfl) rfl rfl ?_; rw [← hf]; clear hf hf' ix ix0 hs e hx hx0; simp_all [aE]; done)
                | (refine ⟨k + 1, ⟨by omega, ?_⟩, by omega, ⟨rfl, rfl, trivial⟩, trivial⟩; rw [← hf]; clear hf hf' ix ix0 hs e hx hx0; simp_all [aE]; done)
            · repeat' (first | ((with_reducible refine zm ?_); refine zl rfl ?_) | ((with_reducible refine zL ?_); refine zM rfl ?_) | ((with_reducible refine zh ?_); refine yP rfl (by first | rfl | assumption) rfl ?_) | ((with_reducible refine zA ?_); refine yE rfl rfl (by omega) ?_)  | refine yA ?_ | refine zS rfl ?_ | refine yL rfl rfl (by first | rfl | assumption) ?_ | with_reducible (first | refine zY ?_ | refine yV ?_ | refine zr ?_) | ((with_reducible refine zJ ?_ ?_); kernel_rfl) | refine yJ rfl (by first | rfl | assumption) ?_ | refine jH rfl rfl (fun _ => ?_) (fun _ => ?_) | refine jE rfl (fun _ => ?_) (fun _ => ?_))
              all_goals first
                | (refine jK (by first | exact .inr rfl | exact .inl rfl) rfl rfl ?_; rw [← hf]; clear hf hf' ix ix0 hs e hx hx0; simp_all [aE]; done)
                | (refine ⟨k + 1, ⟨by omega, ?_⟩, by omega, ⟨rfl, rfl, trivial⟩, trivial⟩; rw [← hf]; clear hf hf' ix ix0 hs e hx hx0; simp_all [aE]; done)
          · obtain rfl : k = s.size := by simp at h; omega
            have hf1 : qJ s.data.toList = true := by
              rw [← hf, List.drop_of_length_le (by rw [← hs]; exact Nat.le_refl _)]; rfl
            repeat (first | ((with_reducible refine zL ?_); refine zM rfl ?_)  | refine yA ?_ | refine zS rfl ?_ | with_reducible (first | refine zY ?_ | refine ze ?_ | refine zR ?_ | refine yK ?_ | refine zv ?_) | ((with_reducible refine zW ?_ ?_); rfl) | ((with_reducible refine zJ ?_ ?_); kernel_rfl))
            refine jK (by first | exact .inr rfl | exact .inl rfl) rfl rfl ?_
            rw [hf1]
end Go.Proofs.YtggagmafkdhjcaaGreatDoor
