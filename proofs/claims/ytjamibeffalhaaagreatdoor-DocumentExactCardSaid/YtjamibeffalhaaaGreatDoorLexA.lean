/- lexeme.Name, its reference, and what they call, by the abstract machine; conditions: the table of classes stands. -/
import Derived.Test.YtjamibeffalhaaaGreatDoorAbsS
import Derived.Test.YtjamibeffalhaaaGreatDoorTab
import Derived.Test.YtjamibeffalhaaaGreatDoorLexP
set_option linter.unusedVariables false
set_option linter.unusedSimpArgs false
namespace Go.Proofs.YtjamibeffalhaaaGreatDoor
open Go Go.RowKit
set_option maxRecDepth 10000
def clsL : List Value := [.int .u8 65, .int .u8 90, .bool true, .int .u8 97, .int .u8 122, .bool true, .int .u8 48, .int .u8 57, .bool false, .int .u8 95, .int .u8 95, .bool false]
def GCls (G : Nat → Option (List Value)) : Prop := G 0 = some clsL
theorem idxS (s : ByteArray) (k : Nat) (c : UInt8) (hc : s.data.toList[k]? = some c) (w : World) : (Instr.index 9 (.string s) (.int .i64 k)).run Tryz.prog w = .ok (.int .u8 (c.toNat : Int)) w := by
  have hk := yL hc
  have hk2 : k < s.size := by simpa using hk
  rw [run_index_string w 9 s .i64 _ Tryz.underlying9, dif_pos ⟨by omega, by omega⟩]
  have e : ((k : Int)).toNat = k := by omega
  simp only [e]
  have : s[k] = c := by
    rw [List.getElem?_eq_getElem hk] at hc
    injection hc with hc
  rw [this]
theorem sizeS (s : ByteArray) : s.size = s.data.toList.length := by simp
theorem clsAt {k : Nat} (hk : k < 4) : ∃ lo hi fs, fK[k]? = some (lo, hi, fs) ∧ ∀ w : World, (Instr.index 143 (.agg ⟨clsL⟩) (.int .i64 k)).run Tryz.prog w = .ok (.agg ⟨[.int .u8 lo, .int .u8 hi, .bool fs]⟩) w := by
  obtain rfl | rfl | rfl | rfl : k = 0 ∨ k = 1 ∨ k = 2 ∨ k = 3 := by omega
  · exact ⟨65, 90, true, rfl, fun w => by kernel_rfl⟩
  · exact ⟨97, 122, true, rfl, fun w => by kernel_rfl⟩
  · exact ⟨48, 57, false, rfl, fun w => by kernel_rfl⟩
  · exact ⟨95, 95, false, rfl, fun w => by kernel_rfl⟩
variable {G : Nat → Option (List Value)}
theorem oG (b : Int) : zy Tryz.prog G 103 [.v (.int .u8 b)] [] (.v (.bool (qE b))) [] := by
  refine zd tbOk (zf Tryz.func103 (by kernel_rfl) rfl) Tryz.func103 rfl _ Tryz.ntmps103 (Nat.le_of_ble_eq_true rfl) fun X hX => ?_
  subst hX
  repeat' (first | ((with_reducible refine zJ ?_); refine zK rfl ?_) | ((with_reducible refine zF ?_); refine zE rfl ?_) | ((with_reducible refine zW ?_); (first | refine zi rfl (by first | rfl | assumption) rfl ?_ | refine zh rfl (by first | rfl | assumption) rfl ?_)) | ((with_reducible refine zR ?_); refine zS rfl rfl rfl ?_)  | refine zL ?_ | refine zB rfl ?_ | refine zu rfl rfl (by first | rfl | assumption) ?_ | refine yB rfl rfl (by first | rfl | assumption) ?_ | refine zm rfl rfl (by first | rfl | assumption) ?_ | refine yC rfl rfl (by first | rfl | assumption) ?_ | refine jA rfl rfl rfl ?_ | with_reducible (first | refine zG ?_ | refine zH ?_ | refine zN ?_) | ((with_reducible refine zA ?_ ?_); kernel_rfl) | refine zn rfl rfl (fun _ => ?_) (fun _ => ?_) | refine zX rfl (fun _ => ?_) (fun _ => ?_))
  all_goals refine ze (by first | exact .inr rfl | exact .inl rfl) rfl rfl ?_
  all_goals simp_all [qE]
  all_goals omega
theorem digit_A (b : Int) : zy Tryz.prog G 104 [.v (.int .u8 b)] [] (.v (.bool (iC b))) [] := by
  refine zd tbOk (zf Tryz.func104 (by kernel_rfl) rfl) Tryz.func104 rfl _ Tryz.ntmps104 (Nat.le_of_ble_eq_true rfl) fun X hX => ?_
  subst hX
  repeat' (first | ((with_reducible refine zJ ?_); refine zK rfl ?_) | ((with_reducible refine zF ?_); refine zE rfl ?_) | ((with_reducible refine zW ?_); (first | refine zi rfl (by first | rfl | assumption) rfl ?_ | refine zh rfl (by first | rfl | assumption) rfl ?_)) | ((with_reducible refine zR ?_); refine zS rfl rfl rfl ?_)  | refine zL ?_ | refine zB rfl ?_ | refine zu rfl rfl (by first | rfl | assumption) ?_ | refine yB rfl rfl (by first | rfl | assumption) ?_ | with_reducible (first | refine zG ?_ | refine zH ?_ | refine zN ?_) | ((with_reducible refine zA ?_ ?_); kernel_rfl) | refine zn rfl rfl (fun _ => ?_) (fun _ => ?_) | refine zX rfl (fun _ => ?_) (fun _ => ?_))
  all_goals refine ze (by first | exact .inr rfl | exact .inl rfl) rfl rfl ?_
  all_goals simp_all [iC]
  all_goals omega
set_option maxHeartbeats 1000000 in
theorem fits_A (b : Int) (f : Bool) (hG : GCls G) : zy Tryz.prog G 101 [.v (.int .u8 b), .v (.bool f)] [] (.v (.bool (eW b f))) [] := by
  refine zd tbOk (zf Tryz.func101 (by kernel_rfl) rfl) Tryz.func101 rfl _ Tryz.ntmps101 (Nat.le_of_ble_eq_true rfl) fun X hX => ?_
  subst hX
  have hg0 : X.G 0 = some clsL := hG
  repeat (first | ((with_reducible refine zF ?_); refine zE rfl ?_)  | refine zL ?_ | refine zB rfl ?_ | with_reducible (first | refine zG ?_ | refine zH ?_) | ((with_reducible refine zA ?_ ?_); kernel_rfl))
  with_reducible refine zQ ?_
  refine pM tbOk rfl rfl hg0 rfl ?_
  repeat (first | ((with_reducible refine zJ ?_); refine zK rfl ?_)  | refine zL ?_ | refine zB rfl ?_ | with_reducible (first | refine zG ?_ | refine zV ?_) )
  refine yJ (ι := Nat) (fun k => k ≤ 4 ∧ dQ (fK.drop k) b f = eW b f) (fun k => 4 - k) (fun v k => [(0, .v (.int .u8 b)), (1, .v (.bool f)), (7, .v (.agg ⟨clsL⟩)), (8, .v (.int .i64 k))]) (fun v k => []) ?_ ?_
  · exact ⟨0, ⟨by omega, rfl⟩, trivial, ⟨rfl, rfl, rfl, rfl, trivial⟩, trivial⟩
  · rintro v k ⟨hk, hf⟩
    repeat (first | ((with_reducible refine zR ?_); refine zS rfl rfl rfl ?_)  | refine zL ?_ | refine zB rfl ?_ | with_reducible (first | refine zG ?_ | refine zH ?_) | ((with_reducible refine zA ?_ ?_); kernel_rfl))
    refine zX rfl (fun h => ?_) (fun h => ?_)
    · have hlt : k < 4 := by simp at h; omega
      obtain ⟨lo, hi, fs, ht, ix⟩ := clsAt hlt
      have e0 : eW b f = if lo ≤ b ∧ b ≤ hi then (fs || !f) else dQ (fK.drop (k + 1)) b f := by
        rw [← hf, yV ht, dQ]
      repeat' (first | ((with_reducible refine zJ ?_); refine zK rfl ?_) | ((with_reducible refine zF ?_); refine zE rfl ?_) | ((with_reducible refine zM ?_); refine zI tbOk rfl rfl rfl rfl ?_) | ((with_reducible refine zQ ?_); refine zO tbOk rfl rfl rfl rfl rfl ?_) | ((with_reducible refine yD ?_); refine yE tbOk rfl rfl rfl rfl rfl rfl rfl (Nat.le_of_ble_eq_true rfl) rfl ?_) | ((with_reducible refine yc ?_); refine ya tbOk rfl rfl ?_) | ((with_reducible refine k_un ?_); refine yz rfl ?_) | ((with_reducible refine zW ?_); (first | refine zi rfl (by first | rfl | assumption) rfl ?_ | refine zh rfl (by first | rfl | assumption) rfl ?_)) | ((with_reducible refine jz ?_); refine rN rfl rfl (by assumption) ?_) | ((with_reducible refine zR ?_); (first | refine zk rfl rfl (by omega) ?_ | refine zS rfl rfl rfl ?_))  | refine zL ?_ | refine zB rfl ?_ | refine zu rfl rfl (by first | rfl | assumption) ?_ | refine yB rfl rfl (by first | rfl | assumption) ?_ | refine zm rfl rfl (by first | rfl | assumption) ?_ | refine yC rfl rfl (by first | rfl | assumption) ?_ | with_reducible (first | refine zG ?_ | refine zP ?_ | refine zo ?_ | refine zU ?_ | refine zH ?_ | refine zV ?_ | refine zT ?_ | refine zN ?_) | ((with_reducible refine zA ?_ ?_); kernel_rfl) | refine yH rfl (by first | rfl | assumption) ?_ | refine zn rfl rfl (fun _ => ?_) (fun _ => ?_) | refine zX rfl (fun _ => ?_) (fun _ => ?_))
      all_goals first
        | (refine ze (by first | exact .inr rfl | exact .inl rfl) rfl rfl ?_; rw [e0, if_pos (by simp_all)]; simp_all; done)
        | (refine ⟨k + 1, ⟨by omega, ?_⟩, by omega, ⟨rfl, rfl, rfl, rfl, trivial⟩, trivial⟩; rw [e0, if_neg (by simp_all <;> omega)])
    · obtain rfl : k = 4 := by simp at h; omega
      repeat (first | ((with_reducible refine zF ?_); refine zE rfl ?_)  | refine zL ?_ | refine zB rfl ?_ | with_reducible (first | refine zG ?_ | refine zj ?_ | refine zH ?_ | refine zz ?_ | refine zN ?_) | ((with_reducible refine zg ?_ ?_); rfl) | ((with_reducible refine zA ?_ ?_); kernel_rfl))
      refine ze (by first | exact .inr rfl | exact .inl rfl) rfl rfl ?_
      rw [← hf]; rfl
set_option maxHeartbeats 1000000 in
theorem nA (s : ByteArray) (hG : GCls G) (hm : s.size ≤ maxLen) : zy Tryz.prog G 65 [.v (.string s)] [] (.v (.bool (jT s.data.toList))) [] := by
  have hm2 : s.size ≤ 9223372036854775807 := by unfold maxLen at hm; omega
  have hs := sizeS s
  refine zd tbOk (zf Tryz.func65 (by kernel_rfl) rfl) Tryz.func65 rfl _ Tryz.ntmps65 (Nat.le_of_ble_eq_true rfl) fun X hX => ?_
  subst hX
  repeat (first | ((with_reducible refine zJ ?_); refine zK rfl ?_) | ((with_reducible refine zF ?_); refine zE rfl ?_) | ((with_reducible refine zq ?_); refine jn (by exact Tryz.underlying9) rfl ?_)  | refine zL ?_ | refine zB rfl ?_ | with_reducible (first | refine zG ?_ | refine zH ?_ | refine zV ?_) | ((with_reducible refine zA ?_ ?_); kernel_rfl))
  refine yJ (ι := Nat) (fun k => k ≤ s.size ∧ qK (s.data.toList.drop k) (decide (k = 0)) = qK s.data.toList true) (fun k => s.size - k) (fun v k => [(0, .v (.string s)), (5, .v (.int .i64 s.size)), (6, .v (.int .i64 k))]) (fun v k => []) ?_ ?_
  · exact ⟨0, ⟨by omega, rfl⟩, trivial, ⟨rfl, rfl, rfl, trivial⟩, trivial⟩
  · rintro v k ⟨hk, hf⟩
    repeat (first | ((with_reducible refine zR ?_); refine zS rfl rfl rfl ?_)  | refine zL ?_ | refine zB rfl ?_ | with_reducible (first | refine zG ?_ | refine zH ?_) | ((with_reducible refine zA ?_ ?_); kernel_rfl))
    refine zX rfl (fun h => ?_) (fun h => ?_)
    · have hlt : k < s.size := by simp at h; omega
      obtain ⟨c, hx⟩ := zc (L := s.data.toList) (k := k) (by rw [← hs]; exact hlt)
      have ix := idxS s k c hx
      have hf0 : decide (k = 0) = ((k : Int) == 0) := by
        by_cases h0 : k = 0
        · simp [h0]
        · have : ((k : Int) == 0) = false := by simp; omega
          rw [this]; simp [h0]
      rw [yV hx, qK, hf0] at hf
      repeat (first | ((with_reducible refine zJ ?_); refine zK rfl ?_) | ((with_reducible refine zF ?_); refine zE rfl ?_) | ((with_reducible refine jz ?_); refine qF rfl rfl (by assumption) ?_) | ((with_reducible refine zR ?_); refine zS rfl rfl rfl ?_)  | refine zL ?_ | refine zB rfl ?_ | with_reducible (first | refine zG ?_ | refine zH ?_ | refine zV ?_ | refine zT ?_) | ((with_reducible refine zA ?_ ?_); kernel_rfl))
      with_reducible refine zq ?_
      refine zC (fits_A _ _ hG) ?_
      repeat (first | ((with_reducible refine k_un ?_); refine yz rfl ?_)  | refine zL ?_ | refine zB rfl ?_ | with_reducible refine zG ?_ )
      refine zX rfl (fun h1 => ?_) (fun h1 => ?_)
      · repeat (first | ((with_reducible refine zF ?_); refine zE rfl ?_)  | refine zL ?_ | refine zB rfl ?_ | with_reducible (first | refine zG ?_ | refine zP ?_ | refine zU ?_ | refine zH ?_ | refine zN ?_) | ((with_reducible refine zA ?_ ?_); kernel_rfl))
        refine ze (by first | exact .inr rfl | exact .inl rfl) rfl rfl ?_
        unfold jT
        rw [← hf]
        simp at h1
        rw [h1]; rfl
      · repeat (first | ((with_reducible refine zJ ?_); refine zK rfl ?_) | ((with_reducible refine zR ?_); refine zk rfl rfl (by omega) ?_)  | refine zL ?_ | refine zB rfl ?_ | with_reducible (first | refine zG ?_ | refine zo ?_ | refine zT ?_) | ((with_reducible refine zA ?_ ?_); kernel_rfl))
        refine ⟨k + 1, ⟨by omega, ?_⟩, by omega, ⟨rfl, rfl, rfl, trivial⟩, trivial⟩
        simp at h1
        rw [← hf, h1]; simp
    · obtain rfl : k = s.size := by simp at h; omega
      have hf1 : qK s.data.toList true = true := by
        rw [← hf, List.drop_of_length_le (by rw [← hs]; exact Nat.le_refl _)]; rfl
      repeat' (first | ((with_reducible refine zJ ?_); refine zK rfl ?_) | ((with_reducible refine zF ?_); refine zE rfl ?_) | ((with_reducible refine zW ?_); (first | refine zi rfl (by first | rfl | assumption) rfl ?_ | refine zh rfl (by first | rfl | assumption) rfl ?_)) | ((with_reducible refine zq ?_); refine jn (by exact Tryz.underlying9) rfl ?_) | ((with_reducible refine zR ?_); refine zS rfl rfl rfl ?_)  | refine zL ?_ | refine zB rfl ?_ | refine zu rfl rfl (by first | rfl | assumption) ?_ | refine yB rfl rfl (by first | rfl | assumption) ?_ | with_reducible (first | refine zG ?_ | refine zj ?_ | refine zH ?_ | refine zz ?_ | refine zN ?_) | ((with_reducible refine zg ?_ ?_); rfl) | ((with_reducible refine zA ?_ ?_); kernel_rfl) | refine zn rfl rfl (fun _ => ?_) (fun _ => ?_) | refine zX rfl (fun _ => ?_) (fun _ => ?_))
      all_goals refine ze (by first | exact .inr rfl | exact .inl rfl) rfl rfl ?_
      all_goals unfold jT
      all_goals rw [hf1, ← hs]
      all_goals clear hs hf hf1
      all_goals refine congrArg (fun b => AV.v (.bool b)) ?_
      all_goals rw [Bool.eq_iff_iff]
      all_goals simp at *
      all_goals omega
set_option maxHeartbeats 1000000 in
theorem gP (s : ByteArray) (hm : s.size ≤ maxLen) : zy Tryz.prog G 70 [.v (.string s)] [] (.v (.bool (jT s.data.toList))) [] := by
  have hm2 : s.size ≤ 9223372036854775807 := by unfold maxLen at hm; omega
  have hs := sizeS s
  rw [← nP]
  refine zd tbOk (zf Tryz.func70 (by kernel_rfl) rfl) Tryz.func70 rfl _ Tryz.ntmps70 (Nat.le_of_ble_eq_true rfl) fun X hX => ?_
  subst hX
  repeat (first | ((with_reducible refine zJ ?_); refine zK rfl ?_) | ((with_reducible refine zF ?_); refine zE rfl ?_) | ((with_reducible refine zq ?_); refine jn (by exact Tryz.underlying9) rfl ?_) | ((with_reducible refine zR ?_); refine zS rfl rfl rfl ?_)  | refine zL ?_ | refine zB rfl ?_ | with_reducible (first | refine zG ?_ | refine zH ?_) | ((with_reducible refine zA ?_ ?_); kernel_rfl))
  refine zn rfl rfl (fun h1 => ?_) (fun h1 => ?_)
  · have e : cM s.data.toList = false := by
      have : s.data.toList = [] := List.eq_nil_of_length_eq_zero (by rw [← hs]; simp at h1; omega)
      rw [this]; rfl
    repeat (first | ((with_reducible refine zJ ?_); refine zK rfl ?_) | ((with_reducible refine zF ?_); refine zE rfl ?_) | ((with_reducible refine zW ?_); refine zi rfl (by first | rfl | assumption) rfl ?_)  | refine zL ?_ | refine zB rfl ?_ | refine yC rfl rfl (by first | rfl | assumption) ?_ | with_reducible (first | refine zG ?_ | refine zP ?_ | refine zH ?_ | refine zN ?_) | ((with_reducible refine zA ?_ ?_); kernel_rfl) | refine zr rfl (by first | rfl | assumption) ?_)
    refine ze (by first | exact .inr rfl | exact .inl rfl) rfl rfl ?_
    rw [e]
  · repeat (first | ((with_reducible refine zJ ?_); refine zK rfl ?_) | ((with_reducible refine zW ?_); refine zh rfl (by first | rfl | assumption) rfl ?_) | ((with_reducible refine zq ?_); refine jn (by exact Tryz.underlying9) rfl ?_) | ((with_reducible refine zR ?_); refine zS rfl rfl rfl ?_)  | refine zB rfl ?_ | refine zm rfl rfl (by first | rfl | assumption) ?_  )
    refine zn rfl rfl (fun h2 => ?_) (fun h2 => ?_)
    · have e : cM s.data.toList = false := by
        unfold cM
        simp at h2
        split
        · rfl
        · rename_i c r hc
          have : decide ((c :: r).length ≤ 12) = false := by rw [← hc, ← hs]; simp; omega
          rw [this]; rfl
      repeat (first | ((with_reducible refine zF ?_); refine zE rfl ?_) | ((with_reducible refine zW ?_); refine zi rfl (by first | rfl | assumption) rfl ?_)  | refine zL ?_ | refine zB rfl ?_ | refine yC rfl rfl (by first | rfl | assumption) ?_ | with_reducible (first | refine zG ?_ | refine zP ?_ | refine zH ?_ | refine zN ?_) | ((with_reducible refine zA ?_ ?_); kernel_rfl) | refine zr rfl (by first | rfl | assumption) ?_)
      refine ze (by first | exact .inr rfl | exact .inl rfl) rfl rfl ?_
      rw [e]
    · obtain ⟨c0, hx0⟩ := zc (L := s.data.toList) (k := 0) (by rw [← hs]; simp at h1; omega)
      have ix0 : ∀ w : World, (Instr.index 9 (.string s) (.int .i64 0)).run Tryz.prog w = .ok (.int .u8 (c0.toNat : Int)) w := fun w => idxS s 0 c0 hx0 w
      have e : cM s.data.toList = (qE c0.toNat && qT s.data.toList) := by
        unfold cM
        match hl : s.data.toList with
        | [] => rw [hl] at hx0; simp at hx0
        | c :: r =>
          rw [hl] at hx0
          simp at hx0
          subst hx0
          have : decide ((c :: r).length ≤ 12) = true := by rw [← hl, ← hs]; simp at h2 ⊢; omega
          simp only [this, Bool.true_and]
      rw [e]
      repeat (first | ((with_reducible refine zJ ?_); refine zK rfl ?_) | ((with_reducible refine jz ?_); refine qF rfl rfl (by assumption) ?_)  | refine zm rfl rfl (by first | rfl | assumption) ?_  )
      with_reducible refine zq ?_
      refine zC (oG _) ?_
      repeat (first | ((with_reducible refine k_un ?_); refine yz rfl ?_) | ((with_reducible refine zW ?_); refine zh rfl (by first | rfl | assumption) rfl ?_)  | refine zL ?_ | refine zB rfl ?_ | refine zm rfl rfl (by first | rfl | assumption) ?_ | with_reducible refine zG ?_ )
      refine zX rfl (fun h3 => ?_) (fun h3 => ?_)
      · repeat (first | ((with_reducible refine zF ?_); refine zE rfl ?_)  | refine zL ?_ | refine zB rfl ?_ | with_reducible (first | refine zG ?_ | refine zP ?_ | refine zH ?_ | refine zN ?_) | ((with_reducible refine zA ?_ ?_); kernel_rfl))
        refine ze (by first | exact .inr rfl | exact .inl rfl) rfl rfl ?_
        simp at h3
        rw [h3]; rfl
      · simp at h3
        rw [h3, Bool.true_and]
        repeat (first | ((with_reducible refine zF ?_); refine zE rfl ?_)  | refine zL ?_ | refine zB rfl ?_ | with_reducible (first | refine zG ?_ | refine zH ?_ | refine zV ?_ | refine zT ?_) | ((with_reducible refine zA ?_ ?_); kernel_rfl))
        refine yJ (ι := Nat) (fun k => k ≤ s.size ∧ qT (s.data.toList.drop k) = qT s.data.toList) (fun k => s.size - k) (fun v k => [(0, .v (.string s)), (3, .v (.int .i64 k))]) (fun v k => []) ?_ ?_
        · exact ⟨0, ⟨by omega, rfl⟩, trivial, ⟨rfl, rfl, trivial⟩, trivial⟩
        · rintro v k ⟨hk, hf⟩
          repeat (first | ((with_reducible refine zJ ?_); refine zK rfl ?_) | ((with_reducible refine zq ?_); refine jn (by exact Tryz.underlying9) rfl ?_) | ((with_reducible refine zR ?_); refine zS rfl rfl rfl ?_)  | refine zL ?_ | refine zB rfl ?_ | with_reducible (first | refine zG ?_ | refine zH ?_) | ((with_reducible refine zA ?_ ?_); kernel_rfl))
          refine zX rfl (fun h => ?_) (fun h => ?_)
          · have hlt : k < s.size := by simp at h; omega
            obtain ⟨c, hx⟩ := zc (L := s.data.toList) (k := k) (by rw [← hs]; exact hlt)
            have ix := idxS s k c hx
            have hf' := hf
            rw [yV hx, qT] at hf
            repeat (first | ((with_reducible refine zJ ?_); refine zK rfl ?_) | ((with_reducible refine jz ?_); refine qF rfl rfl (by assumption) ?_)  | refine zB rfl ?_ | with_reducible (first | refine zG ?_ | refine zH ?_ | refine zV ?_ | refine zT ?_) | ((with_reducible refine zA ?_ ?_); kernel_rfl))
            with_reducible refine zq ?_
            refine zC (oG _) ?_
            repeat (first | ((with_reducible refine zJ ?_); refine zK rfl ?_) | ((with_reducible refine k_un ?_); refine yz rfl ?_)  | refine zB rfl ?_  )
            refine zn rfl rfl (fun h4 => ?_) (fun h4 => ?_)
            · repeat (first | ((with_reducible refine zJ ?_); refine zK rfl ?_) | ((with_reducible refine jz ?_); refine qF rfl rfl (by assumption) ?_)  | refine zu rfl rfl (by first | rfl | assumption) ?_  )
              with_reducible refine zq ?_
              refine zC (digit_A _) ?_
              repeat' (first | ((with_reducible refine zJ ?_); refine zK rfl ?_) | ((with_reducible refine zF ?_); refine zE rfl ?_) | ((with_reducible refine k_un ?_); refine yz rfl ?_) | ((with_reducible refine zW ?_); (first | refine zi rfl (by first | rfl | assumption) rfl ?_ | refine zh rfl (by first | rfl | assumption) rfl ?_)) | ((with_reducible refine jz ?_); refine qF rfl rfl (by assumption) ?_) | ((with_reducible refine zR ?_); (first | refine zk rfl rfl (by omega) ?_ | refine zS rfl rfl rfl ?_))  | refine zL ?_ | refine zB rfl ?_ | refine zu rfl rfl (by first | rfl | assumption) ?_ | refine yB rfl rfl (by first | rfl | assumption) ?_ | with_reducible (first | refine zG ?_ | refine zP ?_ | refine zo ?_ | refine zU ?_ | refine zH ?_ | refine zT ?_ | refine zN ?_) | ((with_reducible refine zA ?_ ?_); kernel_rfl) | refine yH rfl (by first | rfl | assumption) ?_ | refine zn rfl rfl (fun _ => ?_) (fun _ => ?_) | refine zX rfl (fun _ => ?_) (fun _ => ?_))
              all_goals first
                | (refine ze (by first | exact .inr rfl | exact .inl rfl) rfl rfl ?_; rw [← hf]; clear hf hf' ix ix0 hs e hx hx0; simp_all [bY]; done)
                | (refine ⟨k + 1, ⟨by omega, ?_⟩, by omega, ⟨rfl, rfl, trivial⟩, trivial⟩; rw [← hf]; clear hf hf' ix ix0 hs e hx hx0; simp_all [bY]; done)
            · repeat' (first | ((with_reducible refine zJ ?_); refine zK rfl ?_) | ((with_reducible refine zF ?_); refine zE rfl ?_) | ((with_reducible refine zW ?_); refine zh rfl (by first | rfl | assumption) rfl ?_) | ((with_reducible refine zR ?_); refine zk rfl rfl (by omega) ?_)  | refine zL ?_ | refine zB rfl ?_ | refine yB rfl rfl (by first | rfl | assumption) ?_ | with_reducible (first | refine zG ?_ | refine zo ?_ | refine zT ?_) | ((with_reducible refine zA ?_ ?_); kernel_rfl) | refine yH rfl (by first | rfl | assumption) ?_ | refine zn rfl rfl (fun _ => ?_) (fun _ => ?_) | refine zX rfl (fun _ => ?_) (fun _ => ?_))
              all_goals first
                | (refine ze (by first | exact .inr rfl | exact .inl rfl) rfl rfl ?_; rw [← hf]; clear hf hf' ix ix0 hs e hx hx0; simp_all [bY]; done)
                | (refine ⟨k + 1, ⟨by omega, ?_⟩, by omega, ⟨rfl, rfl, trivial⟩, trivial⟩; rw [← hf]; clear hf hf' ix ix0 hs e hx hx0; simp_all [bY]; done)
          · obtain rfl : k = s.size := by simp at h; omega
            have hf1 : qT s.data.toList = true := by
              rw [← hf, List.drop_of_length_le (by rw [← hs]; exact Nat.le_refl _)]; rfl
            repeat (first | ((with_reducible refine zF ?_); refine zE rfl ?_)  | refine zL ?_ | refine zB rfl ?_ | with_reducible (first | refine zG ?_ | refine zj ?_ | refine zH ?_ | refine zz ?_ | refine zN ?_) | ((with_reducible refine zg ?_ ?_); rfl) | ((with_reducible refine zA ?_ ?_); kernel_rfl))
            refine ze (by first | exact .inr rfl | exact .inl rfl) rfl rfl ?_
            rw [hf1]
end Go.Proofs.YtjamibeffalhaaaGreatDoor
