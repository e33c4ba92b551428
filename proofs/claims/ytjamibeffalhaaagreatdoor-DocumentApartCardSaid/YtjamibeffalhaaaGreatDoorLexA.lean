/- lexeme.Name, its reference, and what they call, by the abstract machine; conditions: the table of classes stands. -/
import Derived.Test.YtjamibeffalhaaaGreatDoorAbsS
import Derived.Test.YtjamibeffalhaaaGreatDoorTab
import Derived.Test.YtjamibeffalhaaaGreatDoorLexP
set_option linter.unusedVariables false
set_option linter.unusedSimpArgs false
namespace Go.Proofs.YtjamibeffalhaaaGreatDoor
open Go Go.RowKit
set_option maxRecDepth 10000
def clsL : List Value := [.int .u8 65, .int .u8 90, .bool true, .int .u8 97, .int .u8 122, .bool true, .int .u8 48, .int .u8 57, .bool false, .int .u8 95, .int .u8 95, .bool false]
def GCls (G : Nat → Option (List Value)) : Prop := G 0 = some clsL
theorem idxS (s : ByteArray) (k : Nat) (c : UInt8) (hc : s.data.toList[k]? = some c) (w : World) : (Instr.index 9 (.string s) (.int .i64 k)).run Tryz.prog w = .ok (.int .u8 (c.toNat : Int)) w := by
  have hk := yG hc
  have hk2 : k < s.size := by simpa using hk
  rw [run_index_string w 9 s .i64 _ Tryz.underlying9, dif_pos ⟨by omega, by omega⟩]
  have e : ((k : Int)).toNat = k := by omega
  simp only [e]
  have : s[k] = c := by
    rw [List.getElem?_eq_getElem hk] at hc
    injection hc with hc
  rw [this]
theorem sizeS (s : ByteArray) : s.size = s.data.toList.length := by simp
theorem clsAt {k : Nat} (hk : k < 4) : ∃ lo hi fs, clsTab[k]? = some (lo, hi, fs) ∧ ∀ w : World, (Instr.index 143 (.agg ⟨clsL⟩) (.int .i64 k)).run Tryz.prog w = .ok (.agg ⟨[.int .u8 lo, .int .u8 hi, .bool fs]⟩) w := by
  obtain rfl | rfl | rfl | rfl : k = 0 ∨ k = 1 ∨ k = 2 ∨ k = 3 := by omega
  · exact ⟨65, 90, true, rfl, fun w => by kernel_rfl⟩
  · exact ⟨97, 122, true, rfl, fun w => by kernel_rfl⟩
  · exact ⟨48, 57, false, rfl, fun w => by kernel_rfl⟩
  · exact ⟨95, 95, false, rfl, fun w => by kernel_rfl⟩
variable {G : Nat → Option (List Value)}
theorem letter_A (b : Int) : zy Tryz.prog G 103 [.v (.int .u8 b)] [] (.v (.bool (jv b))) [] := by
  refine zf tbOk (zg Tryz.func103 (by kernel_rfl) rfl) Tryz.func103 rfl _ Tryz.ntmps103 (Nat.le_of_ble_eq_true rfl) fun X hX => ?_
  subst hX
  repeat' (first | ((with_reducible refine zJ ?_); refine zI rfl ?_) | ((with_reducible refine zD ?_); refine zC rfl ?_) | ((with_reducible refine za ?_); refine zp rfl (by first | rfl | assumption) rfl ?_) | ((with_reducible refine za ?_); refine zn rfl (by first | rfl | assumption) rfl ?_) | ((with_reducible refine zS ?_); refine zT rfl rfl rfl ?_)  | refine zH ?_ | refine zB rfl ?_ | refine yF rfl rfl (by first | rfl | assumption) ?_ | refine yH rfl rfl (by first | rfl | assumption) ?_ | refine zz rfl rfl (by first | rfl | assumption) ?_ | refine yD rfl rfl (by first | rfl | assumption) ?_ | refine qB rfl rfl rfl ?_ | with_reducible refine zE ?_ | with_reducible refine zF ?_ | with_reducible refine zL ?_ | ((with_reducible refine zA ?_ ?_); kernel_rfl) | refine zw rfl rfl (fun _ => ?_) (fun _ => ?_) | refine zZ rfl (fun _ => ?_) (fun _ => ?_))
  all_goals refine zk (by first | exact .inr rfl | exact .inl rfl) rfl rfl ?_
  all_goals simp_all [jv]
  all_goals omega
theorem digit_A (b : Int) : zy Tryz.prog G 104 [.v (.int .u8 b)] [] (.v (.bool (digitB b))) [] := by
  refine zf tbOk (zg Tryz.func104 (by kernel_rfl) rfl) Tryz.func104 rfl _ Tryz.ntmps104 (Nat.le_of_ble_eq_true rfl) fun X hX => ?_
  subst hX
  repeat' (first | ((with_reducible refine zJ ?_); refine zI rfl ?_) | ((with_reducible refine zD ?_); refine zC rfl ?_) | ((with_reducible refine za ?_); refine zp rfl (by first | rfl | assumption) rfl ?_) | ((with_reducible refine za ?_); refine zn rfl (by first | rfl | assumption) rfl ?_) | ((with_reducible refine zS ?_); refine zT rfl rfl rfl ?_)  | refine zH ?_ | refine zB rfl ?_ | refine yF rfl rfl (by first | rfl | assumption) ?_ | refine yH rfl rfl (by first | rfl | assumption) ?_ | with_reducible refine zE ?_ | with_reducible refine zF ?_ | with_reducible refine zL ?_ | ((with_reducible refine zA ?_ ?_); kernel_rfl) | refine zw rfl rfl (fun _ => ?_) (fun _ => ?_) | refine zZ rfl (fun _ => ?_) (fun _ => ?_))
  all_goals refine zk (by first | exact .inr rfl | exact .inl rfl) rfl rfl ?_
  all_goals simp_all [digitB]
  all_goals omega
set_option maxHeartbeats 1000000 in
theorem fits_A (b : Int) (f : Bool) (hG : GCls G) : zy Tryz.prog G 101 [.v (.int .u8 b), .v (.bool f)] [] (.v (.bool (fitsB b f))) [] := by
  refine zf tbOk (zg Tryz.func101 (by kernel_rfl) rfl) Tryz.func101 rfl _ Tryz.ntmps101 (Nat.le_of_ble_eq_true rfl) fun X hX => ?_
  subst hX
  have hg0 : X.G 0 = some clsL := hG
  repeat (first | ((with_reducible refine zD ?_); refine zC rfl ?_)  | refine zH ?_ | refine zB rfl ?_ | with_reducible refine zE ?_ | with_reducible refine zF ?_ | ((with_reducible refine zA ?_ ?_); kernel_rfl))
  with_reducible refine zO ?_
  refine x_load_glob tbOk rfl rfl hg0 rfl ?_
  repeat (first | ((with_reducible refine zJ ?_); refine zI rfl ?_)  | refine zH ?_ | refine zB rfl ?_ | with_reducible refine zE ?_ | with_reducible refine zY ?_ )
  refine yN (ι := Nat) (fun k => k ≤ 4 ∧ fitsGo (clsTab.drop k) b f = fitsB b f) (fun k => 4 - k) (fun v k => [(0, .v (.int .u8 b)), (1, .v (.bool f)), (7, .v (.agg ⟨clsL⟩)), (8, .v (.int .i64 k))]) (fun v k => []) ?_ ?_
  · exact ⟨0, ⟨by omega, rfl⟩, trivial, ⟨rfl, rfl, rfl, rfl, trivial⟩, trivial⟩
  · rintro v k ⟨hk, hf⟩
    repeat (first | ((with_reducible refine zS ?_); refine zT rfl rfl rfl ?_)  | refine zH ?_ | refine zB rfl ?_ | with_reducible refine zE ?_ | with_reducible refine zF ?_ | ((with_reducible refine zA ?_ ?_); kernel_rfl))
    refine zZ rfl (fun h => ?_) (fun h => ?_)
    · have hlt : k < 4 := by simp at h; omega
      obtain ⟨lo, hi, fs, ht, ix⟩ := clsAt hlt
      have e0 : fitsB b f = if lo ≤ b ∧ b ≤ hi then (fs || !f) else fitsGo (clsTab.drop (k + 1)) b f := by
        rw [← hf, yT ht, fitsGo]
      repeat' (first | ((with_reducible refine zJ ?_); refine zI rfl ?_) | ((with_reducible refine zD ?_); refine zC rfl ?_) | ((with_reducible refine zK ?_); refine zG tbOk rfl rfl rfl rfl ?_) | ((with_reducible refine zO ?_); refine zN tbOk rfl rfl rfl rfl rfl ?_) | ((with_reducible refine zu ?_); refine zx tbOk rfl rfl rfl rfl rfl rfl rfl (Nat.le_of_ble_eq_true rfl) rfl ?_) | ((with_reducible refine yb ?_); refine ya tbOk rfl rfl ?_) | ((with_reducible refine k_un ?_); refine jC rfl ?_) | ((with_reducible refine za ?_); refine zp rfl (by first | rfl | assumption) rfl ?_) | ((with_reducible refine za ?_); refine zn rfl (by first | rfl | assumption) rfl ?_) | ((with_reducible refine jY ?_); refine x_index_ag rfl rfl (by assumption) ?_) | ((with_reducible refine zS ?_); refine zl rfl rfl (by omega) ?_) | ((with_reducible refine zS ?_); refine zT rfl rfl rfl ?_)  | refine zH ?_ | refine zB rfl ?_ | refine yF rfl rfl (by first | rfl | assumption) ?_ | refine yH rfl rfl (by first | rfl | assumption) ?_ | refine zz rfl rfl (by first | rfl | assumption) ?_ | refine yD rfl rfl (by first | rfl | assumption) ?_ | with_reducible refine zE ?_ | with_reducible refine zM ?_ | with_reducible refine zq ?_ | with_reducible refine zX ?_ | with_reducible refine zF ?_ | with_reducible refine zY ?_ | with_reducible refine zU ?_ | with_reducible refine zL ?_ | ((with_reducible refine zA ?_ ?_); kernel_rfl) | refine yI rfl (by first | rfl | assumption) ?_ | refine zw rfl rfl (fun _ => ?_) (fun _ => ?_) | refine zZ rfl (fun _ => ?_) (fun _ => ?_))
      all_goals first
        | (refine zk (by first | exact .inr rfl | exact .inl rfl) rfl rfl ?_; rw [e0, if_pos (by simp_all)]; simp_all; done)
        | (refine ⟨k + 1, ⟨by omega, ?_⟩, by omega, ⟨rfl, rfl, rfl, rfl, trivial⟩, trivial⟩; rw [e0, if_neg (by simp_all <;> omega)])
    · obtain rfl : k = 4 := by simp at h; omega
      repeat (first | ((with_reducible refine zD ?_); refine zC rfl ?_)  | refine zH ?_ | refine zB rfl ?_ | with_reducible refine zE ?_ | with_reducible refine zm ?_ | with_reducible refine zF ?_ | with_reducible refine yB ?_ | with_reducible refine zL ?_ | ((with_reducible refine zh ?_ ?_); rfl) | ((with_reducible refine zA ?_ ?_); kernel_rfl))
      refine zk (by first | exact .inr rfl | exact .inl rfl) rfl rfl ?_
      rw [← hf]; rfl
set_option maxHeartbeats 1000000 in
theorem name_A (s : ByteArray) (hG : GCls G) (hm : s.size ≤ maxLen) : zy Tryz.prog G 65 [.v (.string s)] [] (.v (.bool (jG s.data.toList))) [] := by
  have hm2 : s.size ≤ 9223372036854775807 := by unfold maxLen at hm; omega
  have hs := sizeS s
  refine zf tbOk (zg Tryz.func65 (by kernel_rfl) rfl) Tryz.func65 rfl _ Tryz.ntmps65 (Nat.le_of_ble_eq_true rfl) fun X hX => ?_
  subst hX
  repeat (first | ((with_reducible refine zJ ?_); refine zI rfl ?_) | ((with_reducible refine zD ?_); refine zC rfl ?_) | ((with_reducible refine yA ?_); refine jb (by exact Tryz.underlying9) rfl ?_)  | refine zH ?_ | refine zB rfl ?_ | with_reducible refine zE ?_ | with_reducible refine zF ?_ | with_reducible refine zY ?_ | ((with_reducible refine zA ?_ ?_); kernel_rfl))
  refine yN (ι := Nat) (fun k => k ≤ s.size ∧ jt (s.data.toList.drop k) (decide (k = 0)) = jt s.data.toList true) (fun k => s.size - k) (fun v k => [(0, .v (.string s)), (5, .v (.int .i64 s.size)), (6, .v (.int .i64 k))]) (fun v k => []) ?_ ?_
  · exact ⟨0, ⟨by omega, rfl⟩, trivial, ⟨rfl, rfl, rfl, trivial⟩, trivial⟩
  · rintro v k ⟨hk, hf⟩
    repeat (first | ((with_reducible refine zS ?_); refine zT rfl rfl rfl ?_)  | refine zH ?_ | refine zB rfl ?_ | with_reducible refine zE ?_ | with_reducible refine zF ?_ | ((with_reducible refine zA ?_ ?_); kernel_rfl))
    refine zZ rfl (fun h => ?_) (fun h => ?_)
    · have hlt : k < s.size := by simp at h; omega
      obtain ⟨c, hx⟩ := zc (L := s.data.toList) (k := k) (by rw [← hs]; exact hlt)
      have ix := idxS s k c hx
      have hf0 : decide (k = 0) = ((k : Int) == 0) := by
        by_cases h0 : k = 0
        · simp [h0]
        · have : ((k : Int) == 0) = false := by simp; omega
          rw [this]; simp [h0]
      rw [yT hx, jt, hf0] at hf
      repeat (first | ((with_reducible refine zJ ?_); refine zI rfl ?_) | ((with_reducible refine zD ?_); refine zC rfl ?_) | ((with_reducible refine jY ?_); refine ji rfl rfl (by assumption) ?_) | ((with_reducible refine zS ?_); refine zT rfl rfl rfl ?_)  | refine zH ?_ | refine zB rfl ?_ | with_reducible refine zE ?_ | with_reducible refine zF ?_ | with_reducible refine zY ?_ | with_reducible refine zU ?_ | ((with_reducible refine zA ?_ ?_); kernel_rfl))
      with_reducible refine yA ?_
      refine zj (fits_A _ _ hG) (by repeat' (first | exact trivial | exact Ren.v _ | exact Ren.sl _ _ | exact Ren.ep _ | exact Ren.ptr _ _ _ _ rfl | exact Ren.bs _ _ _ _ _ rfl | exact Ren.nil _ | exact Ren.own _ _ _ _ ⟨_, rfl⟩ | refine zP ?_ | refine zQ ?_ | refine zR ?_ | refine ⟨?_, ?_⟩)) (by repeat' (first | exact trivial | exact RenB.v _ | exact RenB.sl _ _ | exact RenB.ep _ | exact RenB.ptr _ _ _ _ rfl | refine zW ?_ | refine zV ?_ | refine ⟨?_, ?_⟩)) ?_
      repeat (first | ((with_reducible refine k_un ?_); refine jC rfl ?_)  | refine zH ?_ | refine zB rfl ?_ | with_reducible refine zE ?_ )
      refine zZ rfl (fun h1 => ?_) (fun h1 => ?_)
      · repeat (first | ((with_reducible refine zD ?_); refine zC rfl ?_)  | refine zH ?_ | refine zB rfl ?_ | with_reducible refine zE ?_ | with_reducible refine zM ?_ | with_reducible refine zX ?_ | with_reducible refine zF ?_ | with_reducible refine zL ?_ | ((with_reducible refine zA ?_ ?_); kernel_rfl))
        refine zk (by first | exact .inr rfl | exact .inl rfl) rfl rfl ?_
        unfold jG
        rw [← hf]
        simp at h1
        rw [h1]; rfl
      · repeat (first | ((with_reducible refine zJ ?_); refine zI rfl ?_) | ((with_reducible refine zS ?_); refine zl rfl rfl (by omega) ?_)  | refine zH ?_ | refine zB rfl ?_ | with_reducible refine zE ?_ | with_reducible refine zq ?_ | with_reducible refine zU ?_ | ((with_reducible refine zA ?_ ?_); kernel_rfl))
        refine ⟨k + 1, ⟨by omega, ?_⟩, by omega, ⟨rfl, rfl, rfl, trivial⟩, trivial⟩
        simp at h1
        rw [← hf, h1]; simp
    · obtain rfl : k = s.size := by simp at h; omega
      have hf1 : jt s.data.toList true = true := by
        rw [← hf, List.drop_of_length_le (by rw [← hs]; exact Nat.le_refl _)]; rfl
      repeat' (first | ((with_reducible refine zJ ?_); refine zI rfl ?_) | ((with_reducible refine zD ?_); refine zC rfl ?_) | ((with_reducible refine za ?_); refine zp rfl (by first | rfl | assumption) rfl ?_) | ((with_reducible refine za ?_); refine zn rfl (by first | rfl | assumption) rfl ?_) | ((with_reducible refine yA ?_); refine jb (by exact Tryz.underlying9) rfl ?_) | ((with_reducible refine zS ?_); refine zT rfl rfl rfl ?_)  | refine zH ?_ | refine zB rfl ?_ | refine yF rfl rfl (by first | rfl | assumption) ?_ | refine yH rfl rfl (by first | rfl | assumption) ?_ | with_reducible refine zE ?_ | with_reducible refine zm ?_ | with_reducible refine zF ?_ | with_reducible refine yB ?_ | with_reducible refine zL ?_ | ((with_reducible refine zh ?_ ?_); rfl) | ((with_reducible refine zA ?_ ?_); kernel_rfl) | refine zw rfl rfl (fun _ => ?_) (fun _ => ?_) | refine zZ rfl (fun _ => ?_) (fun _ => ?_))
      all_goals refine zk (by first | exact .inr rfl | exact .inl rfl) rfl rfl ?_
      all_goals unfold jG
      all_goals rw [hf1, ← hs]
      all_goals clear hs hf hf1
      all_goals refine congrArg (fun b => AV.v (.bool b)) ?_
      all_goals rw [Bool.eq_iff_iff]
      all_goals simp at *
      all_goals omega
set_option maxHeartbeats 1000000 in
theorem rname_A (s : ByteArray) (hm : s.size ≤ maxLen) : zy Tryz.prog G 70 [.v (.string s)] [] (.v (.bool (jG s.data.toList))) [] := by
  have hm2 : s.size ≤ 9223372036854775807 := by unfold maxLen at hm; omega
  have hs := sizeS s
  rw [← rname_eq]
  refine zf tbOk (zg Tryz.func70 (by kernel_rfl) rfl) Tryz.func70 rfl _ Tryz.ntmps70 (Nat.le_of_ble_eq_true rfl) fun X hX => ?_
  subst hX
  repeat (first | ((with_reducible refine zJ ?_); refine zI rfl ?_) | ((with_reducible refine zD ?_); refine zC rfl ?_) | ((with_reducible refine yA ?_); refine jb (by exact Tryz.underlying9) rfl ?_) | ((with_reducible refine zS ?_); refine zT rfl rfl rfl ?_)  | refine zH ?_ | refine zB rfl ?_ | with_reducible refine zE ?_ | with_reducible refine zF ?_ | ((with_reducible refine zA ?_ ?_); kernel_rfl))
  refine zw rfl rfl (fun h1 => ?_) (fun h1 => ?_)
  · have e : rnameB s.data.toList = false := by
      have : s.data.toList = [] := List.eq_nil_of_length_eq_zero (by rw [← hs]; simp at h1; omega)
      rw [this]; rfl
    repeat (first | ((with_reducible refine zJ ?_); refine zI rfl ?_) | ((with_reducible refine zD ?_); refine zC rfl ?_) | ((with_reducible refine za ?_); refine zp rfl (by first | rfl | assumption) rfl ?_)  | refine zH ?_ | refine zB rfl ?_ | refine yD rfl rfl (by first | rfl | assumption) ?_ | with_reducible refine zE ?_ | with_reducible refine zM ?_ | with_reducible refine zF ?_ | with_reducible refine zL ?_ | ((with_reducible refine zA ?_ ?_); kernel_rfl) | refine zv rfl (by first | rfl | assumption) ?_)
    refine zk (by first | exact .inr rfl | exact .inl rfl) rfl rfl ?_
    rw [e]
  · repeat (first | ((with_reducible refine zJ ?_); refine zI rfl ?_) | ((with_reducible refine za ?_); refine zn rfl (by first | rfl | assumption) rfl ?_) | ((with_reducible refine yA ?_); refine jb (by exact Tryz.underlying9) rfl ?_) | ((with_reducible refine zS ?_); refine zT rfl rfl rfl ?_)  | refine zB rfl ?_ | refine zz rfl rfl (by first | rfl | assumption) ?_  )
    refine zw rfl rfl (fun h2 => ?_) (fun h2 => ?_)
    · have e : rnameB s.data.toList = false := by
        unfold rnameB
        simp at h2
        split
        · rfl
        · rename_i c r hc
          have : decide ((c :: r).length ≤ 12) = false := by rw [← hc, ← hs]; simp; omega
          rw [this]; rfl
      repeat (first | ((with_reducible refine zD ?_); refine zC rfl ?_) | ((with_reducible refine za ?_); refine zp rfl (by first | rfl | assumption) rfl ?_)  | refine zH ?_ | refine zB rfl ?_ | refine yD rfl rfl (by first | rfl | assumption) ?_ | with_reducible refine zE ?_ | with_reducible refine zM ?_ | with_reducible refine zF ?_ | with_reducible refine zL ?_ | ((with_reducible refine zA ?_ ?_); kernel_rfl) | refine zv rfl (by first | rfl | assumption) ?_)
      refine zk (by first | exact .inr rfl | exact .inl rfl) rfl rfl ?_
      rw [e]
    · obtain ⟨c0, hx0⟩ := zc (L := s.data.toList) (k := 0) (by rw [← hs]; simp at h1; omega)
      have ix0 : ∀ w : World, (Instr.index 9 (.string s) (.int .i64 0)).run Tryz.prog w = .ok (.int .u8 (c0.toNat : Int)) w := fun w => idxS s 0 c0 hx0 w
      have e : rnameB s.data.toList = (jv c0.toNat && qJ s.data.toList) := by
        unfold rnameB
        match hl : s.data.toList with
        | [] => rw [hl] at hx0; simp at hx0
        | c :: r =>
          rw [hl] at hx0
          simp at hx0
          subst hx0
          have : decide ((c :: r).length ≤ 12) = true := by rw [← hl, ← hs]; simp at h2 ⊢; omega
          simp only [this, Bool.true_and]
      rw [e]
      repeat (first | ((with_reducible refine zJ ?_); refine zI rfl ?_) | ((with_reducible refine jY ?_); refine ji rfl rfl (by assumption) ?_)  | refine zz rfl rfl (by first | rfl | assumption) ?_  )
      with_reducible refine yA ?_
      refine zj (letter_A _) (by repeat' (first | exact trivial | exact Ren.v _ | exact Ren.sl _ _ | exact Ren.ep _ | exact Ren.ptr _ _ _ _ rfl | exact Ren.bs _ _ _ _ _ rfl | exact Ren.nil _ | exact Ren.own _ _ _ _ ⟨_, rfl⟩ | refine zP ?_ | refine zQ ?_ | refine zR ?_ | refine ⟨?_, ?_⟩)) (by repeat' (first | exact trivial | exact RenB.v _ | exact RenB.sl _ _ | exact RenB.ep _ | exact RenB.ptr _ _ _ _ rfl | refine zW ?_ | refine zV ?_ | refine ⟨?_, ?_⟩)) ?_
      repeat (first | ((with_reducible refine k_un ?_); refine jC rfl ?_) | ((with_reducible refine za ?_); refine zn rfl (by first | rfl | assumption) rfl ?_)  | refine zH ?_ | refine zB rfl ?_ | refine zz rfl rfl (by first | rfl | assumption) ?_ | with_reducible refine zE ?_ )
      refine zZ rfl (fun h3 => ?_) (fun h3 => ?_)
      · repeat (first | ((with_reducible refine zD ?_); refine zC rfl ?_)  | refine zH ?_ | refine zB rfl ?_ | with_reducible refine zE ?_ | with_reducible refine zM ?_ | with_reducible refine zF ?_ | with_reducible refine zL ?_ | ((with_reducible refine zA ?_ ?_); kernel_rfl))
        refine zk (by first | exact .inr rfl | exact .inl rfl) rfl rfl ?_
        simp at h3
        rw [h3]; rfl
      · simp at h3
        rw [h3, Bool.true_and]
        repeat (first | ((with_reducible refine zD ?_); refine zC rfl ?_)  | refine zH ?_ | refine zB rfl ?_ | with_reducible refine zE ?_ | with_reducible refine zF ?_ | with_reducible refine zY ?_ | with_reducible refine zU ?_ | ((with_reducible refine zA ?_ ?_); kernel_rfl))
        refine yN (ι := Nat) (fun k => k ≤ s.size ∧ qJ (s.data.toList.drop k) = qJ s.data.toList) (fun k => s.size - k) (fun v k => [(0, .v (.string s)), (3, .v (.int .i64 k))]) (fun v k => []) ?_ ?_
        · exact ⟨0, ⟨by omega, rfl⟩, trivial, ⟨rfl, rfl, trivial⟩, trivial⟩
        · rintro v k ⟨hk, hf⟩
          repeat (first | ((with_reducible refine zJ ?_); refine zI rfl ?_) | ((with_reducible refine yA ?_); refine jb (by exact Tryz.underlying9) rfl ?_) | ((with_reducible refine zS ?_); refine zT rfl rfl rfl ?_)  | refine zH ?_ | refine zB rfl ?_ | with_reducible refine zE ?_ | with_reducible refine zF ?_ | ((with_reducible refine zA ?_ ?_); kernel_rfl))
          refine zZ rfl (fun h => ?_) (fun h => ?_)
          · have hlt : k < s.size := by simp at h; omega
            obtain ⟨c, hx⟩ := zc (L := s.data.toList) (k := k) (by rw [← hs]; exact hlt)
            have ix := idxS s k c hx
            have hf' := hf
            rw [yT hx, qJ] at hf
            repeat (first | ((with_reducible refine zJ ?_); refine zI rfl ?_) | ((with_reducible refine jY ?_); refine ji rfl rfl (by assumption) ?_)  | refine zB rfl ?_ | with_reducible refine zE ?_ | with_reducible refine zF ?_ | with_reducible refine zY ?_ | with_reducible refine zU ?_ | ((with_reducible refine zA ?_ ?_); kernel_rfl))
            with_reducible refine yA ?_
            refine zj (letter_A _) (by repeat' (first | exact trivial | exact Ren.v _ | exact Ren.sl _ _ | exact Ren.ep _ | exact Ren.ptr _ _ _ _ rfl | exact Ren.bs _ _ _ _ _ rfl | exact Ren.nil _ | exact Ren.own _ _ _ _ ⟨_, rfl⟩ | refine zP ?_ | refine zQ ?_ | refine zR ?_ | refine ⟨?_, ?_⟩)) (by repeat' (first | exact trivial | exact RenB.v _ | exact RenB.sl _ _ | exact RenB.ep _ | exact RenB.ptr _ _ _ _ rfl | refine zW ?_ | refine zV ?_ | refine ⟨?_, ?_⟩)) ?_
            repeat (first | ((with_reducible refine zJ ?_); refine zI rfl ?_) | ((with_reducible refine k_un ?_); refine jC rfl ?_)  | refine zB rfl ?_  )
            refine zw rfl rfl (fun h4 => ?_) (fun h4 => ?_)
            · repeat (first | ((with_reducible refine zJ ?_); refine zI rfl ?_) | ((with_reducible refine jY ?_); refine ji rfl rfl (by assumption) ?_)  | refine yF rfl rfl (by first | rfl | assumption) ?_  )
              with_reducible refine yA ?_
              refine zj (digit_A _) (by repeat' (first | exact trivial | exact Ren.v _ | exact Ren.sl _ _ | exact Ren.ep _ | exact Ren.ptr _ _ _ _ rfl | exact Ren.bs _ _ _ _ _ rfl | exact Ren.nil _ | exact Ren.own _ _ _ _ ⟨_, rfl⟩ | refine zP ?_ | refine zQ ?_ | refine zR ?_ | refine ⟨?_, ?_⟩)) (by repeat' (first | exact trivial | exact RenB.v _ | exact RenB.sl _ _ | exact RenB.ep _ | exact RenB.ptr _ _ _ _ rfl | refine zW ?_ | refine zV ?_ | refine ⟨?_, ?_⟩)) ?_
              repeat' (first | ((with_reducible refine zJ ?_); refine zI rfl ?_) | ((with_reducible refine zD ?_); refine zC rfl ?_) | ((with_reducible refine k_un ?_); refine jC rfl ?_) | ((with_reducible refine za ?_); refine zp rfl (by first | rfl | assumption) rfl ?_) | ((with_reducible refine za ?_); refine zn rfl (by first | rfl | assumption) rfl ?_) | ((with_reducible refine jY ?_); refine ji rfl rfl (by assumption) ?_) | ((with_reducible refine zS ?_); refine zl rfl rfl (by omega) ?_) | ((with_reducible refine zS ?_); refine zT rfl rfl rfl ?_)  | refine zH ?_ | refine zB rfl ?_ | refine yF rfl rfl (by first | rfl | assumption) ?_ | refine yH rfl rfl (by first | rfl | assumption) ?_ | with_reducible refine zE ?_ | with_reducible refine zM ?_ | with_reducible refine zq ?_ | with_reducible refine zX ?_ | with_reducible refine zF ?_ | with_reducible refine zU ?_ | with_reducible refine zL ?_ | ((with_reducible refine zA ?_ ?_); kernel_rfl) | refine yI rfl (by first | rfl | assumption) ?_ | refine zw rfl rfl (fun _ => ?_) (fun _ => ?_) | refine zZ rfl (fun _ => ?_) (fun _ => ?_))
              all_goals first
                | (refine zk (by first | exact .inr rfl | exact .inl rfl) rfl rfl ?_; rw [← hf]; clear hf hf' ix ix0 hs e hx hx0; simp_all [charB]; done)
                | (refine ⟨k + 1, ⟨by omega, ?_⟩, by omega, ⟨rfl, rfl, trivial⟩, trivial⟩; rw [← hf]; clear hf hf' ix ix0 hs e hx hx0; simp_all [charB]; done)
            · repeat' (first | ((with_reducible refine zJ ?_); refine zI rfl ?_) | ((with_reducible refine zD ?_); refine zC rfl ?_) | ((with_reducible refine za ?_); refine zn rfl (by first | rfl | assumption) rfl ?_) | ((with_reducible refine zS ?_); refine zl rfl rfl (by omega) ?_)  | refine zH ?_ | refine zB rfl ?_ | refine yH rfl rfl (by first | rfl | assumption) ?_ | with_reducible refine zE ?_ | with_reducible refine zq ?_ | with_reducible refine zU ?_ | ((with_reducible refine zA ?_ ?_); kernel_rfl) | refine yI rfl (by first | rfl | assumption) ?_ | refine zw rfl rfl (fun _ => ?_) (fun _ => ?_) | refine zZ rfl (fun _ => ?_) (fun _ => ?_))
              all_goals first
                | (refine zk (by first | exact .inr rfl | exact .inl rfl) rfl rfl ?_; rw [← hf]; clear hf hf' ix ix0 hs e hx hx0; simp_all [charB]; done)
                | (refine ⟨k + 1, ⟨by omega, ?_⟩, by omega, ⟨rfl, rfl, trivial⟩, trivial⟩; rw [← hf]; clear hf hf' ix ix0 hs e hx hx0; simp_all [charB]; done)
          · obtain rfl : k = s.size := by simp at h; omega
            have hf1 : qJ s.data.toList = true := by
              rw [← hf, List.drop_of_length_le (by rw [← hs]; exact Nat.le_refl _)]; rfl
            repeat (first | ((with_reducible refine zD ?_); refine zC rfl ?_)  | refine zH ?_ | refine zB rfl ?_ | with_reducible refine zE ?_ | with_reducible refine zm ?_ | with_reducible refine zF ?_ | with_reducible refine yB ?_ | with_reducible refine zL ?_ | ((with_reducible refine zh ?_ ?_); rfl) | ((with_reducible refine zA ?_ ?_); kernel_rfl))
            refine zk (by first | exact .inr rfl | exact .inl rfl) rfl rfl ?_
            rw [hf1]
end Go.Proofs.YtjamibeffalhaaaGreatDoor
