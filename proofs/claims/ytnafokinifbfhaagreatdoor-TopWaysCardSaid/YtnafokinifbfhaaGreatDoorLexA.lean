/- Names, by plain functions on bytes: what lexeme.Name and its reference say, and that they say the same; nothing of the program stands here / lexeme.Name, its reference, and what they call, by the abstract machine; conditions: the table of classes stands. -/
import Derived.Test.YtnafokinifbfhaaGreatDoorLib
import Derived.Test.YtnafokinifbfhaaGreatDoorAbsS
import Derived.Test.YtnafokinifbfhaaGreatDoorTab
set_option linter.unusedVariables false
set_option linter.unusedSimpArgs false
namespace Go.Proofs.YtnafokinifbfhaaGreatDoor
open Go Go.RowKit
def gO : List (Int × Int × Bool) := [(65, 90, true), (97, 122, true), (48, 57, false), (95, 95, false)]
def fA : List (Int × Int × Bool) → Int → Bool → Bool
  | [], _, _ => false
  | (lo, hi, fs) :: r, b, f => if lo ≤ b ∧ b ≤ hi then (fs || !f) else fA r b f
def iR (b : Int) (f : Bool) : Bool := fA gO b f
def qh : List UInt8 → Bool → Bool
  | [], _ => true
  | c :: r, f => iR c.toNat f && qh r false
def qd (l : List UInt8) : Bool := qh l true && decide (1 ≤ l.length) && decide (l.length ≤ 12)
def qU (b : Int) : Bool := (decide (65 ≤ b) && decide (b ≤ 90)) || (decide (97 ≤ b) && decide (b ≤ 122))
def pH (b : Int) : Bool := decide (48 ≤ b) && decide (b ≤ 57)
def dY (b : Int) : Bool := qU b || pH b || b == 95
def qz : List UInt8 → Bool
  | [] => true
  | c :: r => dY c.toNat && qz r
def eJ (l : List UInt8) : Bool := match l with
  | [] => false
  | c :: r => decide ((c :: r).length ≤ 12) && qU c.toNat && qz (c :: r)
theorem tB (b : Int) : iR b true = qU b := by
  unfold iR gO qU
  simp only [fA]
  by_cases h1 : 65 ≤ b ∧ b ≤ 90
  · simp [h1]
  · by_cases h2 : 97 ≤ b ∧ b ≤ 122
    · simp [h2]
    · have e1 : (decide (65 ≤ b) && decide (b ≤ 90)) = false := by simp; omega
      have e2 : (decide (97 ≤ b) && decide (b ≤ 122)) = false := by simp; omega
      rw [e1, e2, if_neg h1, if_neg h2]
      by_cases h3 : 48 ≤ b ∧ b ≤ 57
      · rw [if_pos h3]; rfl
      · rw [if_neg h3]
        by_cases h4 : 95 ≤ b ∧ b ≤ 95
        · rw [if_pos h4]; rfl
        · rw [if_neg h4]; rfl
theorem tR (b : Int) : iR b false = dY b := by
  unfold iR gO dY qU pH
  simp only [fA]
  by_cases h1 : 65 ≤ b ∧ b ≤ 90
  · simp [h1]
  · by_cases h2 : 97 ≤ b ∧ b ≤ 122
    · simp [h2]
    · have e1 : (decide (65 ≤ b) && decide (b ≤ 90)) = false := by simp; omega
      have e2 : (decide (97 ≤ b) && decide (b ≤ 122)) = false := by simp; omega
      rw [e1, e2, if_neg h1, if_neg h2]
      by_cases h3 : 48 ≤ b ∧ b ≤ 57
      · simp [h3]
      · have e3 : (decide (48 ≤ b) && decide (b ≤ 57)) = false := by simp; omega
        rw [if_neg h3, e3]
        by_cases h4 : b = 95
        · simp [h4]
        · rw [if_neg (by omega)]
          simp [h4]
theorem dW : ∀ l : List UInt8, qh l false = qz l
  | [] => rfl
  | c :: r => by rw [qh, qz, tR, dW r]
theorem rB {b : Int} (h : qU b = true) : dY b = true := by simp [dY, h]
theorem rname_eq (l : List UInt8) : eJ l = qd l := by
  cases l with
  | nil => rfl
  | cons c r =>
    unfold eJ qd
    have e : qz (c :: r) = (dY c.toNat && qz r) := rfl
    dsimp only
    rw [qh, tB, dW, e]
    cases hl : qU c.toNat with
    | false => simp
    | true =>
      rw [rB hl]
      simp
      rw [Bool.and_comm]
end Go.Proofs.YtnafokinifbfhaaGreatDoor
namespace Go.Proofs.YtnafokinifbfhaaGreatDoor
open Go Go.RowKit
set_option maxRecDepth 10000
def clsL : List Value := [.int .u8 65, .int .u8 90, .bool true, .int .u8 97, .int .u8 122, .bool true, .int .u8 48, .int .u8 57, .bool false, .int .u8 95, .int .u8 95, .bool false]
def GCls (G : Nat → Option (List Value)) : Prop := G 1 = some clsL
theorem idxS (s : ByteArray) (k : Nat) (c : UInt8) (hc : s.data.toList[k]? = some c) (w : World) : (Instr.index 9 (.string s) (.int .i64 k)).run Tryz.prog w = .ok (.int .u8 (c.toNat : Int)) w := by
  have hk := zo hc
  have hk2 : k < s.size := by simpa using hk
  rw [run_index_string w 9 s .i64 _ Tryz.underlying9, dif_pos ⟨by omega, by omega⟩]
  have e : ((k : Int)).toNat = k := by omega
  simp only [e]
  have : s[k] = c := by
    rw [List.getElem?_eq_getElem hk] at hc
    injection hc with hc
  rw [this]
theorem sizeS (s : ByteArray) : s.size = s.data.toList.length := by simp
theorem clsAt {k : Nat} (hk : k < 4) : ∃ lo hi fs, gO[k]? = some (lo, hi, fs) ∧ ∀ w : World, (Instr.index 222 (.agg ⟨clsL⟩) (.int .i64 k)).run Tryz.prog w = .ok (.agg ⟨[.int .u8 lo, .int .u8 hi, .bool fs]⟩) w := by
  obtain rfl | rfl | rfl | rfl : k = 0 ∨ k = 1 ∨ k = 2 ∨ k = 3 := by omega
  · exact ⟨65, 90, true, rfl, fun w => by kernel_rfl⟩
  · exact ⟨97, 122, true, rfl, fun w => by kernel_rfl⟩
  · exact ⟨48, 57, false, rfl, fun w => by kernel_rfl⟩
  · exact ⟨95, 95, false, rfl, fun w => by kernel_rfl⟩
variable {G : Nat → Option (List Value)}
theorem rZ (b : Int) : zu Tryz.prog G 141 [.v (.int .u8 b)] [] (.v (.bool (qU b))) [] := by
  refine zf tbOk (zM Tryz.func141 (by kernel_rfl) rfl) Tryz.func141 rfl _ Tryz.ntmps141 (Nat.le_of_ble_eq_true rfl) fun X hX => ?_
  subst hX
  repeat' (first | ((with_reducible refine zI ?_); refine zH rfl ?_) | ((with_reducible refine zE ?_); refine zD rfl ?_) | ((with_reducible refine zZ ?_); (first | refine zh rfl (by first | rfl | assumption) rfl ?_ | refine zi rfl (by first | rfl | assumption) rfl ?_)) | ((with_reducible refine zP ?_); refine zS rfl rfl rfl ?_)  | refine zJ ?_ | refine zB rfl ?_ | refine zq rfl rfl (by first | rfl | assumption) ?_ | refine yH rfl rfl (by first | rfl | assumption) ?_ | refine zt rfl rfl (by first | rfl | assumption) ?_ | refine yF rfl rfl (by first | rfl | assumption) ?_ | refine qF rfl rfl rfl ?_ | with_reducible (first | refine zC ?_ | refine zF ?_ | refine zQ ?_) | ((with_reducible refine zA ?_ ?_); kernel_rfl) | refine yD rfl rfl (fun _ => ?_) (fun _ => ?_) | refine zX rfl (fun _ => ?_) (fun _ => ?_))
  all_goals refine zj (by first | exact .inr rfl | exact .inl rfl) rfl rfl ?_
  all_goals simp_all [qU]
  all_goals omega
theorem digit_A (b : Int) : zu Tryz.prog G 142 [.v (.int .u8 b)] [] (.v (.bool (pH b))) [] := by
  refine zf tbOk (zM Tryz.func142 (by kernel_rfl) rfl) Tryz.func142 rfl _ Tryz.ntmps142 (Nat.le_of_ble_eq_true rfl) fun X hX => ?_
  subst hX
  repeat' (first | ((with_reducible refine zI ?_); refine zH rfl ?_) | ((with_reducible refine zE ?_); refine zD rfl ?_) | ((with_reducible refine zZ ?_); (first | refine zh rfl (by first | rfl | assumption) rfl ?_ | refine zi rfl (by first | rfl | assumption) rfl ?_)) | ((with_reducible refine zP ?_); refine zS rfl rfl rfl ?_)  | refine zJ ?_ | refine zB rfl ?_ | refine zq rfl rfl (by first | rfl | assumption) ?_ | refine yH rfl rfl (by first | rfl | assumption) ?_ | with_reducible (first | refine zC ?_ | refine zF ?_ | refine zQ ?_) | ((with_reducible refine zA ?_ ?_); kernel_rfl) | refine yD rfl rfl (fun _ => ?_) (fun _ => ?_) | refine zX rfl (fun _ => ?_) (fun _ => ?_))
  all_goals refine zj (by first | exact .inr rfl | exact .inl rfl) rfl rfl ?_
  all_goals simp_all [pH]
  all_goals omega
set_option maxHeartbeats 1000000 in
theorem fits_A (b : Int) (f : Bool) (hG : GCls G) : zu Tryz.prog G 152 [.v (.int .u8 b), .v (.bool f)] [] (.v (.bool (iR b f))) [] := by
  refine zf tbOk (zM Tryz.func152 (by kernel_rfl) rfl) Tryz.func152 rfl _ Tryz.ntmps152 (Nat.le_of_ble_eq_true rfl) fun X hX => ?_
  subst hX
  have hg0 : X.G 1 = some clsL := hG
  repeat (first | ((with_reducible refine zE ?_); refine zD rfl ?_)  | refine zJ ?_ | refine zB rfl ?_ | with_reducible (first | refine zC ?_ | refine zF ?_) | ((with_reducible refine zA ?_ ?_); kernel_rfl))
  with_reducible refine zO ?_
  refine rY tbOk rfl rfl hg0 rfl ?_
  repeat (first | ((with_reducible refine zI ?_); refine zH rfl ?_)  | refine zJ ?_ | refine zB rfl ?_ | with_reducible (first | refine zC ?_ | refine zU ?_) )
  refine yL (ι := Nat) (fun k => k ≤ 4 ∧ fA (gO.drop k) b f = iR b f) (fun k => 4 - k) (fun v k => [(0, .v (.int .u8 b)), (1, .v (.bool f)), (7, .v (.agg ⟨clsL⟩)), (8, .v (.int .i64 k))]) (fun v k => []) ?_ ?_
  · exact ⟨0, ⟨by omega, rfl⟩, trivial, ⟨rfl, rfl, rfl, rfl, trivial⟩, trivial⟩
  · rintro v k ⟨hk, hf⟩
    repeat (first | ((with_reducible refine zP ?_); refine zS rfl rfl rfl ?_)  | refine zJ ?_ | refine zB rfl ?_ | with_reducible (first | refine zC ?_ | refine zF ?_) | ((with_reducible refine zA ?_ ?_); kernel_rfl))
    refine zX rfl (fun h => ?_) (fun h => ?_)
    · have hlt : k < 4 := by simp at h; omega
      obtain ⟨lo, hi, fs, ht, ix⟩ := clsAt hlt
      have e0 : iR b f = if lo ≤ b ∧ b ≤ hi then (fs || !f) else fA (gO.drop (k + 1)) b f := by
        rw [← hf, yq ht, fA]
      repeat' (first | ((with_reducible refine zI ?_); refine zH rfl ?_) | ((with_reducible refine zE ?_); refine zD rfl ?_) | ((with_reducible refine zK ?_); refine zG tbOk rfl rfl rfl rfl ?_) | ((with_reducible refine zO ?_); refine zL tbOk rfl rfl rfl rfl rfl ?_) | ((with_reducible refine yN ?_); refine yT tbOk rfl rfl rfl rfl rfl rfl rfl (Nat.le_of_ble_eq_true rfl) rfl ?_) | ((with_reducible refine jB ?_); refine jA tbOk rfl rfl ?_) | ((with_reducible refine k_un ?_); refine jL rfl ?_) | ((with_reducible refine zZ ?_); (first | refine zh rfl (by first | rfl | assumption) rfl ?_ | refine zi rfl (by first | rfl | assumption) rfl ?_)) | ((with_reducible refine dF ?_); refine tW rfl rfl (by assumption) ?_) | ((with_reducible refine zP ?_); (first | refine zY rfl rfl (by omega) ?_ | refine zS rfl rfl rfl ?_))  | refine zJ ?_ | refine zB rfl ?_ | refine zq rfl rfl (by first | rfl | assumption) ?_ | refine yH rfl rfl (by first | rfl | assumption) ?_ | refine zt rfl rfl (by first | rfl | assumption) ?_ | refine yF rfl rfl (by first | rfl | assumption) ?_ | with_reducible (first | refine zC ?_ | refine zR ?_ | refine zd ?_ | refine zV ?_ | refine zF ?_ | refine zU ?_ | refine zN ?_ | refine zQ ?_) | ((with_reducible refine zA ?_ ?_); kernel_rfl) | refine zy rfl (by first | rfl | assumption) ?_ | refine yD rfl rfl (fun _ => ?_) (fun _ => ?_) | refine zX rfl (fun _ => ?_) (fun _ => ?_))
      all_goals first
        | (refine zj (by first | exact .inr rfl | exact .inl rfl) rfl rfl ?_; rw [e0, if_pos (by simp_all)]; simp_all; done)
        | (refine ⟨k + 1, ⟨by omega, ?_⟩, by omega, ⟨rfl, rfl, rfl, rfl, trivial⟩, trivial⟩; rw [e0, if_neg (by simp_all <;> omega)])
    · obtain rfl : k = 4 := by simp at h; omega
      repeat (first | ((with_reducible refine zE ?_); refine zD rfl ?_)  | refine zJ ?_ | refine zB rfl ?_ | with_reducible (first | refine zC ?_ | refine ze ?_ | refine zF ?_ | refine zr ?_ | refine zQ ?_) | ((with_reducible refine za ?_ ?_); rfl) | ((with_reducible refine zA ?_ ?_); kernel_rfl))
      refine zj (by first | exact .inr rfl | exact .inl rfl) rfl rfl ?_
      rw [← hf]; rfl
set_option maxHeartbeats 1000000 in
theorem name_A (s : ByteArray) (hG : GCls G) (hm : s.size ≤ maxLen) : zu Tryz.prog G 106 [.v (.string s)] [] (.v (.bool (qd s.data.toList))) [] := by
  have hm2 : s.size ≤ 9223372036854775807 := by unfold maxLen at hm; omega
  have hs := sizeS s
  refine zf tbOk (zM Tryz.func106 (by kernel_rfl) rfl) Tryz.func106 rfl _ Tryz.ntmps106 (Nat.le_of_ble_eq_true rfl) fun X hX => ?_
  subst hX
  repeat (first | ((with_reducible refine zI ?_); refine zH rfl ?_) | ((with_reducible refine zE ?_); refine zD rfl ?_) | ((with_reducible refine zp ?_); refine aY (by exact Tryz.underlying9) rfl ?_)  | refine zJ ?_ | refine zB rfl ?_ | with_reducible (first | refine zC ?_ | refine zF ?_ | refine zU ?_) | ((with_reducible refine zA ?_ ?_); kernel_rfl))
  refine yL (ι := Nat) (fun k => k ≤ s.size ∧ qh (s.data.toList.drop k) (decide (k = 0)) = qh s.data.toList true) (fun k => s.size - k) (fun v k => [(0, .v (.string s)), (5, .v (.int .i64 s.size)), (6, .v (.int .i64 k))]) (fun v k => []) ?_ ?_
  · exact ⟨0, ⟨by omega, rfl⟩, trivial, ⟨rfl, rfl, rfl, trivial⟩, trivial⟩
  · rintro v k ⟨hk, hf⟩
    repeat (first | ((with_reducible refine zP ?_); refine zS rfl rfl rfl ?_)  | refine zJ ?_ | refine zB rfl ?_ | with_reducible (first | refine zC ?_ | refine zF ?_) | ((with_reducible refine zA ?_ ?_); kernel_rfl))
    refine zX rfl (fun h => ?_) (fun h => ?_)
    · have hlt : k < s.size := by simp at h; omega
      obtain ⟨c, hx⟩ := zT (L := s.data.toList) (k := k) (by rw [← hs]; exact hlt)
      have ix := idxS s k c hx
      have hf0 : decide (k = 0) = ((k : Int) == 0) := by
        by_cases h0 : k = 0
        · simp [h0]
        · have : ((k : Int) == 0) = false := by simp; omega
          rw [this]; simp [h0]
      rw [yq hx, qh, hf0] at hf
      repeat (first | ((with_reducible refine zI ?_); refine zH rfl ?_) | ((with_reducible refine zE ?_); refine zD rfl ?_) | ((with_reducible refine dF ?_); refine fR rfl rfl (by assumption) ?_) | ((with_reducible refine zP ?_); refine zS rfl rfl rfl ?_)  | refine zJ ?_ | refine zB rfl ?_ | with_reducible (first | refine zC ?_ | refine zF ?_ | refine zU ?_ | refine zN ?_) | ((with_reducible refine zA ?_ ?_); kernel_rfl))
      with_reducible refine zp ?_
      refine zl (fits_A _ _ hG) (by repeat' (first | exact trivial | exact Ren.v _ | exact Ren.sl _ _ | exact Ren.ep _ | exact Ren.ptr _ _ _ _ rfl | exact Ren.bs _ _ _ _ _ rfl | exact Ren.nil _ | exact Ren.own _ _ _ _ ⟨_, rfl⟩ | refine zn ?_ | refine zz ?_ | refine yG ?_ | refine ⟨?_, ?_⟩)) (by repeat' (first | exact trivial | exact RenB.v _ | exact RenB.sl _ _ | exact RenB.ep _ | exact RenB.ptr _ _ _ _ rfl | refine yi ?_ | refine yM ?_ | refine ⟨?_, ?_⟩)) ?_
      repeat (first | ((with_reducible refine k_un ?_); refine jL rfl ?_)  | refine zJ ?_ | refine zB rfl ?_ | with_reducible refine zC ?_ )
      refine zX rfl (fun h1 => ?_) (fun h1 => ?_)
      · repeat (first | ((with_reducible refine zE ?_); refine zD rfl ?_)  | refine zJ ?_ | refine zB rfl ?_ | with_reducible (first | refine zC ?_ | refine zR ?_ | refine zV ?_ | refine zF ?_ | refine zQ ?_) | ((with_reducible refine zA ?_ ?_); kernel_rfl))
        refine zj (by first | exact .inr rfl | exact .inl rfl) rfl rfl ?_
        unfold qd
        rw [← hf]
        simp at h1
        rw [h1]; rfl
      · repeat (first | ((with_reducible refine zI ?_); refine zH rfl ?_) | ((with_reducible refine zP ?_); refine zY rfl rfl (by omega) ?_)  | refine zJ ?_ | refine zB rfl ?_ | with_reducible (first | refine zC ?_ | refine zd ?_ | refine zN ?_) | ((with_reducible refine zA ?_ ?_); kernel_rfl))
        refine ⟨k + 1, ⟨by omega, ?_⟩, by omega, ⟨rfl, rfl, rfl, trivial⟩, trivial⟩
        simp at h1
        rw [← hf, h1]; simp
    · obtain rfl : k = s.size := by simp at h; omega
      have hf1 : qh s.data.toList true = true := by
        rw [← hf, List.drop_of_length_le (by rw [← hs]; exact Nat.le_refl _)]; rfl
      repeat' (first | ((with_reducible refine zI ?_); refine zH rfl ?_) | ((with_reducible refine zE ?_); refine zD rfl ?_) | ((with_reducible refine zZ ?_); (first | refine zh rfl (by first | rfl | assumption) rfl ?_ | refine zi rfl (by first | rfl | assumption) rfl ?_)) | ((with_reducible refine zp ?_); refine aY (by exact Tryz.underlying9) rfl ?_) | ((with_reducible refine zP ?_); refine zS rfl rfl rfl ?_)  | refine zJ ?_ | refine zB rfl ?_ | refine zq rfl rfl (by first | rfl | assumption) ?_ | refine yH rfl rfl (by first | rfl | assumption) ?_ | with_reducible (first | refine zC ?_ | refine ze ?_ | refine zF ?_ | refine zr ?_ | refine zQ ?_) | ((with_reducible refine za ?_ ?_); rfl) | ((with_reducible refine zA ?_ ?_); kernel_rfl) | refine yD rfl rfl (fun _ => ?_) (fun _ => ?_) | refine zX rfl (fun _ => ?_) (fun _ => ?_))
      all_goals refine zj (by first | exact .inr rfl | exact .inl rfl) rfl rfl ?_
      all_goals unfold qd
      all_goals rw [hf1, ← hs]
      all_goals clear hs hf hf1
      all_goals refine congrArg (fun b => AV.v (.bool b)) ?_
      all_goals rw [Bool.eq_iff_iff]
      all_goals simp at *
      all_goals omega
set_option maxHeartbeats 1000000 in
theorem vB (s : ByteArray) (hm : s.size ≤ maxLen) : zu Tryz.prog G 99 [.v (.string s)] [] (.v (.bool (qd s.data.toList))) [] := by
  have hm2 : s.size ≤ 9223372036854775807 := by unfold maxLen at hm; omega
  have hs := sizeS s
  rw [← rname_eq]
  refine zf tbOk (zM Tryz.func99 (by kernel_rfl) rfl) Tryz.func99 rfl _ Tryz.ntmps99 (Nat.le_of_ble_eq_true rfl) fun X hX => ?_
  subst hX
  repeat (first | ((with_reducible refine zI ?_); refine zH rfl ?_) | ((with_reducible refine zE ?_); refine zD rfl ?_) | ((with_reducible refine zp ?_); refine aY (by exact Tryz.underlying9) rfl ?_) | ((with_reducible refine zP ?_); refine zS rfl rfl rfl ?_)  | refine zJ ?_ | refine zB rfl ?_ | with_reducible (first | refine zC ?_ | refine zF ?_) | ((with_reducible refine zA ?_ ?_); kernel_rfl))
  refine yD rfl rfl (fun h1 => ?_) (fun h1 => ?_)
  · have e : eJ s.data.toList = false := by
      have : s.data.toList = [] := List.eq_nil_of_length_eq_zero (by rw [← hs]; simp at h1; omega)
      rw [this]; rfl
    repeat (first | ((with_reducible refine zI ?_); refine zH rfl ?_) | ((with_reducible refine zE ?_); refine zD rfl ?_) | ((with_reducible refine zZ ?_); refine zh rfl (by first | rfl | assumption) rfl ?_)  | refine zJ ?_ | refine zB rfl ?_ | refine yF rfl rfl (by first | rfl | assumption) ?_ | with_reducible (first | refine zC ?_ | refine zR ?_ | refine zF ?_ | refine zQ ?_) | ((with_reducible refine zA ?_ ?_); kernel_rfl) | refine yJ rfl (by first | rfl | assumption) ?_)
    refine zj (by first | exact .inr rfl | exact .inl rfl) rfl rfl ?_
    rw [e]
  · repeat (first | ((with_reducible refine zI ?_); refine zH rfl ?_) | ((with_reducible refine zZ ?_); refine zi rfl (by first | rfl | assumption) rfl ?_) | ((with_reducible refine zp ?_); refine aY (by exact Tryz.underlying9) rfl ?_) | ((with_reducible refine zP ?_); refine zS rfl rfl rfl ?_)  | refine zB rfl ?_ | refine zt rfl rfl (by first | rfl | assumption) ?_  )
    refine yD rfl rfl (fun h2 => ?_) (fun h2 => ?_)
    · have e : eJ s.data.toList = false := by
        unfold eJ
        simp at h2
        split
        · rfl
        · rename_i c r hc
          have : decide ((c :: r).length ≤ 12) = false := by rw [← hc, ← hs]; simp; omega
          rw [this]; rfl
      repeat (first | ((with_reducible refine zE ?_); refine zD rfl ?_) | ((with_reducible refine zZ ?_); refine zh rfl (by first | rfl | assumption) rfl ?_)  | refine zJ ?_ | refine zB rfl ?_ | refine yF rfl rfl (by first | rfl | assumption) ?_ | with_reducible (first | refine zC ?_ | refine zR ?_ | refine zF ?_ | refine zQ ?_) | ((with_reducible refine zA ?_ ?_); kernel_rfl) | refine yJ rfl (by first | rfl | assumption) ?_)
      refine zj (by first | exact .inr rfl | exact .inl rfl) rfl rfl ?_
      rw [e]
    · obtain ⟨c0, hx0⟩ := zT (L := s.data.toList) (k := 0) (by rw [← hs]; simp at h1; omega)
      have ix0 : ∀ w : World, (Instr.index 9 (.string s) (.int .i64 0)).run Tryz.prog w = .ok (.int .u8 (c0.toNat : Int)) w := fun w => idxS s 0 c0 hx0 w
      have e : eJ s.data.toList = (qU c0.toNat && qz s.data.toList) := by
        unfold eJ
        match hl : s.data.toList with
        | [] => rw [hl] at hx0; simp at hx0
        | c :: r =>
          rw [hl] at hx0
          simp at hx0
          subst hx0
          have : decide ((c :: r).length ≤ 12) = true := by rw [← hl, ← hs]; simp at h2 ⊢; omega
          simp only [this, Bool.true_and]
      rw [e]
      repeat (first | ((with_reducible refine zI ?_); refine zH rfl ?_) | ((with_reducible refine dF ?_); refine fR rfl rfl (by assumption) ?_)  | refine zt rfl rfl (by first | rfl | assumption) ?_  )
      with_reducible refine zp ?_
      refine zl (rZ _) (by repeat' (first | exact trivial | exact Ren.v _ | exact Ren.sl _ _ | exact Ren.ep _ | exact Ren.ptr _ _ _ _ rfl | exact Ren.bs _ _ _ _ _ rfl | exact Ren.nil _ | exact Ren.own _ _ _ _ ⟨_, rfl⟩ | refine zn ?_ | refine zz ?_ | refine yG ?_ | refine ⟨?_, ?_⟩)) (by repeat' (first | exact trivial | exact RenB.v _ | exact RenB.sl _ _ | exact RenB.ep _ | exact RenB.ptr _ _ _ _ rfl | refine yi ?_ | refine yM ?_ | refine ⟨?_, ?_⟩)) ?_
      repeat (first | ((with_reducible refine k_un ?_); refine jL rfl ?_) | ((with_reducible refine zZ ?_); refine zi rfl (by first | rfl | assumption) rfl ?_)  | refine zJ ?_ | refine zB rfl ?_ | refine zt rfl rfl (by first | rfl | assumption) ?_ | with_reducible refine zC ?_ )
      refine zX rfl (fun h3 => ?_) (fun h3 => ?_)
      · repeat (first | ((with_reducible refine zE ?_); refine zD rfl ?_)  | refine zJ ?_ | refine zB rfl ?_ | with_reducible (first | refine zC ?_ | refine zR ?_ | refine zF ?_ | refine zQ ?_) | ((with_reducible refine zA ?_ ?_); kernel_rfl))
        refine zj (by first | exact .inr rfl | exact .inl rfl) rfl rfl ?_
        simp at h3
        rw [h3]; rfl
      · simp at h3
        rw [h3, Bool.true_and]
        repeat (first | ((with_reducible refine zE ?_); refine zD rfl ?_)  | refine zJ ?_ | refine zB rfl ?_ | with_reducible (first | refine zC ?_ | refine zF ?_ | refine zU ?_ | refine zN ?_) | ((with_reducible refine zA ?_ ?_); kernel_rfl))
        refine yL (ι := Nat) (fun k => k ≤ s.size ∧ qz (s.data.toList.drop k) = qz s.data.toList) (fun k => s.size - k) (fun v k => [(0, .v (.string s)), (3, .v (.int .i64 k))]) (fun v k => []) ?_ ?_
        · exact ⟨0, ⟨by omega, rfl⟩, trivial, ⟨rfl, rfl, trivial⟩, trivial⟩
        · rintro v k ⟨hk, hf⟩
          repeat (first | ((with_reducible refine zI ?_); refine zH rfl ?_) | ((with_reducible refine zp ?_); refine aY (by exact Tryz.underlying9) rfl ?_) | ((with_reducible refine zP ?_); refine zS rfl rfl rfl ?_)  | refine zJ ?_ | refine zB rfl ?_ | with_reducible (first | refine zC ?_ | refine zF ?_) | ((with_reducible refine zA ?_ ?_); kernel_rfl))
          refine zX rfl (fun h => ?_) (fun h => ?_)
          · have hlt : k < s.size := by simp at h; omega
            obtain ⟨c, hx⟩ := zT (L := s.data.toList) (k := k) (by rw [← hs]; exact hlt)
            have ix := idxS s k c hx
            have hf' := hf
            rw [yq hx, qz] at hf
            repeat (first | ((with_reducible refine zI ?_); refine zH rfl ?_) | ((with_reducible refine dF ?_); refine fR rfl rfl (by assumption) ?_)  | refine zB rfl ?_ | with_reducible (first | refine zC ?_ | refine zF ?_ | refine zU ?_ | refine zN ?_) | ((with_reducible refine zA ?_ ?_); kernel_rfl))
            with_reducible refine zp ?_
            refine zl (rZ _) (by repeat' (first | exact trivial | exact Ren.v _ | exact Ren.sl _ _ | exact Ren.ep _ | exact Ren.ptr _ _ _ _ rfl | exact Ren.bs _ _ _ _ _ rfl | exact Ren.nil _ | exact Ren.own _ _ _ _ ⟨_, rfl⟩ | refine zn ?_ | refine zz ?_ | refine yG ?_ | refine ⟨?_, ?_⟩)) (by repeat' (first | exact trivial | exact RenB.v _ | exact RenB.sl _ _ | exact RenB.ep _ | exact RenB.ptr _ _ _ _ rfl | refine yi ?_ | refine yM ?_ | refine ⟨?_, ?_⟩)) ?_
            repeat (first | ((with_reducible refine zI ?_); refine zH rfl ?_) | ((with_reducible refine k_un ?_); refine jL rfl ?_)  | refine zB rfl ?_  )
            refine yD rfl rfl (fun h4 => ?_) (fun h4 => ?_)
            · repeat (first | ((with_reducible refine zI ?_); refine zH rfl ?_) | ((with_reducible refine dF ?_); refine fR rfl rfl (by assumption) ?_)  | refine zq rfl rfl (by first | rfl | assumption) ?_  )
              with_reducible refine zp ?_
              refine zl (digit_A _) (by repeat' (first | exact trivial | exact Ren.v _ | exact Ren.sl _ _ | exact Ren.ep _ | exact Ren.ptr _ _ _ _ rfl | exact Ren.bs _ _ _ _ _ rfl | exact Ren.nil _ | exact Ren.own _ _ _ _ ⟨_, rfl⟩ | refine zn ?_ | refine zz ?_ | refine yG ?_ | refine ⟨?_, ?_⟩)) (by repeat' (first | exact trivial | exact RenB.v _ | exact RenB.sl _ _ | exact RenB.ep _ | exact RenB.ptr _ _ _ _ rfl | refine yi ?_ | refine yM ?_ | refine ⟨?_, ?_⟩)) ?_
              repeat' (first | ((with_reducible refine zI ?_); refine zH rfl ?_) | ((with_reducible refine zE ?_); refine zD rfl ?_) | ((with_reducible refine k_un ?_); refine jL rfl ?_) | ((with_reducible refine zZ ?_); (first | refine zh rfl (by first | rfl | assumption) rfl ?_ | refine zi rfl (by first | rfl | assumption) rfl ?_)) | ((with_reducible refine dF ?_); refine fR rfl rfl (by assumption) ?_) | ((with_reducible refine zP ?_); (first | refine zY rfl rfl (by omega) ?_ | refine zS rfl rfl rfl ?_))  | refine zJ ?_ | refine zB rfl ?_ | refine zq rfl rfl (by first | rfl | assumption) ?_ | refine yH rfl rfl (by first | rfl | assumption) ?_ | with_reducible (first | refine zC ?_ | refine zR ?_ | refine zd ?_ | refine zV ?_ | refine zF ?_ | refine zN ?_ | refine zQ ?_) | ((with_reducible refine zA ?_ ?_); kernel_rfl) | refine zy rfl (by first | rfl | assumption) ?_ | refine yD rfl rfl (fun _ => ?_) (fun _ => ?_) | refine zX rfl (fun _ => ?_) (fun _ => ?_))
              all_goals first
                | (refine zj (by first | exact .inr rfl | exact .inl rfl) rfl rfl ?_; rw [← hf]; clear hf hf' ix ix0 hs e hx hx0; simp_all [dY]; done)
                | (refine ⟨k + 1, ⟨by omega, ?_⟩, by omega, ⟨rfl, rfl, trivial⟩, trivial⟩; rw [← hf]; clear hf hf' ix ix0 hs e hx hx0; simp_all [dY]; done)
            · repeat' (first | ((with_reducible refine zI ?_); refine zH rfl ?_) | ((with_reducible refine zE ?_); refine zD rfl ?_) | ((with_reducible refine zZ ?_); refine zi rfl (by first | rfl | assumption) rfl ?_) | ((with_reducible refine zP ?_); refine zY rfl rfl (by omega) ?_)  | refine zJ ?_ | refine zB rfl ?_ | refine yH rfl rfl (by first | rfl | assumption) ?_ | with_reducible (first | refine zC ?_ | refine zd ?_ | refine zN ?_) | ((with_reducible refine zA ?_ ?_); kernel_rfl) | refine zy rfl (by first | rfl | assumption) ?_ | refine yD rfl rfl (fun _ => ?_) (fun _ => ?_) | refine zX rfl (fun _ => ?_) (fun _ => ?_))
              all_goals first
                | (refine zj (by first | exact .inr rfl | exact .inl rfl) rfl rfl ?_; rw [← hf]; clear hf hf' ix ix0 hs e hx hx0; simp_all [dY]; done)
                | (refine ⟨k + 1, ⟨by omega, ?_⟩, by omega, ⟨rfl, rfl, trivial⟩, trivial⟩; rw [← hf]; clear hf hf' ix ix0 hs e hx hx0; simp_all [dY]; done)
          · obtain rfl : k = s.size := by simp at h; omega
            have hf1 : qz s.data.toList = true := by
              rw [← hf, List.drop_of_length_le (by rw [← hs]; exact Nat.le_refl _)]; rfl
            repeat (first | ((with_reducible refine zE ?_); refine zD rfl ?_)  | refine zJ ?_ | refine zB rfl ?_ | with_reducible (first | refine zC ?_ | refine ze ?_ | refine zF ?_ | refine zr ?_ | refine zQ ?_) | ((with_reducible refine za ?_ ?_); rfl) | ((with_reducible refine zA ?_ ?_); kernel_rfl))
            refine zj (by first | exact .inr rfl | exact .inl rfl) rfl rfl ?_
            rw [hf1]
end Go.Proofs.YtnafokinifbfhaaGreatDoor
