/- lexeme.Name, its reference, and what they call, by the abstract machine; conditions: the table of classes stands / From a row's condition on the listed tables to what the walks ask of them (for the abstract machine); conditions: none / How a law's row follows from its walk: the arguments read behind the call as before it, where the call has only laid new memory; nothing of the program stands here / From a contract of the abstract machine to a law's row: the memory that stands, slices that came in, and the call's outcome; nothing of the program stands here / Closed facts that the cards of this seat share; conditions: none / Networks, by plain functions: what network.Check says; nothing of the program stands here. -/
import Derived.Test.YtnafokinifbfhaaGreatDoorAbsS
import Derived.Test.YtnafokinifbfhaaGreatDoorTab
import Derived.Test.YtnafokinifbfhaaGreatDoorZg
import Derived.Test.YtnafokinifbfhaaGreatDoorRows
import Derived.ProofKit
import Derived.LaidMore
import Derived.OpenShut
import Derived.Stop.Joined
import Derived.Stop.LaidErr
import Derived.Deep.Strs
import Derived.Lib.LaidTab
import Derived.MakeChecks
import Derived.Test.YtnafokinifbfhaaGreatDoorLib
import Derived.ShutString
import Derived.Test.YtnafokinifbfhaaGreatDoorAbsP
import Derived.Test.YtnafokinifbfhaaGreatDoorCards
import Derived.Test.YtnafokinifbfhaaGreatDoorTie
import Derived.SevenTiedAt
set_option linter.unusedVariables false
set_option linter.unusedSimpArgs false
namespace Go.Proofs.YtnafokinifbfhaaGreatDoor
open Go Go.RowKit
set_option maxRecDepth 10000
def clsL : List Value := [.int .u8 65, .int .u8 90, .bool true, .int .u8 97, .int .u8 122, .bool true, .int .u8 48, .int .u8 57, .bool false, .int .u8 95, .int .u8 95, .bool false]
def GCls (G : Nat → Option (List Value)) : Prop := G 1 = some clsL
theorem idxS (s : ByteArray) (k : Nat) (c : UInt8) (hc : s.data.toList[k]? = some c) (w : World) : (Instr.index 9 (.string s) (.int .i64 k)).run Tryz.prog w = .ok (.int .u8 (c.toNat : Int)) w := by
  have hk := zM hc
  have hk2 : k < s.size := by simpa using hk
  rw [run_index_string w 9 s .i64 _ Tryz.underlying9, dif_pos ⟨by omega, by omega⟩]
  have e : ((k : Int)).toNat = k := by omega
  simp only [e]
  have : s[k] = c := by
    rw [List.getElem?_eq_getElem hk] at hc
    injection hc with hc
  rw [this]
theorem sizeS (s : ByteArray) : s.size = s.data.toList.length := by simp
theorem clsAt {k : Nat} (hk : k < 4) : ∃ lo hi fs, lK[k]? = some (lo, hi, fs) ∧ ∀ w : World, (Instr.index 222 (.agg ⟨clsL⟩) (.int .i64 k)).run Tryz.prog w = .ok (.agg ⟨[.int .u8 lo, .int .u8 hi, .bool fs]⟩) w := by
  obtain rfl | rfl | rfl | rfl : k = 0 ∨ k = 1 ∨ k = 2 ∨ k = 3 := by omega
  · exact ⟨65, 90, true, rfl, fun w => by kernel_rfl⟩
  · exact ⟨97, 122, true, rfl, fun w => by kernel_rfl⟩
  · exact ⟨48, 57, false, rfl, fun w => by kernel_rfl⟩
  · exact ⟨95, 95, false, rfl, fun w => by kernel_rfl⟩
variable {G : Nat → Option (List Value)}
theorem wA (b : Int) : zJ Tryz.prog G 141 [.v (.int .u8 b)] [] (.v (.bool (qb b))) [] := by
  refine zE tbOk (zA Tryz.func141 (by kernel_rfl) rfl) Tryz.func141 rfl _ Tryz.ntmps141 (Nat.le_of_ble_eq_true rfl) fun X hX => ?_
  subst hX
  repeat' (first | ((with_reducible refine yD ?_); refine yE rfl ?_) | ((with_reducible refine zi ?_); refine zh rfl ?_) | ((with_reducible refine yf ?_); (first | refine yj rfl (by first | rfl | assumption) rfl ?_ | refine yW rfl (by first | rfl | assumption) rfl ?_)) | ((with_reducible refine yZ ?_); refine yI rfl rfl rfl ?_)  | refine yh ?_ | refine zu rfl ?_ | refine jA rfl rfl (by first | rfl | assumption) ?_ | refine ym rfl rfl (by first | rfl | assumption) ?_ | refine yq rfl rfl (by first | rfl | assumption) ?_ | refine qd rfl rfl (by first | rfl | assumption) ?_ | refine kI rfl rfl rfl ?_ | with_reducible (first | refine zw ?_ | refine zp ?_ | refine yF ?_) | ((with_reducible refine zl ?_ ?_); kernel_rfl) | refine zX rfl rfl (fun _ => ?_) (fun _ => ?_) | refine zF rfl (fun _ => ?_) (fun _ => ?_))
  all_goals refine zL (by first | exact .inr rfl | exact .inl rfl) rfl rfl ?_
  all_goals simp_all [qb]
  all_goals omega
theorem digit_A (b : Int) : zJ Tryz.prog G 142 [.v (.int .u8 b)] [] (.v (.bool (uJ b))) [] := by
  refine zE tbOk (zA Tryz.func142 (by kernel_rfl) rfl) Tryz.func142 rfl _ Tryz.ntmps142 (Nat.le_of_ble_eq_true rfl) fun X hX => ?_
  subst hX
  repeat' (first | ((with_reducible refine yD ?_); refine yE rfl ?_) | ((with_reducible refine zi ?_); refine zh rfl ?_) | ((with_reducible refine yf ?_); (first | refine yj rfl (by first | rfl | assumption) rfl ?_ | refine yW rfl (by first | rfl | assumption) rfl ?_)) | ((with_reducible refine yZ ?_); refine yI rfl rfl rfl ?_)  | refine yh ?_ | refine zu rfl ?_ | refine jA rfl rfl (by first | rfl | assumption) ?_ | refine ym rfl rfl (by first | rfl | assumption) ?_ | with_reducible (first | refine zw ?_ | refine zp ?_ | refine yF ?_) | ((with_reducible refine zl ?_ ?_); kernel_rfl) | refine zX rfl rfl (fun _ => ?_) (fun _ => ?_) | refine zF rfl (fun _ => ?_) (fun _ => ?_))
  all_goals refine zL (by first | exact .inr rfl | exact .inl rfl) rfl rfl ?_
  all_goals simp_all [uJ]
  all_goals omega
set_option maxHeartbeats 1000000 in
theorem fits_A (b : Int) (f : Bool) (hG : GCls G) : zJ Tryz.prog G 152 [.v (.int .u8 b), .v (.bool f)] [] (.v (.bool (mQ b f))) [] := by
  refine zE tbOk (zA Tryz.func152 (by kernel_rfl) rfl) Tryz.func152 rfl _ Tryz.ntmps152 (Nat.le_of_ble_eq_true rfl) fun X hX => ?_
  subst hX
  have hg0 : X.G 1 = some clsL := hG
  refine zg0 ?_
  with_reducible refine ze ?_
  refine wK tbOk rfl rfl hg0 rfl ?_
  refine zg0 ?_
  refine zQ (ι := Nat) (fun k => k ≤ 4 ∧ gU (lK.drop k) b f = mQ b f) (fun k => 4 - k) (fun v k => [(0, .v (.int .u8 b)), (1, .v (.bool f)), (7, .v (.agg ⟨clsL⟩)), (8, .v (.int .i64 k))]) (fun v k => []) ?_ ?_
  · exact ⟨0, ⟨by omega, rfl⟩, trivial, ⟨rfl, rfl, rfl, rfl, trivial⟩, trivial⟩
  · rintro v k ⟨hk, hf⟩
    refine zg1 ?_
    refine zF rfl (fun h => ?_) (fun h => ?_)
    · have hlt : k < 4 := by simp at h; omega
      obtain ⟨lo, hi, fs, ht, ix⟩ := clsAt hlt
      have e0 : mQ b f = if lo ≤ b ∧ b ≤ hi then (fs || !f) else gU (lK.drop (k + 1)) b f := by
        rw [← hf, zv ht, gU]
      repeat' (first | ((with_reducible refine yD ?_); refine yE rfl ?_) | ((with_reducible refine zi ?_); refine zh rfl ?_) | ((with_reducible refine zS ?_); refine zN tbOk rfl rfl rfl rfl ?_) | ((with_reducible refine ze ?_); refine zY tbOk rfl rfl rfl rfl rfl ?_) | ((with_reducible refine zt ?_); refine jn tbOk rfl rfl rfl rfl rfl rfl rfl (Nat.le_of_ble_eq_true rfl) rfl ?_) | ((with_reducible refine nF ?_); refine nJ tbOk rfl rfl ?_) | ((with_reducible refine k_un ?_); refine dM rfl ?_) | ((with_reducible refine yf ?_); (first | refine yj rfl (by first | rfl | assumption) rfl ?_ | refine yW rfl (by first | rfl | assumption) rfl ?_)) | ((with_reducible refine kS ?_); refine xU rfl rfl (by assumption) ?_) | ((with_reducible refine yZ ?_); (first | refine jR rfl rfl (by omega) ?_ | refine yI rfl rfl rfl ?_))  | refine yh ?_ | refine zu rfl ?_ | refine jA rfl rfl (by first | rfl | assumption) ?_ | refine ym rfl rfl (by first | rfl | assumption) ?_ | refine yq rfl rfl (by first | rfl | assumption) ?_ | refine qd rfl rfl (by first | rfl | assumption) ?_ | with_reducible (first | refine zw ?_ | refine yd ?_ | refine qZ ?_ | refine jI ?_ | refine zp ?_ | refine yi ?_ | refine yT ?_ | refine yF ?_) | ((with_reducible refine zl ?_ ?_); kernel_rfl) | refine qj rfl (by first | rfl | assumption) ?_ | refine zX rfl rfl (fun _ => ?_) (fun _ => ?_) | refine zF rfl (fun _ => ?_) (fun _ => ?_))
      all_goals first
        | (refine zL (by first | exact .inr rfl | exact .inl rfl) rfl rfl ?_; rw [e0, if_pos (by simp_all)]; simp_all; done)
        | (refine ⟨k + 1, ⟨by omega, ?_⟩, by omega, ⟨rfl, rfl, rfl, rfl, trivial⟩, trivial⟩; rw [e0, if_neg (by simp_all <;> omega)])
    · obtain rfl : k = 4 := by simp at h; omega
      refine zg2 ?_
      refine zL (by first | exact .inr rfl | exact .inl rfl) rfl rfl ?_
      rw [← hf]; rfl
set_option maxHeartbeats 1000000 in
theorem name_A (s : ByteArray) (hG : GCls G) (hm : s.size ≤ maxLen) : zJ Tryz.prog G 106 [.v (.string s)] [] (.v (.bool (qv s.data.toList))) [] := by
  have hm2 : s.size ≤ 9223372036854775807 := by unfold maxLen at hm; omega
  have hs := sizeS s
  refine zE tbOk (zA Tryz.func106 (by kernel_rfl) rfl) Tryz.func106 rfl _ Tryz.ntmps106 (Nat.le_of_ble_eq_true rfl) fun X hX => ?_
  subst hX
  refine zg3 ?_
  refine zQ (ι := Nat) (fun k => k ≤ s.size ∧ qz (s.data.toList.drop k) (decide (k = 0)) = qz s.data.toList true) (fun k => s.size - k) (fun v k => [(0, .v (.string s)), (5, .v (.int .i64 s.size)), (6, .v (.int .i64 k))]) (fun v k => []) ?_ ?_
  · exact ⟨0, ⟨by omega, rfl⟩, trivial, ⟨rfl, rfl, rfl, trivial⟩, trivial⟩
  · rintro v k ⟨hk, hf⟩
    refine zg1 ?_
    refine zF rfl (fun h => ?_) (fun h => ?_)
    · have hlt : k < s.size := by simp at h; omega
      obtain ⟨c, hx⟩ := zB (L := s.data.toList) (k := k) (by rw [← hs]; exact hlt)
      have ix := idxS s k c hx
      have hf0 : decide (k = 0) = ((k : Int) == 0) := by
        by_cases h0 : k = 0
        · simp [h0]
        · have : ((k : Int) == 0) = false := by simp; omega
          rw [this]; simp [h0]
      rw [zv hx, qz, hf0] at hf
      refine zg4 ?_
      with_reducible refine yV ?_
      refine zC (fits_A _ _ hG) ?_
      refine zg5 ?_
      refine zF rfl (fun h1 => ?_) (fun h1 => ?_)
      · refine zg6 ?_
        refine zL (by first | exact .inr rfl | exact .inl rfl) rfl rfl ?_
        unfold qv
        rw [← hf]
        simp at h1
        rw [h1]; rfl
      · refine zg2 ?_
        refine ⟨k + 1, ⟨by omega, ?_⟩, by omega, ⟨rfl, rfl, rfl, trivial⟩, trivial⟩
        simp at h1
        rw [← hf, h1]; simp
    · obtain rfl : k = s.size := by simp at h; omega
      have hf1 : qz s.data.toList true = true := by
        rw [← hf, List.drop_of_length_le (by rw [← hs]; exact Nat.le_refl _)]; rfl
      repeat' (first | ((with_reducible refine yD ?_); refine yE rfl ?_) | ((with_reducible refine zi ?_); refine zh rfl ?_) | ((with_reducible refine yf ?_); (first | refine yj rfl (by first | rfl | assumption) rfl ?_ | refine yW rfl (by first | rfl | assumption) rfl ?_)) | ((with_reducible refine yV ?_); refine lD (by exact Tryz.underlying9) rfl ?_) | ((with_reducible refine yZ ?_); refine yI rfl rfl rfl ?_)  | refine yh ?_ | refine zu rfl ?_ | refine jA rfl rfl (by first | rfl | assumption) ?_ | refine ym rfl rfl (by first | rfl | assumption) ?_ | with_reducible (first | refine zw ?_ | refine jy ?_ | refine zp ?_ | refine aT ?_ | refine yF ?_) | ((with_reducible refine jl ?_ ?_); rfl) | ((with_reducible refine zl ?_ ?_); kernel_rfl) | refine zX rfl rfl (fun _ => ?_) (fun _ => ?_) | refine zF rfl (fun _ => ?_) (fun _ => ?_))
      all_goals refine zL (by first | exact .inr rfl | exact .inl rfl) rfl rfl ?_
      all_goals unfold qv
      all_goals rw [hf1, ← hs]
      all_goals clear hs hf hf1
      all_goals refine congrArg (fun b => AV.v (.bool b)) ?_
      all_goals rw [Bool.eq_iff_iff]
      all_goals simp at *
      all_goals omega
set_option maxHeartbeats 1000000 in
theorem rname_A (s : ByteArray) (hm : s.size ≤ maxLen) : zJ Tryz.prog G 99 [.v (.string s)] [] (.v (.bool (qv s.data.toList))) [] := by
  have hm2 : s.size ≤ 9223372036854775807 := by unfold maxLen at hm; omega
  have hs := sizeS s
  rw [← rname_eq]
  refine zE tbOk (zA Tryz.func99 (by kernel_rfl) rfl) Tryz.func99 rfl _ Tryz.ntmps99 (Nat.le_of_ble_eq_true rfl) fun X hX => ?_
  subst hX
  refine zg3 ?_
  refine zX rfl rfl (fun h1 => ?_) (fun h1 => ?_)
  · have e : gY s.data.toList = false := by
      have : s.data.toList = [] := List.eq_nil_of_length_eq_zero (by rw [← hs]; simp at h1; omega)
      rw [this]; rfl
    refine zg7 ?_
    refine zL (by first | exact .inr rfl | exact .inl rfl) rfl rfl ?_
    rw [e]
  · refine zg8 ?_
    refine zX rfl rfl (fun h2 => ?_) (fun h2 => ?_)
    · have e : gY s.data.toList = false := by
        unfold gY
        simp at h2
        split
        · rfl
        · rename_i c r hc
          have : decide ((c :: r).length ≤ 12) = false := by rw [← hc, ← hs]; simp; omega
          rw [this]; rfl
      refine zg6 ?_
      refine zL (by first | exact .inr rfl | exact .inl rfl) rfl rfl ?_
      rw [e]
    · obtain ⟨c0, hx0⟩ := zB (L := s.data.toList) (k := 0) (by rw [← hs]; simp at h1; omega)
      have ix0 : ∀ w : World, (Instr.index 9 (.string s) (.int .i64 0)).run Tryz.prog w = .ok (.int .u8 (c0.toNat : Int)) w := fun w => idxS s 0 c0 hx0 w
      have e : gY s.data.toList = (qb c0.toNat && aX s.data.toList) := by
        unfold gY
        match hl : s.data.toList with
        | [] => rw [hl] at hx0; simp at hx0
        | c :: r =>
          rw [hl] at hx0
          simp at hx0
          subst hx0
          have : decide ((c :: r).length ≤ 12) = true := by rw [← hl, ← hs]; simp at h2 ⊢; omega
          simp only [this, Bool.true_and]
      rw [e]
      refine zg8 ?_
      with_reducible refine yV ?_
      refine zC (wA _) ?_
      refine zg9 ?_
      refine zF rfl (fun h3 => ?_) (fun h3 => ?_)
      · refine zg6 ?_
        refine zL (by first | exact .inr rfl | exact .inl rfl) rfl rfl ?_
        simp at h3
        rw [h3]; rfl
      · simp at h3
        rw [h3, Bool.true_and]
        refine zg0 ?_
        refine zQ (ι := Nat) (fun k => k ≤ s.size ∧ aX (s.data.toList.drop k) = aX s.data.toList) (fun k => s.size - k) (fun v k => [(0, .v (.string s)), (3, .v (.int .i64 k))]) (fun v k => []) ?_ ?_
        · exact ⟨0, ⟨by omega, rfl⟩, trivial, ⟨rfl, rfl, trivial⟩, trivial⟩
        · rintro v k ⟨hk, hf⟩
          refine zg3 ?_
          refine zF rfl (fun h => ?_) (fun h => ?_)
          · have hlt : k < s.size := by simp at h; omega
            obtain ⟨c, hx⟩ := zB (L := s.data.toList) (k := k) (by rw [← hs]; exact hlt)
            have ix := idxS s k c hx
            have hf' := hf
            rw [zv hx, aX] at hf
            refine zg10 ?_
            with_reducible refine yV ?_
            refine zC (wA _) ?_
            refine zg11 ?_
            refine zX rfl rfl (fun h4 => ?_) (fun h4 => ?_)
            · refine zg8 ?_
              with_reducible refine yV ?_
              refine zC (digit_A _) ?_
              repeat' (first | ((with_reducible refine yD ?_); refine yE rfl ?_) | ((with_reducible refine zi ?_); refine zh rfl ?_) | ((with_reducible refine k_un ?_); refine dM rfl ?_) | ((with_reducible refine yf ?_); (first | refine yj rfl (by first | rfl | assumption) rfl ?_ | refine yW rfl (by first | rfl | assumption) rfl ?_)) | ((with_reducible refine kS ?_); refine jC rfl rfl (by assumption) ?_) | ((with_reducible refine yZ ?_); (first | refine jR rfl rfl (by omega) ?_ | refine yI rfl rfl rfl ?_))  | refine yh ?_ | refine zu rfl ?_ | refine jA rfl rfl (by first | rfl | assumption) ?_ | refine ym rfl rfl (by first | rfl | assumption) ?_ | with_reducible (first | refine zw ?_ | refine yd ?_ | refine qZ ?_ | refine jI ?_ | refine zp ?_ | refine yT ?_ | refine yF ?_) | ((with_reducible refine zl ?_ ?_); kernel_rfl) | refine qj rfl (by first | rfl | assumption) ?_ | refine zX rfl rfl (fun _ => ?_) (fun _ => ?_) | refine zF rfl (fun _ => ?_) (fun _ => ?_))
              all_goals first
                | (refine zL (by first | exact .inr rfl | exact .inl rfl) rfl rfl ?_; rw [← hf]; clear hf hf' ix ix0 hs e hx hx0; simp_all [gR]; done)
                | (refine ⟨k + 1, ⟨by omega, ?_⟩, by omega, ⟨rfl, rfl, trivial⟩, trivial⟩; rw [← hf]; clear hf hf' ix ix0 hs e hx hx0; simp_all [gR]; done)
            · repeat' (first | ((with_reducible refine yD ?_); refine yE rfl ?_) | ((with_reducible refine zi ?_); refine zh rfl ?_) | ((with_reducible refine yf ?_); refine yW rfl (by first | rfl | assumption) rfl ?_) | ((with_reducible refine yZ ?_); refine jR rfl rfl (by omega) ?_)  | refine yh ?_ | refine zu rfl ?_ | refine ym rfl rfl (by first | rfl | assumption) ?_ | with_reducible (first | refine zw ?_ | refine qZ ?_ | refine yT ?_) | ((with_reducible refine zl ?_ ?_); kernel_rfl) | refine qj rfl (by first | rfl | assumption) ?_ | refine zX rfl rfl (fun _ => ?_) (fun _ => ?_) | refine zF rfl (fun _ => ?_) (fun _ => ?_))
              all_goals first
                | (refine zL (by first | exact .inr rfl | exact .inl rfl) rfl rfl ?_; rw [← hf]; clear hf hf' ix ix0 hs e hx hx0; simp_all [gR]; done)
                | (refine ⟨k + 1, ⟨by omega, ?_⟩, by omega, ⟨rfl, rfl, trivial⟩, trivial⟩; rw [← hf]; clear hf hf' ix ix0 hs e hx hx0; simp_all [gR]; done)
          · obtain rfl : k = s.size := by simp at h; omega
            have hf1 : aX s.data.toList = true := by
              rw [← hf, List.drop_of_length_le (by rw [← hs]; exact Nat.le_refl _)]; rfl
            refine zg2 ?_
            refine zL (by first | exact .inr rfl | exact .inl rfl) rfl rfl ?_
            rw [hf1]
end Go.Proofs.YtnafokinifbfhaaGreatDoor
namespace Go.Proofs.YtnafokinifbfhaaGreatDoor
open Go Go.ChangeShapes Go.WideShapes Go.ChangeAt Go.RowKit Go.Deep
def Cls (w : World) : Prop := ∃ t fr, w.heap[1]? = some (.cells ⟨clsL⟩ t fr)
theorem cellsArr0 : Tryz.prog.cellsOf 222 = 12 := by kernel_rfl
theorem sZ : Tryz.prog.cellsOf 221 = 3 := by kernel_rfl
theorem cellsU80 : Tryz.prog.cellsOf 5 = 1 := by kernel_rfl
theorem cellsBoolL : Tryz.prog.cellsOf 4 = 1 := by kernel_rfl
theorem gCls : Tryz.prog.globalNamed "permitoffice/lexeme.classes" = some 1 := by kernel_rfl
theorem tCls : (Tryz.prog.globals[1]?).map (·.type) = some 222 := by kernel_rfl
set_option maxRecDepth 100000 in
theorem cls_row {H : Type} {enc : TypeId × Value → H} {W : World} {base : Nat} {sp : Nat → Bool} {held : Bool} {m : Nat} {cs : List Value} {x : DataW H × List MemPlace} (h : DataW.trod enc Tryz.prog W base sp held m 221 cs = some x) :
    ∃ a b f, cs = [.int .u8 a, .int .u8 b, .bool f] ∧ x.1 = .agg [.lit (.int .u8 a), .lit (.int .u8 b), .lit (.bool f)] := by
  obtain ⟨y0, y1, y2, n', rfl, hl, h0, h1, h2⟩ := trod_struct3 Tryz.underlying221 h
  rw [sZ] at hl
  simp only [cellsU80, cellsBoolL] at h0 h1 h2
  match cs, hl with
  | [v0, v1, v2], _ =>
    simp only [List.drop_zero, List.drop_succ_cons, List.take_succ_cons, List.take_zero] at h0 h1 h2
    obtain ⟨k0, e0, z0, -⟩ := DataW.trod_int Tryz.underlying5 h0
    obtain ⟨k1, e1, z1, -⟩ := DataW.trod_int Tryz.underlying5 h1
    obtain ⟨k2, e2, z2⟩ := DataW.trod_bool Tryz.underlying4 h2
    simp only [List.cons.injEq, and_true] at e0 e1 e2
    subst e0; subst e1; subst e2
    exact ⟨k0, k1, k2, rfl, by rw [z0, z1, z2]⟩
set_option maxRecDepth 100000 in
theorem vI {rest : List (String × DataW Unit)} {W : World} (h : laidMet Tryz.prog (("permitoffice/lexeme.classes", Rows.laid_permitoffice_lexeme_classes) :: rest) W) : Cls W := by
  obtain ⟨ps, ⟨g', t', cs, fuel, p, q, hg', ht', hvar, hd, _, _⟩, _⟩ := h
  obtain rfl := Option.some.inj (gCls.symm.trans hg')
  obtain rfl := Option.some.inj (tCls.symm.trans ht')
  obtain ⟨xs, m1, rfl, hx1, hlen, hn, hel⟩ := DataW.trod_array Tryz.underlying222 hd
  rw [cellsArr0] at hlen
  simp only [sZ] at hel
  obtain ⟨l⟩ := cs
  simp only [Prod.mk.injEq, Rows.laid_permitoffice_lexeme_classes, DataW.agg.injEq] at hx1
  have hcs : l = clsL := by
    match xs, hn, l, hlen with
    | [x0, x1, x2, x3], _, [v0, v1, v2, v3, v4, v5, v6, v7, v8, v9, v10, v11], _ =>
      obtain ⟨a0, b0, f0, c0, d0⟩ := cls_row (hel 0 (by omega))
      obtain ⟨a1, b1, f1, c1, d1⟩ := cls_row (hel 1 (by omega))
      obtain ⟨a2, b2, f2, c2, d2⟩ := cls_row (hel 2 (by omega))
      obtain ⟨a3, b3, f3, c3, d3⟩ := cls_row (hel 3 (by omega))
      simp at c0 c1 c2 c3
      have hx := hx1.1
      simp only [List.map_cons, List.map_nil, d0, d1, d2, d3] at hx
      simp at hx
      simp_all [clsL]
  unfold World.var? at hvar
  rw [gCls] at hvar
  simp only [Option.bind_some] at hvar
  split at hvar
  · rename_i c t fr hh
    injection hvar with hvar
    refine ⟨t, fr, ?_⟩
    rw [hh, hvar, hcs]
  · cases hvar
end Go.Proofs.YtnafokinifbfhaaGreatDoor
namespace Go.Proofs.YtnafokinifbfhaaGreatDoor
open Go Go.ChangeShapes Go.WideShapes Go.ChangeAt Go.RowKit
section
variable {H : Type} {enc : TypeId × Value → H} {P : Program}
theorem rD {f : Func} {s : ChangeSpec} {apart fresh handsOn again : Bool} {W W' : World} {args : Array Value} {v : Value} {ds gs : List (DataW H)} {before pa pv : List MemPlace}
    (hW : DataW.Whole enc P f.params.toList s.vars apart W args.toList ds gs before)
    (hres : ∀ (b : Nat) (sp : Nat → Bool) (hd : Bool), DataW.TrodAll enc P W' b sp hd f.resultTypes.toList (v.resultList f.resultTypes.size) (s.fn H (ds ++ gs)).results [])
    (hargs : ∀ sp : Nat → Bool, (∀ p ∈ before, sp p.block = true) → DataW.TrodAll enc P W' 0 sp true f.params.toList args.toList (s.fn H (ds ++ gs)).args pa)
    (hvars : ∀ sp : Nat → Bool, (∀ p ∈ before, sp p.block = true) → DataW.TrodVars enc P W' sp s.vars (s.fn H (ds ++ gs)).vars pv)
    (hps : before = pa ++ pv) (hb : Below W.heap.size W W')
    (hok : ∀ (j : Nat) (t : TypeId) (r : Value), f.resultTypes[j]? = some t → (v.resultList f.resultTypes.size)[j]? = some r → Value.okWide P W' .any 0 t r) :
    s.post enc P f apart fresh handsOn again W args v W' := by
  have hlt : ∀ p ∈ before, p.block < W.heap.size := fun p hp => hW.lt p hp
  have hold : ∀ p ∈ before, (fun b => decide (b < W.heap.size)) p.block = true := fun p hp => by simpa using hlt p hp
  refine ⟨ds, gs, before, [], pa, pv, hW, hres _ _ _, hargs _ hold, hvars _ hold, World.keptBut_mono (fun p hp => ⟨hp, ?_⟩) (hb.frame (· ∈ before)), fun _ => ?_⟩
  · rw [hps, List.mem_append] at hp
    exact Or.inr hp
  · obtain ⟨_, _, _, _, _, hz, hn⟩ := hW
    refine ⟨hok, _, _, ([] ++ pa) ++ pv, ⟨[] ++ pa, pv, trodAll_append (hargs _ (fun _ _ => rfl)) (hres _ _ _), hvars _ (fun _ _ => rfl), rfl, ?_, ?_⟩, ?_⟩
    · intro b off hp
      have hin : MemPlace.cell b off ∈ before := by rw [hps]; simpa using hp
      rw [hb.frozen (hlt _ hin)]
      exact hz b off hin
    · intro ha
      have := hn ha
      rw [hps] at this
      simpa using this
    · intro p hp _
      rw [hps]
      simpa using hp
theorem gH (hl : laidOutB P = true) {W W' : World} (hb : Below W.heap.size W W') {sp : Nat → Bool} : ∀ {ts : List TypeId} {vs : List Value} {ds : List (DataW H)} {ps : List MemPlace},
    (∀ t ∈ ts, P.readableRec t = true ∧ t < P.types.size) → DataW.TrodAll enc P W 0 (fun _ => true) true ts vs ds ps → (∀ x ∈ ps, x.block < W.heap.size) → (∀ x ∈ ps, sp x.block = true) → DataW.TrodAll enc P W' 0 sp true ts vs ds ps
  | [], vs, ds, ps, _, h, _, _ => by
    obtain ⟨rfl, rfl, rfl⟩ := trodAll_nil h
    exact trodAll_mk0
  | t :: ts, vs, ds, ps, hr, h, hlt, hsp => by
    obtain ⟨v, vs', d, ds', p, q, rfl, rfl, rfl, h0, r0⟩ := trodAll_cons h
    have ht := hr t (by simp)
    exact trodAll_cons_mk (WideElems.Trod_stays hl ht.1 ht.2 h0 (fun x hx => hb.same (hlt x (by simp [hx]))) (fun x hx => hsp x (by simp [hx])))
      (gH hl hb (fun u hu => hr u (by simp [hu])) r0 (fun x hx => hlt x (by simp [hx])) (fun x hx => hsp x (by simp [hx])))
/-- A law's end. -/
theorem law_done {f : Func} {s : ChangeSpec} {apart fresh handsOn again : Bool} {W W' : World} {args : Array Value} {ds : List (DataW H)} {p : List MemPlace} {tb : TypeId} (hl : laidOutB P = true)
    (hW : DataW.Whole enc P f.params.toList s.vars apart W args.toList ds [] p) (hA : DataW.TrodAll enc P W 0 (fun _ => true) true f.params.toList args.toList ds p)
    (hread : ∀ t ∈ f.params.toList, P.readableRec t = true ∧ t < P.types.size) (hv : s.vars = []) (hr : f.resultTypes = #[tb]) (htb : P.underlying tb = some .bool)
    (hs : s.fn H (ds ++ []) = { results := [.lit (.bool true)], args := ds }) (hb : Below W.heap.size W W') : s.post enc P f apart fresh handsOn again W args (.bool true) W' := by
  refine rD (pa := p) (pv := []) hW ?_ ?_ ?_ (by simp) hb ?_
  · intro b sp hd
    rw [hs, hr]
    exact trodAll_mk1 (shut_bool htb true)
  · intro sp hsp
    rw [hs]
    exact gH hl hb hread hA (fun x hx => hW.lt x hx) hsp
  · intro sp hsp
    rw [hs, hv]
    rfl
  · exact ok_one hr rfl (okWide_bool_mk htb true)
/-- A slice of integers that came in. -/
theorem open_il {t e : TypeId} {W : World} {v : Value} {d : DataW H} {p : List MemPlace} {base : Nat} (ht : P.underlying t = some (.slice e)) (he : P.underlying e = some (.int .i64)) (hc : P.cellsOf e = 1)
    (hv : Value.okWide P W .any base t v) (h : DataW.Trod enc P W 0 (fun _ => true) true t v d p) : ∃ A c l, v = .slice A l.length c ∧ (A = none → c = 0) ∧ Rd W (· < W.heap.size) A 1 (fun n => [.int .i64 n]) l ∧
      l.length ≤ maxLen ∧ ∀ n ∈ l, -9223372036854775808 ≤ n ∧ n ≤ 9223372036854775807 := by
  obtain ⟨a0, len, cap, rfl⟩ := okWide_slice ht hv
  obtain ⟨fuel, hf⟩ := h
  rcases open_ints ht he hc hf with ⟨hcs, hx⟩ | ⟨a, len', cap', zs, hcs, _, hl, hm, hz, hx, hcell, hwz⟩
  · simp [Value.cells] at hcs
    obtain ⟨rfl, rfl, rfl⟩ := hcs
    exact ⟨none, 0, [], rfl, fun _ => rfl, Rd.nil _ _ _ _ _, by simp, by simp⟩
  · simp [Value.cells] at hcs
    obtain ⟨rfl, rfl, rfl⟩ := hcs
    simp only [if_true] at hz
    refine ⟨some a, cap, zs.take len, by rw [List.length_take, Nat.min_eq_left (by omega)], (fun e => by cases e), ?_, (by rw [List.length_take]; omega), fun n hn => ?_⟩
    · intro hl0
      have h0 := hcell 0 (by rw [List.length_take] at hl0; omega)
      obtain ⟨b, o, rfl, hc'⟩ := ints_at hcell (by rw [List.length_take] at hl0; omega)
      have hlt : b < W.heap.size := by
        have h1 := hc' 0 (by rw [List.length_take] at hl0; omega)
        exact World.block_lt_of_cell? W ⟨b, o + 0, none⟩ h1
      refine ⟨b, o, rfl, hlt, fun k j x u hx hu => ?_⟩
      have hk := zM hx
      rw [List.length_take] at hk
      obtain rfl : j = 0 := by
        cases j with
        | zero => rfl
        | succ j => simp at hu
      simp at hu
      subst hu
      have h1 := hc' k (by omega)
      rw [Nat.mul_one, Nat.add_zero]
      rw [h1]
      rw [List.getElem?_take_of_lt (by omega)] at hx
      rw [List.getD_eq_getElem?_getD, hx]
      rfl
    · exact bounds_i64 (hwz n (List.mem_of_mem_take hn))
end
end Go.Proofs.YtnafokinifbfhaaGreatDoor
namespace Go.Proofs.YtnafokinifbfhaaGreatDoor
open Go Go.ChangeShapes Go.WideShapes Go.ChangeAt Go.RowKit
def memM (W : World) : Nat → Option (Array Value) := fun g => match W.heap[g]? with
  | some (.cells arr _ _) => some arr
  | _ => none
theorem memM_of {W : World} {g : Nat} {arr : Array Value} {t : TypeId} {fr : Nat × Nat} (h : W.heap[g]? = some (.cells arr t fr)) : memM W g = some arr := by
  unfold memM; rw [h]
theorem memM_inv {W : World} {g : Nat} {arr : Array Value} (h : memM W g = some arr) : ∃ t fr, W.heap[g]? = some (.cells arr t fr) := by
  unfold memM at h
  split at h
  · rename_i a t fr e
    injection h with h; subst h
    exact ⟨t, fr, e⟩
  · cases h
theorem memM_cell {W : World} {b o : Nat} {u : Value} (h : W.cell? ⟨b, o, none⟩ = some u) : ∃ arr, memM W b = some arr ∧ arr[o]? = some u := by
  unfold World.cell? at h
  unfold memM
  split at h
  · rename_i c t fr e
    simp only at e
    rw [e]
    exact ⟨c, rfl, by simpa using h⟩
  · cases h
theorem acalls_row {P : Program} {G : Nat → Option (List Value)} {f : FuncId} {args : List AV} {u : Value} {vs : List Value} {W : World} (h : zJ P G f args [] (.v u) []) (hG : ∀ g us, G g = some us → ∃ t fr, W.heap[g]? = some (.cells ⟨us⟩ t fr)) (hl : vs.length = args.length)
    (ha : ∀ (j : Nat) (x : AV) (v : Value), args[j]? = some x → vs[j]? = some v → Rep (memM W) (refρ []) x v) : Calls P f ⟨vs⟩ W (fun e W' => e = .returned u ∧ Below W.heap.size W W') := by
  refine (h.2 (memM W) W [] vs (fun g arr e => memM_inv e) (fun g us e => ?_) (by simp) ⟨rfl, by simp⟩ hl ha).mono fun e W' hp => ?_
  · obtain ⟨t, fr, hh⟩ := hG g us e
    exact memM_of hh
  · obtain ⟨v, M', gs', he, -, -, p1, p2, p3, p4, p5, -, -, -, -, hr⟩ := hp
    cases hr
    exact ⟨he, p1, p2, p3, p4, fun g hg => p5 g hg (by simp)⟩
theorem rd_sl {α : Type} {f : α → List Value} {av : α → AV} {W : World} {S : Nat → Prop} {A : Option Addr} {sz c : Nat} {L : List α} {ρ : Nat → Nat → Option Value} (hav : ∀ x, (av x).cells = (f x).map .v) (hsz : ∀ x, (f x).length = sz) (hpos : 0 < sz) (h : Rd W S A sz f L) (hc : L.length ≤ c) (hm : c ≤ maxLen) : Rep (memM W) ρ (.sl sz (L.map av)) (.slice A L.length c) := by
  have hu : ∀ (k : Nat) (x : AV), (L.map av)[k]? = some x → ∃ x0, L[k]? = some x0 ∧ x = av x0 := fun k x e => by
    rw [List.getElem?_map] at e
    cases hx : L[k]? with
    | none => rw [hx] at e; cases e
    | some x0 => rw [hx] at e; injection e with e; exact ⟨x0, rfl, e.symm⟩
  have key := Rep.sl (M := memM W) ρ sz (L.map av) A c (fun k j => ((L[k]?).bind fun x => (f x)[j]?).getD undef) (by simpa using hc) hm (fun k x j y hx hy => by
    obtain ⟨x0, h0, rfl⟩ := hu k x hx
    rw [hav, List.getElem?_map] at hy
    simp only [h0, Option.bind_some]
    cases hz : (f x0)[j]? with
    | none => rw [hz] at hy; cases hy
    | some u => rw [hz] at hy; injection hy with hy; subst hy; exact .v _ _) (fun k x hx => by
    obtain ⟨x0, h0, rfl⟩ := hu k x hx
    refine ⟨by rw [hav, List.length_map, hsz], ?_⟩
    obtain ⟨b, o, e, -, hcell⟩ := h (by have := zM h0; omega)
    have at_ : ∀ j, j < sz → ∃ arr, memM W b = some arr ∧ arr[o + k * sz + j]? = some (((L[k]?).bind fun x => (f x)[j]?).getD undef) := fun j hj => by
      obtain ⟨u, hu⟩ := zB (L := f x0) (k := j) (by rw [hsz]; exact hj)
      obtain ⟨arr, a1, a2⟩ := memM_cell (hcell k j x0 u h0 hu)
      refine ⟨arr, a1, ?_⟩
      rw [a2, h0]
      simp [hu]
    obtain ⟨arr, a1, -⟩ := at_ 0 hpos
    refine ⟨b, o, arr, e, a1, fun j hj => ?_⟩
    obtain ⟨arr', b1, b2⟩ := at_ j hj
    rw [a1] at b1; injection b1 with b1; subst b1
    exact b2)
  rw [List.length_map] at key
  exact key
section
variable {H : Type} {enc : TypeId × Value → H} {P : Program}
/-- A list of integers that came in, as an immutable slice. -/
theorem open_sl {t e : TypeId} {W : World} {v : Value} {d : DataW H} {p : List MemPlace} {base : Nat} {ρ : Nat → Nat → Option Value} (ht : P.underlying t = some (.slice e)) (he : P.underlying e = some (.int .i64)) (hc : P.cellsOf e = 1)
    (hv : Value.okWide P W .any base t v) (h : DataW.Trod enc P W 0 (fun _ => true) true t v d p) : ∃ l : List Int, Rep (memM W) ρ (.sl 1 (l.map fun n => .v (.int .i64 n))) v ∧ ∀ n ∈ l, -9223372036854775808 ≤ n ∧ n ≤ 9223372036854775807 := by
  obtain ⟨A, c, l, hv', hn, hrd, hm, hb⟩ := open_il ht he hc hv h
  have hcap : l.length ≤ c ∧ c ≤ maxLen := by
    obtain ⟨fuel, hf⟩ := h
    rcases open_ints ht he hc hf with ⟨hcs, hx⟩ | ⟨a, len', cap', zs, hcs, _, hl, hm', hz, hx, hcell, hwz⟩
    · rw [hv'] at hcs
      simp [Value.cells] at hcs
      obtain ⟨rfl, rfl, rfl⟩ := hcs
      exact ⟨by simp, by simp⟩
    · rw [hv'] at hcs
      simp [Value.cells] at hcs
      obtain ⟨rfl, rfl, rfl⟩ := hcs
      exact ⟨hl, hm'⟩
  subst hv'
  exact ⟨l, rd_sl (fun _ => rfl) (fun _ => rfl) (by decide) hrd hcap.1 hcap.2, hb⟩
end
end Go.Proofs.YtnafokinifbfhaaGreatDoor
namespace Go.Proofs.YtnafokinifbfhaaGreatDoor
open Go Go.ChangeShapes Go.WideShapes Go.ChangeAt Go.RowKit
theorem ownD : ownKnob Tryz.prog.godebug = none := by kernel_rfl
theorem laidOutD : laidOutB Tryz.prog = true := by kernel_rfl
theorem cellsIntD : Tryz.prog.cellsOf 3 = 1 := by kernel_rfl
end Go.Proofs.YtnafokinifbfhaaGreatDoor
namespace Go.Proofs.YtnafokinifbfhaaGreatDoor
open Go Go.RowKit
structure Nd where
  n : ByteArray
  cu : Int
  co : Int
  deriving DecidableEq
structure Dv where
  n : ByteArray
  k : Int
  a : Int
  b : Int
  co : Int
  deriving DecidableEq
def jq (n : Int) : Bool := decide (0 ≤ n) && decide (n ≤ 7)
def yH (k : Int) : Bool := decide (1 ≤ k) && decide (k ≤ 3)
def zj (d : Dv) (m : Int) : Bool := if d.a < 0 ∨ m ≤ d.a then false else if yH d.k = false then decide (d.b = -1) else decide (0 ≤ d.b) && decide (d.b < m) && decide (d.b ≠ d.a)
def jL (U : List ByteArray) (s : ByteArray) : Bool := U.any fun u => decide (s = u)
/-- The nodes: the first error, or 0; the names that were used stand in U. -/
def ndGo (U : List ByteArray) : List Nd → Int
  | [] => 0
  | x :: l => if qv x.n.data.toList = false then 3 else if jL U x.n = true then 4 else if x.cu < 0 ∨ 1048576 < x.cu ∨ jq x.co = false then 5 else ndGo (U ++ [x.n]) l
def dvGo (m : Int) (U : List ByteArray) : List Dv → Int
  | [] => 0
  | d :: l => if qv d.n.data.toList = false then 3 else if jL U d.n = true then 4 else if d.k < 1 ∨ 6 < d.k then 6 else if zj d m = false then 7 else if jq d.co = false then 5 else dvGo m (U ++ [d.n]) l
def netE (N : List Nd) (V : List Dv) : Int :=
  if 32 < N.length ∨ 64 < V.length then 1 else if ndGo [] N ≠ 0 then ndGo [] N else dvGo N.length (N.map Nd.n) V
/-- The used names as a map's entries. -/
def pR (U : List ByteArray) : List (Value × Value) := U.map fun n => (.string n, .bool true)
end Go.Proofs.YtnafokinifbfhaaGreatDoor
