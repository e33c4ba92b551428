/- Words between spaces and lines, by plain functions on bytes; nothing of the program stands here. -/
import Derived.Test.YtggagmafkdhjcaaGreatDoorRnP
import Derived.Lib.FieldsP
import Derived.Lib.SplitLaws
import Derived.Lib.Join
import Derived.Laws.RangeString
import Derived.Laws.RangeAny
set_option linter.unusedVariables false
set_option linter.unusedSimpArgs false
namespace Go.Proofs.YtggagmafkdhjcaaGreatDoor
open Go Go.RowKit
/-- The words of some bytes, behind a word that is begun. -/
def wl : List UInt8 → List UInt8 → List (List UInt8)
  | cur, [] => if cur = [] then [] else [cur]
  | cur, c :: l => if c = 32 then (if cur = [] then wl [] l else cur :: wl [] l) else wl (cur ++ [c]) l
def jR (l : List UInt8) : List (List UInt8) := wl [] l
theorem cL : ∀ (bs cur l : List UInt8), (∀ c ∈ bs, c ≠ 32) → wl cur (bs ++ l) = wl (cur ++ bs) l
  | [], cur, l, _ => by simp
  | b :: bs, cur, l, h => by
    rw [List.cons_append, wl, if_neg (h b (by simp)), cL bs _ l (fun c hc => h c (by simp [hc]))]
    simp
theorem vB {w : List UInt8} (h0 : w ≠ []) (h : ∀ c ∈ w, c ≠ 32) : wl [] w = [w] := by
  have := cL w [] [] h
  rw [List.append_nil, List.nil_append] at this
  rw [this, wl, if_neg h0]
/-- A word and a space ahead of more. -/
theorem uG {w l : List UInt8} (h0 : w ≠ []) (h : ∀ c ∈ w, c ≠ 32) : wl [] (w ++ 32 :: l) = w :: wl [] l := by
  rw [cL w [] _ h, List.nil_append, wl, if_pos rfl, if_neg h0]
theorem rJ (l : List UInt8) : wl [] (32 :: l) = wl [] l := by rw [wl, if_pos rfl, if_pos rfl]
/-- What joining words with single spaces gives. -/
def jq (ws : List (List UInt8)) : List UInt8 := Lib.join ws [32]
theorem fP : jq [] = [] := rfl
theorem cS (w : List UInt8) : jq [w] = w := Lib.join_one w [32]
theorem bR (w x : List UInt8) (r : List (List UInt8)) : jq (w :: x :: r) = w ++ 32 :: jq (x :: r) := by
  unfold jq
  rw [Lib.join_cons, Lib.join_cons]
  unfold Lib.joinTail
  simp
theorem dV : ∀ {ws : List (List UInt8)}, (∀ w ∈ ws, w ≠ [] ∧ ∀ c ∈ w, c ≠ 32) → jR (jq ws) = ws
  | [], _ => rfl
  | [w], h => by
    rw [cS]
    obtain ⟨h0, h1⟩ := h w (by simp)
    exact vB h0 h1
  | w :: x :: r, h => by
    rw [bR]
    obtain ⟨h0, h1⟩ := h w (by simp)
    show wl [] _ = _
    rw [uG h0 h1]
    have := dV (ws := x :: r) (fun y hy => h y (by simp at hy ⊢; exact .inr hy))
    rw [show wl [] (jq (x :: r)) = jR (jq (x :: r)) from rfl, this]
theorem nI : ∀ {l cur : List UInt8}, (∀ c ∈ cur, c ≠ 32) → ∀ w ∈ wl cur l, w ≠ [] ∧ ∀ c ∈ w, c ≠ 32
  | [], cur, h, w, hw => by
    unfold wl at hw
    split at hw
    · simp at hw
    · rename_i h0
      simp at hw; subst hw
      exact ⟨h0, h⟩
  | c :: l, cur, h, w, hw => by
    unfold wl at hw
    split at hw
    · split at hw
      · exact nI (l := l) (cur := []) (by simp) w hw
      · rename_i h0
        rcases List.mem_cons.1 hw with rfl | hw
        · exact ⟨h0, h⟩
        · exact nI (l := l) (cur := []) (by simp) w hw
    · rename_i hc
      refine nI (l := l) (cur := cur ++ [c]) (fun d hd => ?_) w hw
      rcases List.mem_append.1 hd with hd | hd
      · exact h d hd
      · simp at hd; subst hd; exact hc
theorem rC {l : List UInt8} : ∀ w ∈ jR l, w ≠ [] ∧ ∀ c ∈ w, c ≠ 32 := nI (by simp)
theorem iE : ∀ {l cur w : List UInt8}, w ∈ wl cur l → w.length ≤ cur.length + l.length
  | [], cur, w, h => by
    unfold wl at h
    split at h
    · simp at h
    · simp at h; subst h; simp
  | c :: l, cur, w, h => by
    unfold wl at h
    split at h
    · split at h
      · have := iE h; simp at this ⊢; omega
      · rcases List.mem_cons.1 h with rfl | h
        · simp
        · have := iE h; simp at this ⊢; omega
    · have := iE h; simp at this ⊢; omega
theorem aU : ∀ {l cur : List UInt8}, (wl cur l).length ≤ l.length + 1
  | [], cur => by unfold wl; split <;> simp
  | c :: l, cur => by
    unfold wl
    split
    · split
      · have := aU (l := l) (cur := []); simp; omega
      · have := aU (l := l) (cur := []); simp; omega
    · have := aU (l := l) (cur := cur ++ [c]); simp; omega
section
variable {s : ByteArray}
theorem kM {i : Nat} (h : i < s.size) : s.data.toList[i]? = some (s.get! i) := by
  have : i < s.data.size := h
  simp [ByteArray.get!, h, this]
theorem tE (pos k : Nat) (h1 : 1 ≤ k) (h2 : k < (Utf8.decode s pos).2) : pos + k < s.size ∧ 128 ≤ (s.get! (pos + k)).toNat := by
  have key : ∀ j, (decide (pos + j < s.size) && ((s.get! (pos + j)).toNat / 64 == 2)) = true → pos + j < s.size ∧ 128 ≤ (s.get! (pos + j)).toNat := fun j h => by
    simp at h
    omega
  unfold Utf8.decode at h2
  simp only at h2
  split at h2
  · simp at h2; omega
  split at h2
  · rename_i hc
    simp only [Bool.and_eq_true] at hc
    split at h2
    · obtain rfl : k = 1 := by simp at h2; omega
      exact key 1 (by simpa using hc.2)
    · simp at h2; omega
  split at h2
  · rename_i hc
    simp only [Bool.and_eq_true] at hc
    split at h2
    · obtain rfl | rfl : k = 1 ∨ k = 2 := by simp at h2; omega
      · exact key 1 (by simpa using hc.1.2)
      · exact key 2 (by simpa using hc.2)
    · simp at h2; omega
  split at h2
  · rename_i hc
    simp only [Bool.and_eq_true] at hc
    split at h2
    · obtain rfl | rfl | rfl : k = 1 ∨ k = 2 ∨ k = 3 := by simp at h2; omega
      · exact key 1 (by simpa using hc.1.1.2)
      · exact key 2 (by simpa using hc.1.2)
      · exact key 3 (by simpa using hc.2)
    · simp at h2; omega
  · simp at h2; omega
end
def spP (n : Nat) : Bool := n == 32
def extL (s : ByteArray) (x : Nat × Nat) : List UInt8 := (s.data.toList.take x.2).drop x.1
def curL (s : ByteArray) (pos : Nat) : Option Nat → List UInt8
  | none => []
  | some a => extL s (a, pos)
theorem kX (s : ByteArray) {a b c : Nat} (h1 : a ≤ b) (h2 : b ≤ c) : extL s (a, c) = extL s (a, b) ++ extL s (b, c) := by
  unfold extL
  simp only
  have e : s.data.toList.take c = s.data.toList.take b ++ (s.data.toList.take c).drop b := by
    conv => lhs; rw [← List.take_append_drop b (s.data.toList.take c)]
    rw [List.take_take, Nat.min_eq_left h2]
  rcases Nat.le_total b s.data.toList.length with hb | hb
  · conv => lhs; rw [e]
    rw [List.drop_append_of_le_length (by rw [List.length_take]; omega)]
  · rw [List.take_of_length_le (Nat.le_trans hb h2), List.take_of_length_le hb, List.drop_of_length_le (l := s.data.toList) (i := b) hb, List.append_nil]
theorem oH (s : ByteArray) {a b : Nat} (h : a < b) (hb : b ≤ s.size) : extL s (a, b) ≠ [] := by
  intro e
  have := congrArg List.length e
  have hz : s.size = s.data.toList.length := by simp
  unfold extL at this
  rw [List.length_drop, List.length_take] at this
  simp at this
  omega
theorem qY (s : ByteArray) : ∀ (f pos : Nat) (st : Option Nat) (acc : List (Nat × Nat)), s.size - pos ≤ f → pos ≤ s.size → (∀ a, st = some a → a < pos) →
    (Lib.closeSpans s (Lib.spansFromP spP s f pos st acc)).map (extL s) = acc.map (extL s) ++ wl (curL s pos st) (s.data.toList.drop pos)
  | f, pos, st, acc, hf, hp, hst => by
    have hz : s.size = s.data.toList.length := by simp
    have hend : pos = s.size → (Lib.closeSpans s (acc, st)).map (extL s) = acc.map (extL s) ++ wl (curL s pos st) (s.data.toList.drop pos) := fun he => by
      rw [List.drop_of_length_le (by omega)]
      cases st with
      | none => simp [Lib.closeSpans, curL, wl]
      | some a =>
        have hne := oH s (hst a rfl) hp
        subst he
        simp only [Lib.closeSpans, curL]
        rw [wl, if_neg hne, List.map_append]
        rfl
    by_cases hlt : pos < s.size
    · match f, hf with
      | 0, hf => omega
      | f + 1, hf =>
        have hg := kM hlt
        have hd : s.data.toList.drop pos = s.get! pos :: s.data.toList.drop (pos + 1) := ju hg
        have hgb : s[pos]'hlt = s.get! pos := by simp [ByteArray.get!, hlt]; rfl
        unfold Lib.spansFromP
        rw [if_pos hlt]
        by_cases hasc : (s.get! pos).toNat < 128
        · have hdec := decode_ascii s pos hlt (by rw [hgb]; exact hasc)
          rw [hgb] at hdec
          rw [hdec]
          simp only
          by_cases hsp : s.get! pos = 32
          · have : spP (s.get! pos).toNat = true := by rw [hsp]; rfl
            rw [if_pos this]
            cases st with
            | none =>
              simp only
              rw [qY s f (pos + 1) none acc (by omega) (by omega) (by simp), hd, hsp]
              simp only [curL]
              rw [rJ]
            | some a =>
              simp only
              rw [qY s f (pos + 1) none _ (by omega) (by omega) (by simp), hd, hsp]
              simp only [curL]
              rw [wl, if_pos rfl, if_neg (oH s (hst a rfl) hp), List.map_append, List.append_assoc]
              rfl
          · have : ¬ spP (s.get! pos).toNat = true := by
              unfold spP
              simp
              intro e
              exact hsp (UInt8.toNat_inj.1 (by rw [e]; rfl))
            rw [if_neg this]
            have hone : extL s (pos, pos + 1) = [s.get! pos] := by
              unfold extL
              simp only
              rw [aB hg, List.drop_append_of_le_length (by rw [List.length_take]; omega), List.drop_of_length_le (by rw [List.length_take]; omega)]
              rfl
            cases st with
            | none =>
              simp only
              rw [qY s f (pos + 1) (some pos) acc (by omega) (by omega) (by simp), hd]
              simp only [curL]
              rw [wl, if_neg hsp, hone]
              rfl
            | some a =>
              have ha := hst a rfl
              simp only
              rw [qY s f (pos + 1) (some a) acc (by omega) (by omega) (by simp; omega), hd]
              simp only [curL]
              rw [wl, if_neg hsp, kX s (show a ≤ pos by omega) (show pos ≤ pos + 1 by omega), hone]
        · have hh := decode_high s pos hlt (by rw [hgb]; omega)
          have hcont := fun k => tE (s := s) pos k
          generalize Utf8.decode s pos = D at hh hcont
          obtain ⟨r, n⟩ := D
          simp only at hh hcont ⊢
          have hn : pos + n ≤ s.size := by
            by_cases h1 : n = 1
            · omega
            · have := (hcont (n - 1) (by omega) (by omega)).1
              omega
          have hns : ¬ spP r = true := by unfold spP; simp; omega
          rw [if_neg hns]
          have hsplit : s.data.toList.drop pos = extL s (pos, pos + n) ++ s.data.toList.drop (pos + n) := by
            unfold extL
            simp only
            conv => lhs; rw [← List.take_append_drop n (s.data.toList.drop pos)]
            rw [List.drop_drop, List.drop_take]
            congr 2
            omega
          have hno : ∀ c ∈ extL s (pos, pos + n), c ≠ 32 := fun c hc => by
            obtain ⟨k, hk⟩ := List.getElem?_of_mem hc
            unfold extL at hk
            simp only at hk
            rw [List.getElem?_drop, List.getElem?_take] at hk
            split at hk
            · rename_i hkn
              have hkn2 : pos + k < pos + n := hkn
              have hb : 128 ≤ (s.get! (pos + k)).toNat := by
                by_cases h0 : k = 0
                · rw [h0, Nat.add_zero]; omega
                · exact (hcont k (by omega) (by omega)).2
              rw [kM (i := pos + k) (by omega)] at hk
              injection hk with hk
              rintro rfl
              rw [hk] at hb
              exact absurd hb (by decide)
            · cases hk
          cases st with
          | none =>
            simp only
            rw [qY s f (pos + n) (some pos) acc (by omega) hn (by simp; omega), hsplit]
            simp only [curL]
            rw [cL _ _ _ hno]
            rfl
          | some a =>
            have ha := hst a rfl
            simp only
            rw [qY s f (pos + n) (some a) acc (by omega) hn (by simp; omega), hsplit]
            simp only [curL]
            rw [cL _ _ _ hno, kX s (show a ≤ pos by omega) (show pos ≤ pos + n by omega)]
    · rw [Lib.spansFromP_end _ _ _ _ _ _ hlt]
      exact hend (by omega)
theorem iA (s : ByteArray) : Lib.goFieldsP spP s = (jR s.data.toList).map fun w => ⟨w.toArray⟩ := by
  have h := qY s s.size 0 none [] (by omega) (by omega) (by simp)
  simp only [List.map_nil, List.nil_append, curL, List.drop_zero] at h
  have h2 : jR s.data.toList = (Lib.spansOfP spP s).map (extL s) := h.symm
  rw [h2]
  unfold Lib.goFieldsP
  rw [List.map_map]
  refine List.map_congr_left fun x _ => ?_
  show s.extract x.1 x.2 = ⟨(extL s x).toArray⟩
  unfold extL
  have e : (s.extract x.1 x.2).data.toList = (s.data.toList.take x.2).drop x.1 := by
    rw [ByteArray.data_extract, Array.toList_extract, List.extract_eq_take_drop, List.drop_take]
  rw [← e]
end Go.Proofs.YtggagmafkdhjcaaGreatDoor
