/- lexeme.Text, and the references of Number and Text, by the abstract machine; conditions: the table of powers stands / Words between spaces and lines, by plain functions on bytes; nothing of the program stands here. -/
import Derived.Test.YtjamibeffalhaaaGreatDoorAbsX
import Derived.Test.YtjamibeffalhaaaGreatDoorNmA
import Derived.Test.YtjamibeffalhaaaGreatDoorShelf
import Derived.Lib.FieldsP
import Derived.Lib.SplitLaws
import Derived.Lib.Join
import Derived.Laws.RangeString
import Derived.Laws.RangeAny
set_option linter.unusedVariables false
set_option linter.unusedSimpArgs false
namespace Go.Proofs.YtjamibeffalhaaaGreatDoor
open Go Go.RowKit Go.Sort
set_option maxRecDepth 10000
variable {G : Nat → Option (List Value)}
def powL : List Value := Lib.pow10Tab.map fun z => .int .u64 z
def GPow (G : Nat → Option (List Value)) : Prop := G 2 = some powL
theorem gPowN : Tryz.prog.globalNamed "internal/strconv.uint64pow10" = some 2 := by kernel_rfl
theorem tab_pow {w : World} {t : TypeId} {fr : Nat × Nat} (h : w.heap[2]? = some (.cells ⟨powL⟩ t fr)) : Lib.TabIs Tryz.prog w "internal/strconv.uint64pow10" .u64 Lib.pow10Tab := by
  unfold Lib.TabIs World.var?
  rw [gPowN]
  simp only [Option.bind_some]
  rw [h]
  rfl
theorem below_grown (w : World) (k : Nat) (os : Array Obj) : Below w.heap.size w (grow (w.drewN k) os) :=
  ⟨rfl, rfl, rfl, by simp [grow], fun i hi => by
    show (w.heap ++ os)[i]? = _
    rw [Array.getElem?_append_left hi]⟩
theorem itoa_A (n : Int) (hG : GPow G) (h1 : -9223372036854775808 ≤ n) (h2 : n ≤ 9223372036854775807) : zy Tryz.prog G 89 [.v (.int .i64 n)] [] (.v (.string (txtP n))) [] :=
  acalls_lib (vs := [.int .i64 n]) (zg Tryz.func89 (by kernel_rfl) rfl) (fun _ _ => .v _ _) (fun w hw => by
    obtain ⟨t, fr, h⟩ := hw _ _ hG
    refine (Tryz.strconv_Itoa n h1 h2 w (tab_pow h)).mono ?_
    rintro e w' ⟨rfl, k, os, rfl⟩
    exact ⟨rfl, below_grown w k os⟩)
theorem text_A (n : Int) (hG : GPow G) (h1 : -9223372036854775808 ≤ n) (h2 : n ≤ 9223372036854775807) : zy Tryz.prog G 54 [.v (.int .i64 n)] [] (.v (.string (txtP n))) [] := by
  refine zf tbOk (zg Tryz.func54 (by kernel_rfl) rfl) Tryz.func54 rfl _ Tryz.ntmps54 (Nat.le_of_ble_eq_true rfl) fun X hX => ?_
  subst hX
  repeat (first | ((with_reducible refine zJ ?_); refine zI rfl ?_) | ((with_reducible refine zD ?_); refine zC rfl ?_)  | refine zH ?_ | refine zB rfl ?_ | with_reducible refine zE ?_ | with_reducible refine zF ?_ | ((with_reducible refine zA ?_ ?_); kernel_rfl))
  refine zj (itoa_A n hG h1 h2) (by repeat' (first | exact trivial | exact Ren.v _ | exact Ren.sl _ _ | exact Ren.ep _ | exact Ren.ptr _ _ _ _ rfl | exact Ren.bs _ _ _ _ _ rfl | exact Ren.nil _ | exact Ren.own _ _ _ _ ⟨_, rfl⟩ | refine zP ?_ | refine zQ ?_ | refine zR ?_ | refine ⟨?_, ?_⟩)) (by repeat' (first | exact trivial | exact RenB.v _ | exact RenB.sl _ _ | exact RenB.ep _ | exact RenB.ptr _ _ _ _ rfl | refine zW ?_ | refine zV ?_ | refine ⟨?_, ?_⟩)) ?_
  repeat (first | ((with_reducible refine zD ?_); refine zC rfl ?_)  | refine zH ?_ | refine zB rfl ?_ | with_reducible refine zE ?_ | with_reducible refine zL ?_ )
  refine zk (by first | exact .inr rfl | exact .inl rfl) rfl rfl ?_
  rfl
end Go.Proofs.YtjamibeffalhaaaGreatDoor
namespace Go.Proofs.YtjamibeffalhaaaGreatDoor
open Go Go.RowKit
/-- The words of some bytes, behind a word that is begun. -/
def wl : List UInt8 → List UInt8 → List (List UInt8)
  | cur, [] => if cur = [] then [] else [cur]
  | cur, c :: l => if c = 32 then (if cur = [] then wl [] l else cur :: wl [] l) else wl (cur ++ [c]) l
def yK (l : List UInt8) : List (List UInt8) := wl [] l
theorem wl_skip : ∀ (bs cur l : List UInt8), (∀ c ∈ bs, c ≠ 32) → wl cur (bs ++ l) = wl (cur ++ bs) l
  | [], cur, l, _ => by simp
  | b :: bs, cur, l, h => by
    rw [List.cons_append, wl, if_neg (h b (by simp)), wl_skip bs _ l (fun c hc => h c (by simp [hc]))]
    simp
theorem wl_word {w : List UInt8} (h0 : w ≠ []) (h : ∀ c ∈ w, c ≠ 32) : wl [] w = [w] := by
  have := wl_skip w [] [] h
  rw [List.append_nil, List.nil_append] at this
  rw [this, wl, if_neg h0]
/-- A word and a space ahead of more. -/
theorem wl_cons {w l : List UInt8} (h0 : w ≠ []) (h : ∀ c ∈ w, c ≠ 32) : wl [] (w ++ 32 :: l) = w :: wl [] l := by
  rw [wl_skip w [] _ h, List.nil_append, wl, if_pos rfl, if_neg h0]
theorem wl_space (l : List UInt8) : wl [] (32 :: l) = wl [] l := by rw [wl, if_pos rfl, if_pos rfl]
/-- What joining words with single spaces gives. -/
def yh (ws : List (List UInt8)) : List UInt8 := Lib.join ws [32]
theorem joinW_nil : yh [] = [] := rfl
theorem joinW_one (w : List UInt8) : yh [w] = w := Lib.join_one w [32]
theorem joinW_cons (w x : List UInt8) (r : List (List UInt8)) : yh (w :: x :: r) = w ++ 32 :: yh (x :: r) := by
  unfold yh
  rw [Lib.join_cons, Lib.join_cons]
  unfold Lib.joinTail
  simp
theorem words_join : ∀ {ws : List (List UInt8)}, (∀ w ∈ ws, w ≠ [] ∧ ∀ c ∈ w, c ≠ 32) → yK (yh ws) = ws
  | [], _ => rfl
  | [w], h => by
    rw [joinW_one]
    obtain ⟨h0, h1⟩ := h w (by simp)
    exact wl_word h0 h1
  | w :: x :: r, h => by
    rw [joinW_cons]
    obtain ⟨h0, h1⟩ := h w (by simp)
    show wl [] _ = _
    rw [wl_cons h0 h1]
    have := words_join (ws := x :: r) (fun y hy => h y (by simp at hy ⊢; exact .inr hy))
    rw [show wl [] (yh (x :: r)) = yK (yh (x :: r)) from rfl, this]
theorem wl_len : ∀ {l cur w : List UInt8}, w ∈ wl cur l → w.length ≤ cur.length + l.length
  | [], cur, w, h => by
    unfold wl at h
    split at h
    · simp at h
    · simp at h; subst h; simp
  | c :: l, cur, w, h => by
    unfold wl at h
    split at h
    · split at h
      · have := wl_len h; simp at this ⊢; omega
      · rcases List.mem_cons.1 h with rfl | h
        · simp
        · have := wl_len h; simp at this ⊢; omega
    · have := wl_len h; simp at this ⊢; omega
theorem qY : ∀ {l cur : List UInt8}, (wl cur l).length ≤ l.length + 1
  | [], cur => by unfold wl; split <;> simp
  | c :: l, cur => by
    unfold wl
    split
    · split
      · have := qY (l := l) (cur := []); simp; omega
      · have := qY (l := l) (cur := []); simp; omega
    · have := qY (l := l) (cur := cur ++ [c]); simp; omega
section
variable {s : ByteArray}
theorem get_list {i : Nat} (h : i < s.size) : s.data.toList[i]? = some (s.get! i) := by
  have : i < s.data.size := h
  simp [ByteArray.get!, h, this]
theorem dec_cont (pos k : Nat) (h1 : 1 ≤ k) (h2 : k < (Utf8.decode s pos).2) : pos + k < s.size ∧ 128 ≤ (s.get! (pos + k)).toNat := by
  have key : ∀ j, (decide (pos + j < s.size) && ((s.get! (pos + j)).toNat / 64 == 2)) = true → pos + j < s.size ∧ 128 ≤ (s.get! (pos + j)).toNat := fun j h => by
    simp at h
    omega
  unfold Utf8.decode at h2
  simp only at h2
  split at h2
  · simp at h2; omega
  split at h2
  · rename_i hc
    simp only [Bool.and_eq_true] at hc
    split at h2
    · obtain rfl : k = 1 := by simp at h2; omega
      exact key 1 (by simpa using hc.2)
    · simp at h2; omega
  split at h2
  · rename_i hc
    simp only [Bool.and_eq_true] at hc
    split at h2
    · obtain rfl | rfl : k = 1 ∨ k = 2 := by simp at h2; omega
      · exact key 1 (by simpa using hc.1.2)
      · exact key 2 (by simpa using hc.2)
    · simp at h2; omega
  split at h2
  · rename_i hc
    simp only [Bool.and_eq_true] at hc
    split at h2
    · obtain rfl | rfl | rfl : k = 1 ∨ k = 2 ∨ k = 3 := by simp at h2; omega
      · exact key 1 (by simpa using hc.1.1.2)
      · exact key 2 (by simpa using hc.1.2)
      · exact key 3 (by simpa using hc.2)
    · simp at h2; omega
  · simp at h2; omega
end
def spP (n : Nat) : Bool := n == 32
def extL (s : ByteArray) (x : Nat × Nat) : List UInt8 := (s.data.toList.take x.2).drop x.1
def curL (s : ByteArray) (pos : Nat) : Option Nat → List UInt8
  | none => []
  | some a => extL s (a, pos)
theorem extL_app (s : ByteArray) {a b c : Nat} (h1 : a ≤ b) (h2 : b ≤ c) : extL s (a, c) = extL s (a, b) ++ extL s (b, c) := by
  unfold extL
  simp only
  have e : s.data.toList.take c = s.data.toList.take b ++ (s.data.toList.take c).drop b := by
    conv => lhs; rw [← List.take_append_drop b (s.data.toList.take c)]
    rw [List.take_take, Nat.min_eq_left h2]
  rcases Nat.le_total b s.data.toList.length with hb | hb
  · conv => lhs; rw [e]
    rw [List.drop_append_of_le_length (by rw [List.length_take]; omega)]
  · rw [List.take_of_length_le (Nat.le_trans hb h2), List.take_of_length_le hb, List.drop_of_length_le (l := s.data.toList) (i := b) hb, List.append_nil]
theorem extL_ne (s : ByteArray) {a b : Nat} (h : a < b) (hb : b ≤ s.size) : extL s (a, b) ≠ [] := by
  intro e
  have := congrArg List.length e
  have hz : s.size = s.data.toList.length := by simp
  unfold extL at this
  rw [List.length_drop, List.length_take] at this
  simp at this
  omega
theorem ql (s : ByteArray) : ∀ (f pos : Nat) (st : Option Nat) (acc : List (Nat × Nat)), s.size - pos ≤ f → pos ≤ s.size → (∀ a, st = some a → a < pos) →
    (Lib.closeSpans s (Lib.spansFromP spP s f pos st acc)).map (extL s) = acc.map (extL s) ++ wl (curL s pos st) (s.data.toList.drop pos)
  | f, pos, st, acc, hf, hp, hst => by
    have hz : s.size = s.data.toList.length := by simp
    have hend : pos = s.size → (Lib.closeSpans s (acc, st)).map (extL s) = acc.map (extL s) ++ wl (curL s pos st) (s.data.toList.drop pos) := fun he => by
      rw [List.drop_of_length_le (by omega)]
      cases st with
      | none => simp [Lib.closeSpans, curL, wl]
      | some a =>
        have hne := extL_ne s (hst a rfl) hp
        subst he
        simp only [Lib.closeSpans, curL]
        rw [wl, if_neg hne, List.map_append]
        rfl
    by_cases hlt : pos < s.size
    · match f, hf with
      | 0, hf => omega
      | f + 1, hf =>
        have hg := get_list hlt
        have hd : s.data.toList.drop pos = s.get! pos :: s.data.toList.drop (pos + 1) := yT hg
        have hgb : s[pos]'hlt = s.get! pos := by simp [ByteArray.get!, hlt]; rfl
        unfold Lib.spansFromP
        rw [if_pos hlt]
        by_cases hasc : (s.get! pos).toNat < 128
        · have hdec := decode_ascii s pos hlt (by rw [hgb]; exact hasc)
          rw [hgb] at hdec
          rw [hdec]
          simp only
          by_cases hsp : s.get! pos = 32
          · have : spP (s.get! pos).toNat = true := by rw [hsp]; rfl
            rw [if_pos this]
            cases st with
            | none =>
              simp only
              rw [ql s f (pos + 1) none acc (by omega) (by omega) (by simp), hd, hsp]
              simp only [curL]
              rw [wl_space]
            | some a =>
              simp only
              rw [ql s f (pos + 1) none _ (by omega) (by omega) (by simp), hd, hsp]
              simp only [curL]
              rw [wl, if_pos rfl, if_neg (extL_ne s (hst a rfl) hp), List.map_append, List.append_assoc]
              rfl
          · have : ¬ spP (s.get! pos).toNat = true := by
              unfold spP
              simp
              intro e
              exact hsp (UInt8.toNat_inj.1 (by rw [e]; rfl))
            rw [if_neg this]
            have hone : extL s (pos, pos + 1) = [s.get! pos] := by
              unfold extL
              simp only
              rw [ja hg, List.drop_append_of_le_length (by rw [List.length_take]; omega), List.drop_of_length_le (by rw [List.length_take]; omega)]
              rfl
            cases st with
            | none =>
              simp only
              rw [ql s f (pos + 1) (some pos) acc (by omega) (by omega) (by simp), hd]
              simp only [curL]
              rw [wl, if_neg hsp, hone]
              rfl
            | some a =>
              have ha := hst a rfl
              simp only
              rw [ql s f (pos + 1) (some a) acc (by omega) (by omega) (by simp; omega), hd]
              simp only [curL]
              rw [wl, if_neg hsp, extL_app s (show a ≤ pos by omega) (show pos ≤ pos + 1 by omega), hone]
        · have hh := decode_high s pos hlt (by rw [hgb]; omega)
          have hcont := fun k => dec_cont (s := s) pos k
          generalize Utf8.decode s pos = D at hh hcont
          obtain ⟨r, n⟩ := D
          simp only at hh hcont ⊢
          have hn : pos + n ≤ s.size := by
            by_cases h1 : n = 1
            · omega
            · have := (hcont (n - 1) (by omega) (by omega)).1
              omega
          have hns : ¬ spP r = true := by unfold spP; simp; omega
          rw [if_neg hns]
          have hsplit : s.data.toList.drop pos = extL s (pos, pos + n) ++ s.data.toList.drop (pos + n) := by
            unfold extL
            simp only
            conv => lhs; rw [← List.take_append_drop n (s.data.toList.drop pos)]
            rw [List.drop_drop, List.drop_take]
            congr 2
            omega
          have hno : ∀ c ∈ extL s (pos, pos + n), c ≠ 32 := fun c hc => by
            obtain ⟨k, hk⟩ := List.getElem?_of_mem hc
            unfold extL at hk
            simp only at hk
            rw [List.getElem?_drop, List.getElem?_take] at hk
            split at hk
            · rename_i hkn
              have hkn2 : pos + k < pos + n := hkn
              have hb : 128 ≤ (s.get! (pos + k)).toNat := by
                by_cases h0 : k = 0
                · rw [h0, Nat.add_zero]; omega
                · exact (hcont k (by omega) (by omega)).2
              rw [get_list (i := pos + k) (by omega)] at hk
              injection hk with hk
              rintro rfl
              rw [hk] at hb
              exact absurd hb (by decide)
            · cases hk
          cases st with
          | none =>
            simp only
            rw [ql s f (pos + n) (some pos) acc (by omega) hn (by simp; omega), hsplit]
            simp only [curL]
            rw [wl_skip _ _ _ hno]
            rfl
          | some a =>
            have ha := hst a rfl
            simp only
            rw [ql s f (pos + n) (some a) acc (by omega) hn (by simp; omega), hsplit]
            simp only [curL]
            rw [wl_skip _ _ _ hno, extL_app s (show a ≤ pos by omega) (show pos ≤ pos + n by omega)]
    · rw [Lib.spansFromP_end _ _ _ _ _ _ hlt]
      exact hend (by omega)
theorem fields_words (s : ByteArray) : Lib.goFieldsP spP s = (yK s.data.toList).map fun w => ⟨w.toArray⟩ := by
  have h := ql s s.size 0 none [] (by omega) (by omega) (by simp)
  simp only [List.map_nil, List.nil_append, curL, List.drop_zero] at h
  have h2 : yK s.data.toList = (Lib.spansOfP spP s).map (extL s) := h.symm
  rw [h2]
  unfold Lib.goFieldsP
  rw [List.map_map]
  refine List.map_congr_left fun x _ => ?_
  show s.extract x.1 x.2 = ⟨(extL s x).toArray⟩
  unfold extL
  have e : (s.extract x.1 x.2).data.toList = (s.data.toList.take x.2).drop x.1 := by
    rw [ByteArray.data_extract, Array.toList_extract, List.extract_eq_take_drop, List.drop_take]
  rw [← e]
end Go.Proofs.YtjamibeffalhaaaGreatDoor
