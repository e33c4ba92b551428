/- Words between spaces and lines, by plain functions on bytes; nothing of the program stands here / Lines, by plain functions on bytes; nothing of the program stands here. -/
import Derived.Test.YtggagmafkdhjcaaGreatDoorRnP
import Derived.Lib.FieldsP
import Derived.Lib.SplitLaws
import Derived.Lib.Join
import Derived.Laws.RangeString
import Derived.Laws.RangeAny
import Derived.Lib.Split
set_option linter.unusedVariables false
set_option linter.unusedSimpArgs false
namespace Go.Proofs.YtggagmafkdhjcaaGreatDoor
open Go Go.RowKit
/-- The words of some bytes, behind a word that is begun. -/
def wl : List UInt8 → List UInt8 → List (List UInt8)
  | cur, [] => if cur = [] then [] else [cur]
  | cur, c :: l => if c = 32 then (if cur = [] then wl [] l else cur :: wl [] l) else wl (cur ++ [c]) l
def wordsL (l : List UInt8) : List (List UInt8) := wl [] l
theorem wl_skip : ∀ (bs cur l : List UInt8), (∀ c ∈ bs, c ≠ 32) → wl cur (bs ++ l) = wl (cur ++ bs) l
  | [], cur, l, _ => by simp
  | b :: bs, cur, l, h => by
    rw [List.cons_append, wl, if_neg (h b (by simp)), wl_skip bs _ l (fun c hc => h c (by simp [hc]))]
    simp
theorem wl_space (l : List UInt8) : wl [] (32 :: l) = wl [] l := by rw [wl, if_pos rfl, if_pos rfl]
/-- What joining words with single spaces gives. -/
def joinW (ws : List (List UInt8)) : List UInt8 := Lib.join ws [32]
theorem joinW_nil : joinW [] = [] := rfl
theorem joinW_one (w : List UInt8) : joinW [w] = w := Lib.join_one w [32]
theorem joinW_cons (w x : List UInt8) (r : List (List UInt8)) : joinW (w :: x :: r) = w ++ 32 :: joinW (x :: r) := by
  unfold joinW
  rw [Lib.join_cons, Lib.join_cons]
  unfold Lib.joinTail
  simp
theorem wl_ok : ∀ {l cur : List UInt8}, (∀ c ∈ cur, c ≠ 32) → ∀ w ∈ wl cur l, w ≠ [] ∧ ∀ c ∈ w, c ≠ 32
  | [], cur, h, w, hw => by
    unfold wl at hw
    split at hw
    · simp at hw
    · rename_i h0
      simp at hw; subst hw
      exact ⟨h0, h⟩
  | c :: l, cur, h, w, hw => by
    unfold wl at hw
    split at hw
    · split at hw
      · exact wl_ok (l := l) (cur := []) (by simp) w hw
      · rename_i h0
        rcases List.mem_cons.1 hw with rfl | hw
        · exact ⟨h0, h⟩
        · exact wl_ok (l := l) (cur := []) (by simp) w hw
    · rename_i hc
      refine wl_ok (l := l) (cur := cur ++ [c]) (fun d hd => ?_) w hw
      rcases List.mem_append.1 hd with hd | hd
      · exact h d hd
      · simp at hd; subst hd; exact hc
theorem words_ok {l : List UInt8} : ∀ w ∈ wordsL l, w ≠ [] ∧ ∀ c ∈ w, c ≠ 32 := wl_ok (by simp)
theorem wl_len : ∀ {l cur w : List UInt8}, w ∈ wl cur l → w.length ≤ cur.length + l.length
  | [], cur, w, h => by
    unfold wl at h
    split at h
    · simp at h
    · simp at h; subst h; simp
  | c :: l, cur, w, h => by
    unfold wl at h
    split at h
    · split at h
      · have := wl_len h; simp at this ⊢; omega
      · rcases List.mem_cons.1 h with rfl | h
        · simp
        · have := wl_len h; simp at this ⊢; omega
    · have := wl_len h; simp at this ⊢; omega
theorem wl_count : ∀ {l cur : List UInt8}, (wl cur l).length ≤ l.length + 1
  | [], cur => by unfold wl; split <;> simp
  | c :: l, cur => by
    unfold wl
    split
    · split
      · have := wl_count (l := l) (cur := []); simp; omega
      · have := wl_count (l := l) (cur := []); simp; omega
    · have := wl_count (l := l) (cur := cur ++ [c]); simp; omega
section
variable {s : ByteArray}
theorem get_list {i : Nat} (h : i < s.size) : s.data.toList[i]? = some (s.get! i) := by
  have : i < s.data.size := h
  simp [ByteArray.get!, h, this]
theorem dec_cont (pos k : Nat) (h1 : 1 ≤ k) (h2 : k < (Utf8.decode s pos).2) : pos + k < s.size ∧ 128 ≤ (s.get! (pos + k)).toNat := by
  have key : ∀ j, (decide (pos + j < s.size) && ((s.get! (pos + j)).toNat / 64 == 2)) = true → pos + j < s.size ∧ 128 ≤ (s.get! (pos + j)).toNat := fun j h => by
    simp at h
    omega
  unfold Utf8.decode at h2
  simp only at h2
  split at h2
  · simp at h2; omega
  split at h2
  · rename_i hc
    simp only [Bool.and_eq_true] at hc
    split at h2
    · obtain rfl : k = 1 := by simp at h2; omega
      exact key 1 (by simpa using hc.2)
    · simp at h2; omega
  split at h2
  · rename_i hc
    simp only [Bool.and_eq_true] at hc
    split at h2
    · obtain rfl | rfl : k = 1 ∨ k = 2 := by simp at h2; omega
      · exact key 1 (by simpa using hc.1.2)
      · exact key 2 (by simpa using hc.2)
    · simp at h2; omega
  split at h2
  · rename_i hc
    simp only [Bool.and_eq_true] at hc
    split at h2
    · obtain rfl | rfl | rfl : k = 1 ∨ k = 2 ∨ k = 3 := by simp at h2; omega
      · exact key 1 (by simpa using hc.1.1.2)
      · exact key 2 (by simpa using hc.1.2)
      · exact key 3 (by simpa using hc.2)
    · simp at h2; omega
  · simp at h2; omega
end
def spP (n : Nat) : Bool := n == 32
def extL (s : ByteArray) (x : Nat × Nat) : List UInt8 := (s.data.toList.take x.2).drop x.1
def curL (s : ByteArray) (pos : Nat) : Option Nat → List UInt8
  | none => []
  | some a => extL s (a, pos)
theorem extL_app (s : ByteArray) {a b c : Nat} (h1 : a ≤ b) (h2 : b ≤ c) : extL s (a, c) = extL s (a, b) ++ extL s (b, c) := by
  unfold extL
  simp only
  have e : s.data.toList.take c = s.data.toList.take b ++ (s.data.toList.take c).drop b := by
    conv => lhs; rw [← List.take_append_drop b (s.data.toList.take c)]
    rw [List.take_take, Nat.min_eq_left h2]
  rcases Nat.le_total b s.data.toList.length with hb | hb
  · conv => lhs; rw [e]
    rw [List.drop_append_of_le_length (by rw [List.length_take]; omega)]
  · rw [List.take_of_length_le (Nat.le_trans hb h2), List.take_of_length_le hb, List.drop_of_length_le (l := s.data.toList) (i := b) hb, List.append_nil]
theorem extL_ne (s : ByteArray) {a b : Nat} (h : a < b) (hb : b ≤ s.size) : extL s (a, b) ≠ [] := by
  intro e
  have := congrArg List.length e
  have hz : s.size = s.data.toList.length := by simp
  unfold extL at this
  rw [List.length_drop, List.length_take] at this
  simp at this
  omega
theorem spans_wl (s : ByteArray) : ∀ (f pos : Nat) (st : Option Nat) (acc : List (Nat × Nat)), s.size - pos ≤ f → pos ≤ s.size → (∀ a, st = some a → a < pos) →
    (Lib.closeSpans s (Lib.spansFromP spP s f pos st acc)).map (extL s) = acc.map (extL s) ++ wl (curL s pos st) (s.data.toList.drop pos)
  | f, pos, st, acc, hf, hp, hst => by
    have hz : s.size = s.data.toList.length := by simp
    have hend : pos = s.size → (Lib.closeSpans s (acc, st)).map (extL s) = acc.map (extL s) ++ wl (curL s pos st) (s.data.toList.drop pos) := fun he => by
      rw [List.drop_of_length_le (by omega)]
      cases st with
      | none => simp [Lib.closeSpans, curL, wl]
      | some a =>
        have hne := extL_ne s (hst a rfl) hp
        subst he
        simp only [Lib.closeSpans, curL]
        rw [wl, if_neg hne, List.map_append]
        rfl
    by_cases hlt : pos < s.size
    · match f, hf with
      | 0, hf => omega
      | f + 1, hf =>
        have hg := get_list hlt
        have hd : s.data.toList.drop pos = s.get! pos :: s.data.toList.drop (pos + 1) := drop_at hg
        have hgb : s[pos]'hlt = s.get! pos := by simp [ByteArray.get!, hlt]; rfl
        unfold Lib.spansFromP
        rw [if_pos hlt]
        by_cases hasc : (s.get! pos).toNat < 128
        · have hdec := decode_ascii s pos hlt (by rw [hgb]; exact hasc)
          rw [hgb] at hdec
          rw [hdec]
          simp only
          by_cases hsp : s.get! pos = 32
          · have : spP (s.get! pos).toNat = true := by rw [hsp]; rfl
            rw [if_pos this]
            cases st with
            | none =>
              simp only
              rw [spans_wl s f (pos + 1) none acc (by omega) (by omega) (by simp), hd, hsp]
              simp only [curL]
              rw [wl_space]
            | some a =>
              simp only
              rw [spans_wl s f (pos + 1) none _ (by omega) (by omega) (by simp), hd, hsp]
              simp only [curL]
              rw [wl, if_pos rfl, if_neg (extL_ne s (hst a rfl) hp), List.map_append, List.append_assoc]
              rfl
          · have : ¬ spP (s.get! pos).toNat = true := by
              unfold spP
              simp
              intro e
              exact hsp (UInt8.toNat_inj.1 (by rw [e]; rfl))
            rw [if_neg this]
            have hone : extL s (pos, pos + 1) = [s.get! pos] := by
              unfold extL
              simp only
              rw [take_at hg, List.drop_append_of_le_length (by rw [List.length_take]; omega), List.drop_of_length_le (by rw [List.length_take]; omega)]
              rfl
            cases st with
            | none =>
              simp only
              rw [spans_wl s f (pos + 1) (some pos) acc (by omega) (by omega) (by simp), hd]
              simp only [curL]
              rw [wl, if_neg hsp, hone]
              rfl
            | some a =>
              have ha := hst a rfl
              simp only
              rw [spans_wl s f (pos + 1) (some a) acc (by omega) (by omega) (by simp; omega), hd]
              simp only [curL]
              rw [wl, if_neg hsp, extL_app s (show a ≤ pos by omega) (show pos ≤ pos + 1 by omega), hone]
        · have hh := decode_high s pos hlt (by rw [hgb]; omega)
          have hcont := fun k => dec_cont (s := s) pos k
          generalize Utf8.decode s pos = D at hh hcont
          obtain ⟨r, n⟩ := D
          simp only at hh hcont ⊢
          have hn : pos + n ≤ s.size := by
            by_cases h1 : n = 1
            · omega
            · have := (hcont (n - 1) (by omega) (by omega)).1
              omega
          have hns : ¬ spP r = true := by unfold spP; simp; omega
          rw [if_neg hns]
          have hsplit : s.data.toList.drop pos = extL s (pos, pos + n) ++ s.data.toList.drop (pos + n) := by
            unfold extL
            simp only
            conv => lhs; rw [← List.take_append_drop n (s.data.toList.drop pos)]
            rw [List.drop_drop, List.drop_take]
            congr 2
            omega
          have hno : ∀ c ∈ extL s (pos, pos + n), c ≠ 32 := fun c hc => by
            obtain ⟨k, hk⟩ := List.getElem?_of_mem hc
            unfold extL at hk
            simp only at hk
            rw [List.getElem?_drop, List.getElem?_take] at hk
            split at hk
            · rename_i hkn
              have hkn2 : pos + k < pos + n := hkn
              have hb : 128 ≤ (s.get! (pos + k)).toNat := by
                by_cases h0 : k = 0
                · rw [h0, Nat.add_zero]; omega
                · exact (hcont k (by omega) (by omega)).2
              rw [get_list (i := pos + k) (by omega)] at hk
              injection hk with hk
              rintro rfl
              rw [hk] at hb
              exact absurd hb (by decide)
            · cases hk
          cases st with
          | none =>
            simp only
            rw [spans_wl s f (pos + n) (some pos) acc (by omega) hn (by simp; omega), hsplit]
            simp only [curL]
            rw [wl_skip _ _ _ hno]
            rfl
          | some a =>
            have ha := hst a rfl
            simp only
            rw [spans_wl s f (pos + n) (some a) acc (by omega) hn (by simp; omega), hsplit]
            simp only [curL]
            rw [wl_skip _ _ _ hno, extL_app s (show a ≤ pos by omega) (show pos ≤ pos + n by omega)]
    · rw [Lib.spansFromP_end _ _ _ _ _ _ hlt]
      exact hend (by omega)
theorem fields_words (s : ByteArray) : Lib.goFieldsP spP s = (wordsL s.data.toList).map fun w => ⟨w.toArray⟩ := by
  have h := spans_wl s s.size 0 none [] (by omega) (by omega) (by simp)
  simp only [List.map_nil, List.nil_append, curL, List.drop_zero] at h
  have h2 : wordsL s.data.toList = (Lib.spansOfP spP s).map (extL s) := h.symm
  rw [h2]
  unfold Lib.goFieldsP
  rw [List.map_map]
  refine List.map_congr_left fun x _ => ?_
  show s.extract x.1 x.2 = ⟨(extL s x).toArray⟩
  unfold extL
  have e : (s.extract x.1 x.2).data.toList = (s.data.toList.take x.2).drop x.1 := by
    rw [ByteArray.data_extract, Array.toList_extract, List.extract_eq_take_drop, List.drop_take]
  rw [← e]
end Go.Proofs.YtggagmafkdhjcaaGreatDoor
namespace Go.Proofs.YtggagmafkdhjcaaGreatDoor
open Go Go.RowKit
/-- The parts between the bytes c, behind a part that is begun. -/
def splitL (c : UInt8) : List UInt8 → List UInt8 → List (List UInt8)
  | cur, [] => [cur]
  | cur, x :: l => if x = c then cur :: splitL c [] l else splitL c (cur ++ [x]) l
theorem splitL_skip (c : UInt8) : ∀ (bs cur l : List UInt8), (∀ x ∈ bs, x ≠ c) → splitL c cur (bs ++ l) = splitL c (cur ++ bs) l
  | [], cur, l, _ => by simp
  | b :: bs, cur, l, h => by
    rw [List.cons_append, splitL, if_neg (h b (by simp)), splitL_skip c bs _ l (fun x hx => h x (by simp [hx]))]
    simp
theorem splitL_hit (c : UInt8) {p r cur : List UInt8} (h : c ∉ p) : splitL c cur (p ++ c :: r) = (cur ++ p) :: splitL c [] r := by
  rw [splitL_skip c p cur _ (fun x hx e => h (e ▸ hx)), splitL, if_pos rfl]
theorem splitL_none (c : UInt8) {p cur : List UInt8} (h : c ∉ p) : splitL c cur p = [cur ++ p] := by
  have := splitL_skip c p cur [] (fun x hx e => h (e ▸ hx))
  rw [List.append_nil] at this
  rw [this]; rfl
theorem index_at (c : UInt8) : ∀ (p r : List UInt8), c ∉ p → Lib.index (p ++ c :: r) [c] = (p.length : Int)
  | [], r, _ => by simp [Lib.index, List.isPrefixOf]
  | x :: p, r, h => by
    have hx : (c == x) = false := by
      rw [beq_eq_false_iff_ne]
      exact fun e => h (by simp [e])
    rw [List.cons_append, Lib.index]
    have hp : List.isPrefixOf [c] (x :: (p ++ c :: r)) = false := by simp [List.isPrefixOf, hx]
    rw [hp, index_at c p r (fun e => h (by simp [e]))]
    simp
theorem split_mem (c : UInt8) {l : List UInt8} (h : c ∈ l) : ∃ p r, l = p ++ c :: r ∧ c ∉ p := by
  induction l with
  | nil => simp at h
  | cons x l ih =>
    by_cases hx : x = c
    · exact ⟨[], l, by simp [hx], by simp⟩
    · rcases List.mem_cons.1 h with h | h
      · exact absurd h.symm hx
      · obtain ⟨p, r, e, hp⟩ := ih h
        exact ⟨x :: p, r, by simp [e], by simp [hp, Ne.symm hx]⟩
theorem splitK_L (c : UInt8) : ∀ (k : Nat) (l : List UInt8), l.count c = k → Lib.splitK [c] 0 k l = splitL c [] l
  | 0, l, h => by
    rw [splitL_none c (List.count_eq_zero.1 h)]
    rfl
  | k + 1, l, h => by
    obtain ⟨p, r, rfl, hp⟩ := split_mem c (List.count_pos_iff.1 (by rw [h]; omega))
    have hr : r.count c = k := by
      rw [List.count_append, List.count_cons_self, List.count_eq_zero.2 hp] at h
      omega
    rw [splitL_hit c hp, ← splitK_L c k r hr]
    have hne : ((p.length : Int) == -1) = false := by rw [beq_eq_false_iff_ne]; omega
    show (if (Lib.index (p ++ c :: r) [c] == -1) = true then [p ++ c :: r] else (p ++ c :: r).take ((Lib.index (p ++ c :: r) [c]).toNat + 0) :: Lib.splitK [c] 0 k ((p ++ c :: r).drop ((Lib.index (p ++ c :: r) [c]).toNat + 1))) = _
    rw [index_at c p r hp, hne]
    simp [List.drop_append]
    rw [List.drop_of_length_le (Nat.le_succ _), List.nil_append]
theorem splitB_L (s : ByteArray) (c : UInt8) : (Lib.splitB ⟨#[c]⟩ 0 (Lib.countB s ⟨#[c]⟩) s) = (splitL c [] s.data.toList).map fun l => ⟨l.toArray⟩ := by
  have h := Lib.splitB_data ⟨#[c]⟩ 0 (Lib.countB s ⟨#[c]⟩) s
  have hc : Lib.countB s ⟨#[c]⟩ = s.data.toList.count c := Lib.count_one c _
  rw [show (ByteArray.mk #[c]).data.toList = [c] from rfl, splitK_L c _ _ hc.symm] at h
  rw [← h, List.map_map]
  conv => lhs; rw [← List.map_id (Lib.splitB _ _ _ _)]
  rfl
theorem countB_L (s : ByteArray) (c : UInt8) : Lib.countB s ⟨#[c]⟩ + 1 = (splitL c [] s.data.toList).length := by
  have h := Lib.splitB_all ⟨#[c]⟩ (Nat.le_refl 1) 0 _ s rfl
  rw [splitB_L, List.length_map] at h
  exact h.symm
/-- The lines of a text that ends with a line feed, as they come. -/
def ll : List UInt8 → List UInt8 → List (List UInt8)
  | _, [] => []
  | cur, c :: l => if c = 10 then cur :: ll [] l else ll (cur ++ [c]) l
theorem ll_split : ∀ (l cur : List UInt8), ll cur (l ++ [10]) = splitL 10 cur l
  | [], cur => by simp [ll, splitL]
  | c :: l, cur => by
    rw [List.cons_append, ll, splitL]
    split
    · rw [ll_split l []]
    · rw [ll_split l _]
def okB (c : UInt8) : Bool := c == 10 || (decide (32 ≤ c.toNat) && decide (c.toNat ≤ 126))
/-- The lines of a text, if it is one. -/
def linesL (l : List UInt8) : Option (List (List UInt8)) :=
  if l = [] then some []
  else if 65536 < l.length ∨ l.getLast? ≠ some 10 then none
  else if l.all okB = true then some (ll [] l) else none
end Go.Proofs.YtggagmafkdhjcaaGreatDoor
