/- Words between spaces and lines, by plain functions on bytes; nothing of the program stands here / Lines, by plain functions on bytes; nothing of the program stands here / strings.FieldsFunc at spaces, strings.Split at a byte and strings.Join, by their contracts of the library, in the abstract machine; conditions: a cell of the library stands / Names, by plain functions on bytes: what lexeme.Name and its reference say, and that they say the same; nothing of the program stands here. -/
import Derived.Test.YtjamibeffalhaaaGreatDoorNmA
import Derived.Lib.FieldsP
import Derived.Lib.SplitLaws
import Derived.Lib.Join
import Derived.Laws.RangeString
import Derived.Laws.RangeAny
import Derived.Lib.Split
import Derived.Test.YtjamibeffalhaaaGreatDoorAbsX
import Derived.Test.YtjamibeffalhaaaGreatDoorTab
import Derived.Test.YtjamibeffalhaaaGreatDoorShelf
import Derived.Test.YtjamibeffalhaaaGreatDoorLib
set_option linter.unusedVariables false
set_option linter.unusedSimpArgs false
namespace Go.Proofs.YtjamibeffalhaaaGreatDoor
open Go Go.RowKit
/-- The words of some bytes, behind a word that is begun. -/
def wl : List UInt8 → List UInt8 → List (List UInt8)
  | cur, [] => if cur = [] then [] else [cur]
  | cur, c :: l => if c = 32 then (if cur = [] then wl [] l else cur :: wl [] l) else wl (cur ++ [c]) l
def yP (l : List UInt8) : List (List UInt8) := wl [] l
theorem nQ : ∀ (bs cur l : List UInt8), (∀ c ∈ bs, c ≠ 32) → wl cur (bs ++ l) = wl (cur ++ bs) l
  | [], cur, l, _ => by simp
  | b :: bs, cur, l, h => by
    rw [List.cons_append, wl, if_neg (h b (by simp)), nQ bs _ l (fun c hc => h c (by simp [hc]))]
    simp
theorem xS (l : List UInt8) : wl [] (32 :: l) = wl [] l := by rw [wl, if_pos rfl, if_pos rfl]
/-- What joining words with single spaces gives. -/
def yl (ws : List (List UInt8)) : List UInt8 := Lib.join ws [32]
theorem lK : yl [] = [] := rfl
theorem jq (w : List UInt8) : yl [w] = w := Lib.join_one w [32]
theorem yX (w x : List UInt8) (r : List (List UInt8)) : yl (w :: x :: r) = w ++ 32 :: yl (x :: r) := by
  unfold yl
  rw [Lib.join_cons, Lib.join_cons]
  unfold Lib.joinTail
  simp
theorem aN : ∀ {l cur w : List UInt8}, w ∈ wl cur l → w.length ≤ cur.length + l.length
  | [], cur, w, h => by
    unfold wl at h
    split at h
    · simp at h
    · simp at h; subst h; simp
  | c :: l, cur, w, h => by
    unfold wl at h
    split at h
    · split at h
      · have := aN h; simp at this ⊢; omega
      · rcases List.mem_cons.1 h with rfl | h
        · simp
        · have := aN h; simp at this ⊢; omega
    · have := aN h; simp at this ⊢; omega
theorem jn : ∀ {l cur : List UInt8}, (wl cur l).length ≤ l.length + 1
  | [], cur => by unfold wl; split <;> simp
  | c :: l, cur => by
    unfold wl
    split
    · split
      · have := jn (l := l) (cur := []); simp; omega
      · have := jn (l := l) (cur := []); simp; omega
    · have := jn (l := l) (cur := cur ++ [c]); simp; omega
section
variable {s : ByteArray}
theorem rI {i : Nat} (h : i < s.size) : s.data.toList[i]? = some (s.get! i) := by
  have : i < s.data.size := h
  simp [ByteArray.get!, h, this]
theorem vT (pos k : Nat) (h1 : 1 ≤ k) (h2 : k < (Utf8.decode s pos).2) : pos + k < s.size ∧ 128 ≤ (s.get! (pos + k)).toNat := by
  have key : ∀ j, (decide (pos + j < s.size) && ((s.get! (pos + j)).toNat / 64 == 2)) = true → pos + j < s.size ∧ 128 ≤ (s.get! (pos + j)).toNat := fun j h => by
    simp at h
    omega
  unfold Utf8.decode at h2
  simp only at h2
  split at h2
  · simp at h2; omega
  split at h2
  · rename_i hc
    simp only [Bool.and_eq_true] at hc
    split at h2
    · obtain rfl : k = 1 := by simp at h2; omega
      exact key 1 (by simpa using hc.2)
    · simp at h2; omega
  split at h2
  · rename_i hc
    simp only [Bool.and_eq_true] at hc
    split at h2
    · obtain rfl | rfl : k = 1 ∨ k = 2 := by simp at h2; omega
      · exact key 1 (by simpa using hc.1.2)
      · exact key 2 (by simpa using hc.2)
    · simp at h2; omega
  split at h2
  · rename_i hc
    simp only [Bool.and_eq_true] at hc
    split at h2
    · obtain rfl | rfl | rfl : k = 1 ∨ k = 2 ∨ k = 3 := by simp at h2; omega
      · exact key 1 (by simpa using hc.1.1.2)
      · exact key 2 (by simpa using hc.1.2)
      · exact key 3 (by simpa using hc.2)
    · simp at h2; omega
  · simp at h2; omega
end
def spP (n : Nat) : Bool := n == 32
def extL (s : ByteArray) (x : Nat × Nat) : List UInt8 := (s.data.toList.take x.2).drop x.1
def curL (s : ByteArray) (pos : Nat) : Option Nat → List UInt8
  | none => []
  | some a => extL s (a, pos)
theorem iQ (s : ByteArray) {a b c : Nat} (h1 : a ≤ b) (h2 : b ≤ c) : extL s (a, c) = extL s (a, b) ++ extL s (b, c) := by
  unfold extL
  simp only
  have e : s.data.toList.take c = s.data.toList.take b ++ (s.data.toList.take c).drop b := by
    conv => lhs; rw [← List.take_append_drop b (s.data.toList.take c)]
    rw [List.take_take, Nat.min_eq_left h2]
  rcases Nat.le_total b s.data.toList.length with hb | hb
  · conv => lhs; rw [e]
    rw [List.drop_append_of_le_length (by rw [List.length_take]; omega)]
  · rw [List.take_of_length_le (Nat.le_trans hb h2), List.take_of_length_le hb, List.drop_of_length_le (l := s.data.toList) (i := b) hb, List.append_nil]
theorem iI (s : ByteArray) {a b : Nat} (h : a < b) (hb : b ≤ s.size) : extL s (a, b) ≠ [] := by
  intro e
  have := congrArg List.length e
  have hz : s.size = s.data.toList.length := by simp
  unfold extL at this
  rw [List.length_drop, List.length_take] at this
  simp at this
  omega
theorem aI (s : ByteArray) : ∀ (f pos : Nat) (st : Option Nat) (acc : List (Nat × Nat)), s.size - pos ≤ f → pos ≤ s.size → (∀ a, st = some a → a < pos) →
    (Lib.closeSpans s (Lib.spansFromP spP s f pos st acc)).map (extL s) = acc.map (extL s) ++ wl (curL s pos st) (s.data.toList.drop pos)
  | f, pos, st, acc, hf, hp, hst => by
    have hz : s.size = s.data.toList.length := by simp
    have hend : pos = s.size → (Lib.closeSpans s (acc, st)).map (extL s) = acc.map (extL s) ++ wl (curL s pos st) (s.data.toList.drop pos) := fun he => by
      rw [List.drop_of_length_le (by omega)]
      cases st with
      | none => simp [Lib.closeSpans, curL, wl]
      | some a =>
        have hne := iI s (hst a rfl) hp
        subst he
        simp only [Lib.closeSpans, curL]
        rw [wl, if_neg hne, List.map_append]
        rfl
    by_cases hlt : pos < s.size
    · match f, hf with
      | 0, hf => omega
      | f + 1, hf =>
        have hg := rI hlt
        have hd : s.data.toList.drop pos = s.get! pos :: s.data.toList.drop (pos + 1) := yT hg
        have hgb : s[pos]'hlt = s.get! pos := by simp [ByteArray.get!, hlt]; rfl
        unfold Lib.spansFromP
        rw [if_pos hlt]
        by_cases hasc : (s.get! pos).toNat < 128
        · have hdec := decode_ascii s pos hlt (by rw [hgb]; exact hasc)
          rw [hgb] at hdec
          rw [hdec]
          simp only
          by_cases hsp : s.get! pos = 32
          · have : spP (s.get! pos).toNat = true := by rw [hsp]; rfl
            rw [if_pos this]
            cases st with
            | none =>
              simp only
              rw [aI s f (pos + 1) none acc (by omega) (by omega) (by simp), hd, hsp]
              simp only [curL]
              rw [xS]
            | some a =>
              simp only
              rw [aI s f (pos + 1) none _ (by omega) (by omega) (by simp), hd, hsp]
              simp only [curL]
              rw [wl, if_pos rfl, if_neg (iI s (hst a rfl) hp), List.map_append, List.append_assoc]
              rfl
          · have : ¬ spP (s.get! pos).toNat = true := by
              unfold spP
              simp
              intro e
              exact hsp (UInt8.toNat_inj.1 (by rw [e]; rfl))
            rw [if_neg this]
            have hone : extL s (pos, pos + 1) = [s.get! pos] := by
              unfold extL
              simp only
              rw [jk hg, List.drop_append_of_le_length (by rw [List.length_take]; omega), List.drop_of_length_le (by rw [List.length_take]; omega)]
              rfl
            cases st with
            | none =>
              simp only
              rw [aI s f (pos + 1) (some pos) acc (by omega) (by omega) (by simp), hd]
              simp only [curL]
              rw [wl, if_neg hsp, hone]
              rfl
            | some a =>
              have ha := hst a rfl
              simp only
              rw [aI s f (pos + 1) (some a) acc (by omega) (by omega) (by simp; omega), hd]
              simp only [curL]
              rw [wl, if_neg hsp, iQ s (show a ≤ pos by omega) (show pos ≤ pos + 1 by omega), hone]
        · have hh := decode_high s pos hlt (by rw [hgb]; omega)
          have hcont := fun k => vT (s := s) pos k
          generalize Utf8.decode s pos = D at hh hcont
          obtain ⟨r, n⟩ := D
          simp only at hh hcont ⊢
          have hn : pos + n ≤ s.size := by
            by_cases h1 : n = 1
            · omega
            · have := (hcont (n - 1) (by omega) (by omega)).1
              omega
          have hns : ¬ spP r = true := by unfold spP; simp; omega
          rw [if_neg hns]
          have hsplit : s.data.toList.drop pos = extL s (pos, pos + n) ++ s.data.toList.drop (pos + n) := by
            unfold extL
            simp only
            conv => lhs; rw [← List.take_append_drop n (s.data.toList.drop pos)]
            rw [List.drop_drop, List.drop_take]
            congr 2
            omega
          have hno : ∀ c ∈ extL s (pos, pos + n), c ≠ 32 := fun c hc => by
            obtain ⟨k, hk⟩ := List.getElem?_of_mem hc
            unfold extL at hk
            simp only at hk
            rw [List.getElem?_drop, List.getElem?_take] at hk
            split at hk
            · rename_i hkn
              have hkn2 : pos + k < pos + n := hkn
              have hb : 128 ≤ (s.get! (pos + k)).toNat := by
                by_cases h0 : k = 0
                · rw [h0, Nat.add_zero]; omega
                · exact (hcont k (by omega) (by omega)).2
              rw [rI (i := pos + k) (by omega)] at hk
              injection hk with hk
              rintro rfl
              rw [hk] at hb
              exact absurd hb (by decide)
            · cases hk
          cases st with
          | none =>
            simp only
            rw [aI s f (pos + n) (some pos) acc (by omega) hn (by simp; omega), hsplit]
            simp only [curL]
            rw [nQ _ _ _ hno]
            rfl
          | some a =>
            have ha := hst a rfl
            simp only
            rw [aI s f (pos + n) (some a) acc (by omega) hn (by simp; omega), hsplit]
            simp only [curL]
            rw [nQ _ _ _ hno, iQ s (show a ≤ pos by omega) (show pos ≤ pos + n by omega)]
    · rw [Lib.spansFromP_end _ _ _ _ _ _ hlt]
      exact hend (by omega)
theorem oA (s : ByteArray) : Lib.goFieldsP spP s = (yP s.data.toList).map fun w => ⟨w.toArray⟩ := by
  have h := aI s s.size 0 none [] (by omega) (by omega) (by simp)
  simp only [List.map_nil, List.nil_append, curL, List.drop_zero] at h
  have h2 : yP s.data.toList = (Lib.spansOfP spP s).map (extL s) := h.symm
  rw [h2]
  unfold Lib.goFieldsP
  rw [List.map_map]
  refine List.map_congr_left fun x _ => ?_
  show s.extract x.1 x.2 = ⟨(extL s x).toArray⟩
  unfold extL
  have e : (s.extract x.1 x.2).data.toList = (s.data.toList.take x.2).drop x.1 := by
    rw [ByteArray.data_extract, Array.toList_extract, List.extract_eq_take_drop, List.drop_take]
  rw [← e]
end Go.Proofs.YtjamibeffalhaaaGreatDoor
namespace Go.Proofs.YtjamibeffalhaaaGreatDoor
open Go Go.RowKit
/-- The parts between the bytes c, behind a part that is begun. -/
def qB (c : UInt8) : List UInt8 → List UInt8 → List (List UInt8)
  | cur, [] => [cur]
  | cur, x :: l => if x = c then cur :: qB c [] l else qB c (cur ++ [x]) l
theorem dC (c : UInt8) : ∀ (bs cur l : List UInt8), (∀ x ∈ bs, x ≠ c) → qB c cur (bs ++ l) = qB c (cur ++ bs) l
  | [], cur, l, _ => by simp
  | b :: bs, cur, l, h => by
    rw [List.cons_append, qB, if_neg (h b (by simp)), dC c bs _ l (fun x hx => h x (by simp [hx]))]
    simp
theorem sG (c : UInt8) {p r cur : List UInt8} (h : c ∉ p) : qB c cur (p ++ c :: r) = (cur ++ p) :: qB c [] r := by
  rw [dC c p cur _ (fun x hx e => h (e ▸ hx)), qB, if_pos rfl]
theorem pJ (c : UInt8) {p cur : List UInt8} (h : c ∉ p) : qB c cur p = [cur ++ p] := by
  have := dC c p cur [] (fun x hx e => h (e ▸ hx))
  rw [List.append_nil] at this
  rw [this]; rfl
theorem oM (c : UInt8) : ∀ (p r : List UInt8), c ∉ p → Lib.index (p ++ c :: r) [c] = (p.length : Int)
  | [], r, _ => by simp [Lib.index, List.isPrefixOf]
  | x :: p, r, h => by
    have hx : (c == x) = false := by
      rw [beq_eq_false_iff_ne]
      exact fun e => h (by simp [e])
    rw [List.cons_append, Lib.index]
    have hp : List.isPrefixOf [c] (x :: (p ++ c :: r)) = false := by simp [List.isPrefixOf, hx]
    rw [hp, oM c p r (fun e => h (by simp [e]))]
    simp
theorem uR (c : UInt8) {l : List UInt8} (h : c ∈ l) : ∃ p r, l = p ++ c :: r ∧ c ∉ p := by
  induction l with
  | nil => simp at h
  | cons x l ih =>
    by_cases hx : x = c
    · exact ⟨[], l, by simp [hx], by simp⟩
    · rcases List.mem_cons.1 h with h | h
      · exact absurd h.symm hx
      · obtain ⟨p, r, e, hp⟩ := ih h
        exact ⟨x :: p, r, by simp [e], by simp [hp, Ne.symm hx]⟩
theorem pB (c : UInt8) : ∀ (k : Nat) (l : List UInt8), l.count c = k → Lib.splitK [c] 0 k l = qB c [] l
  | 0, l, h => by
    rw [pJ c (List.count_eq_zero.1 h)]
    rfl
  | k + 1, l, h => by
    obtain ⟨p, r, rfl, hp⟩ := uR c (List.count_pos_iff.1 (by rw [h]; omega))
    have hr : r.count c = k := by
      rw [List.count_append, List.count_cons_self, List.count_eq_zero.2 hp] at h
      omega
    rw [sG c hp, ← pB c k r hr]
    have hne : ((p.length : Int) == -1) = false := by rw [beq_eq_false_iff_ne]; omega
    show (if (Lib.index (p ++ c :: r) [c] == -1) = true then [p ++ c :: r] else (p ++ c :: r).take ((Lib.index (p ++ c :: r) [c]).toNat + 0) :: Lib.splitK [c] 0 k ((p ++ c :: r).drop ((Lib.index (p ++ c :: r) [c]).toNat + 1))) = _
    rw [oM c p r hp, hne]
    simp [List.drop_append]
    rw [List.drop_of_length_le (Nat.le_succ _), List.nil_append]
theorem pE (s : ByteArray) (c : UInt8) : (Lib.splitB ⟨#[c]⟩ 0 (Lib.countB s ⟨#[c]⟩) s) = (qB c [] s.data.toList).map fun l => ⟨l.toArray⟩ := by
  have h := Lib.splitB_data ⟨#[c]⟩ 0 (Lib.countB s ⟨#[c]⟩) s
  have hc : Lib.countB s ⟨#[c]⟩ = s.data.toList.count c := Lib.count_one c _
  rw [show (ByteArray.mk #[c]).data.toList = [c] from rfl, pB c _ _ hc.symm] at h
  rw [← h, List.map_map]
  conv => lhs; rw [← List.map_id (Lib.splitB _ _ _ _)]
  rfl
theorem countB_L (s : ByteArray) (c : UInt8) : Lib.countB s ⟨#[c]⟩ + 1 = (qB c [] s.data.toList).length := by
  have h := Lib.splitB_all ⟨#[c]⟩ (Nat.le_refl 1) 0 _ s rfl
  rw [pE, List.length_map] at h
  exact h.symm
/-- The lines of a text that ends with a line feed, as they come. -/
def ll : List UInt8 → List UInt8 → List (List UInt8)
  | _, [] => []
  | cur, c :: l => if c = 10 then cur :: ll [] l else ll (cur ++ [c]) l
theorem kV : ∀ (l cur : List UInt8), ll cur (l ++ [10]) = qB 10 cur l
  | [], cur => by simp [ll, qB]
  | c :: l, cur => by
    rw [List.cons_append, ll, qB]
    split
    · rw [kV l []]
    · rw [kV l _]
def okB (c : UInt8) : Bool := c == 10 || (decide (32 ≤ c.toNat) && decide (c.toNat ≤ 126))
/-- The lines of a text, if it is one. -/
def qC (l : List UInt8) : Option (List (List UInt8)) :=
  if l = [] then some []
  else if 65536 < l.length ∨ l.getLast? ≠ some 10 then none
  else if l.all okB = true then some (ll [] l) else none
end Go.Proofs.YtjamibeffalhaaaGreatDoor
namespace Go.Proofs.YtjamibeffalhaaaGreatDoor
open Go Go.RowKit Go.Sort
set_option maxRecDepth 10000
variable {G : Nat → Option (List Value)}
def strL (l : List UInt8) : ByteArray := ⟨l.toArray⟩
def svL (l : List UInt8) : AV := .v (.string (strL l))
theorem yy (l : List UInt8) : (strL l).data.toList = l := by simp [strL]
theorem zy (l : List UInt8) : (strL l).size = l.length := by simp [strL, ByteArray.size]
def GMax (G : Nat → Option (List Value)) : Prop := ∃ m us, G 1 = some (.int .i64 m :: us)
/-- What a call of the library gives back: a new row of strings. -/
theorem iA {P : Program} {f : FuncId} {args : List AV} {L : List (List UInt8)} (he : cX P f) (hl : L.length ≤ maxLen)
    (h : ∀ M w (vs : List Value), aY M w → (∀ g us, G g = some us → M g = some ⟨us⟩) → vs.length = args.length → (∀ (j : Nat) (x : AV) (u : Value), args[j]? = some x → vs[j]? = some u → Rep M (refρ []) x u) →
      Calls P f ⟨vs⟩ w (fun e w' => Below w.heap.size w w' ∧ ∃ A cur t fr, e = .returned (.slice (some ⟨A, 0, none⟩) L.length L.length) ∧ w.heap.size ≤ A ∧ w'.heap[A]? = some (.cells ⟨cur⟩ t fr) ∧ ∀ (j : Nat) (x : List UInt8), L[j]? = some x → cur[j]? = some (.string (strL x)))) :
    zz P G f args [] (.sl 1 (L.map svL)) [] := by
  refine ⟨he, fun M w gs us hlv hG hnd hr hv hrep => ?_⟩
  have hgs : gs = [] := List.eq_nil_of_length_eq_zero hr.len
  subst hgs
  refine (h M w us hlv hG hv hrep).mono ?_
  rintro en w' ⟨hb, A, cur, t, fr, rfl, hA, hh, hc⟩
  have hMA : M A = none := by
    cases hq : M A with
    | none => rfl
    | some arr =>
      obtain ⟨t', fr', h1⟩ := hlv A arr hq
      have := (Array.getElem?_eq_some_iff.1 h1).1
      omega
  have hmono : ∀ g a, M g = some a → updM M A ⟨cur⟩ g = some a := gC hMA
  have hself : updM M A ⟨cur⟩ A = some ⟨cur⟩ := by simp [updM]
  refine ⟨_, updM M A ⟨cur⟩, [], rfl, hmono, fun g arr e => ?_, hb.os, hb.tape, hb.output, hb.size, fun g hg _ => hb.block g hg, fun g hg e => ?_, by simp, by simp, ⟨rfl, by simp⟩, ?_⟩
  · by_cases hg : g = A
    · subst hg
      rw [hself] at e
      injection e with e
      subst e
      exact ⟨t, fr, hh⟩
    · unfold updM at e
      rw [if_neg hg] at e
      obtain ⟨t', fr', h1⟩ := hlv g arr e
      exact ⟨t', fr', (hb.block g (Array.getElem?_eq_some_iff.1 h1).1).trans h1⟩
  · unfold updM
    rw [if_neg (by omega)]
    exact e
  · have key : Rep (updM M A ⟨cur⟩) (refρ []) (.sl 1 (L.map svL)) (.slice (some ⟨A, 0, none⟩) (L.map svL).length L.length) := by
      refine .sl _ 1 _ _ _ (fun k _ => ((L[k]?).map fun x => Value.string (strL x)).getD undef) (by simp) hl (fun k x j y hk hy => ?_) (fun k x hk => ?_)
      · rw [List.getElem?_map] at hk
        cases hx : L[k]? with
        | none => rw [hx] at hk; cases hk
        | some z =>
          rw [hx] at hk
          injection hk with hk
          subst hk
          match j, hy with
          | 0, hy => injection hy with hy; subst hy; exact .v _ _
      · rw [List.getElem?_map] at hk
        cases hx : L[k]? with
        | none => rw [hx] at hk; cases hk
        | some z =>
          rw [hx] at hk
          injection hk with hk
          subst hk
          refine ⟨rfl, A, 0, ⟨cur⟩, rfl, hself, fun j hj => ?_⟩
          obtain rfl : j = 0 := by omega
          have := hc k z hx
          simpa using this
    rw [List.length_map] at key
    exact key
theorem wF {M : Nat → Option (Array Value)} {s t : Value} {vs : List Value} (hv : vs.length = 2) (h : ∀ (j : Nat) (x : AV) (u : Value), [AV.v s, AV.v t][j]? = some x → vs[j]? = some u → Rep M (refρ []) x u) : vs = [s, t] := by
  match vs, hv with
  | [u, v], _ =>
    have h1 := (h 0 _ u rfl rfl).v_inv
    have h2 := (h 1 _ v rfl rfl).v_inv
    rw [h1, h2]
/-- strings.Split at one byte. -/
theorem split_A (s : ByteArray) (c : UInt8) (hG : GMax G) (hs : s.size < 4294967281) : zz Tryz.prog G 78 [.v (.string s), .v (.string ⟨#[c]⟩)] [] (.sl 1 ((qB c [] s.data.toList).map svL)) [] := by
  have hc := countB_L s c
  have hle := Lib.countB_le ⟨#[c]⟩ (Nat.le_refl 1) s.size s (Nat.le_refl _)
  refine iA (zc Tryz.func78 (by kernel_rfl) rfl) (by rw [← hc]; unfold maxLen; omega) fun M w vs hl hGM hv hrep => ?_
  obtain rfl := wF hv hrep
  obtain ⟨m, us, hg⟩ := hG
  obtain ⟨t, fr, hh⟩ := hl _ _ (hGM _ _ hg)
  refine (Tryz.strings_Split s ⟨#[c]⟩ m w hs (by rw [cell_of_row w _ 0 _ t fr hh]; rfl) (Nat.le_refl 1)).mono ?_
  rintro e w' ⟨rfl, rfl⟩
  refine ⟨⟨rfl, rfl, rfl, by simp, fun g hg => Below.heap_alloc w _ g hg⟩, w.heap.size, (Lib.splitB ⟨#[c]⟩ 0 (Lib.countB s ⟨#[c]⟩) s).map Value.string, _, (0, 0), by rw [hc], Nat.le_refl _, heap_alloc_new w _, fun j x hx => ?_⟩
  rw [pE, List.map_map, List.getElem?_map, hx]
  rfl
/-- strings.FieldsFunc at spaces. -/
theorem space_A (r : Int) : zz Tryz.prog G 84 [.v (.int .i32 r)] [] (.v (.bool (r == 32))) [] := by
  refine zb tbOk (zc Tryz.func84 (by kernel_rfl) rfl) Tryz.func84 rfl _ Tryz.ntmps84 (Nat.le_of_ble_eq_true rfl) fun X hX => ?_
  subst hX
  repeat (first | ((with_reducible refine zK ?_); refine zJ rfl ?_) | ((with_reducible refine zE ?_); refine zF rfl ?_) | ((with_reducible refine zQ ?_); refine zT rfl rfl rfl ?_)  | refine zL ?_ | refine zB rfl ?_ | with_reducible (first | refine zG ?_ | refine zH ?_ | refine zN ?_) | ((with_reducible refine zA ?_ ?_); kernel_rfl))
  refine zm (by first | exact .inr rfl | exact .inl rfl) rfl rfl ?_
  rfl
theorem wN (s : ByteArray) (hs : s.size ≤ 4294967296) : zz Tryz.prog G 83 [.v (.string s), .fn 84 []] [] (.sl 1 ((yP s.data.toList).map svL)) [] := by
  have hfw := oA s
  have hlen : (Lib.goFieldsP spP s).length = (yP s.data.toList).length := by rw [hfw, List.length_map]
  have hcnt := jn (l := s.data.toList) (cur := [])
  have hz : s.size = s.data.toList.length := by simp
  refine iA (zc Tryz.func83 (by kernel_rfl) rfl) (by unfold maxLen; show (wl [] s.data.toList).length ≤ _; omega) fun M w vs hl hGM hv hrep => ?_
  match vs, hv with
  | [u, v], _ =>
    have h1 := (hrep 0 _ u rfl rfl).v_inv
    subst h1
    have h2 := hrep 1 _ v rfl rfl
    cases h2 with
    | fn _ _ _ vs0 hl0 _ =>
      obtain rfl : vs0 = [] := List.eq_nil_of_length_eq_zero (by simpa using hl0)
      refine (Tryz.strings_FieldsFunc_grows 84 ⟨[]⟩ (zc Tryz.func84 (by kernel_rfl) rfl) spP s w hs (fun W x hx hb => ?_)).mono ?_
      · have hc := space_A (G := fun _ => none) (x : Int)
        refine (hc.2 (fun _ => none) W [] [.int .i32 x] (fun g a e => by cases e) (fun g us e => by cases e) (by simp) ⟨rfl, by simp⟩ rfl (fun j y u a b => ?_)).mono ?_
        · match j, a, b with
          | 0, a, b => cases a; cases b; exact .v _ _
        · rintro e w' ⟨u, M', gs', rfl, -, -, q1, q2, q3, q4, q5, -, -, -, -, q6⟩
          have := q6.v_inv
          subst this
          refine ⟨?_, q1, q2, q3, q4, fun g hg => q5 g hg (by simp)⟩
          have : ((x : Int) == 32) = spP x := by
            unfold spP
            rw [Bool.eq_iff_iff]
            simp
            omega
          rw [this]
      · rintro e w' ⟨A, rfl, hA, hown, hb⟩
        obtain ⟨-, h3⟩ := hown
        rcases h3 with ⟨h3, -⟩ | ⟨g, cap, cur, h3, h4, h5, h6, h7, h8, h9⟩
        · cases h3
        · injection h3 with h3
          injection h3 with h3
          injection h3 with h3
          subst h3
          obtain ⟨cl⟩ := cur
          refine ⟨hb, A, cl, _, (0, 0), by rw [hlen], hA, h5, fun j x hx => ?_⟩
          have h9' : cl.take ((Lib.goFieldsP spP s).length * 1) = (Lib.goFieldsP spP s).map Value.string := h9
          have hj : ((Lib.goFieldsP spP s).map Value.string)[j]? = some (.string (strL x)) := by
            rw [hfw, List.map_map, List.getElem?_map, hx]; rfl
          rw [← h9', List.getElem?_take] at hj
          split at hj
          · exact hj
          · cases hj
/-- strings.Join. -/
theorem vP (L : List (List UInt8)) (c : UInt8) (hn : L.length ≤ 140737488355328) (hs : (Lib.join L [c]).length ≤ 140737488355328) : zz Tryz.prog G 58 [.sl 1 (L.map svL), .v (.string ⟨#[c]⟩)] [] (svL (Lib.join L [c])) [] := by
  refine ⟨zc Tryz.func58 (by kernel_rfl) rfl, fun M w gs us hl hG hnd hr hv hrep => ?_⟩
  have hgs : gs = [] := List.eq_nil_of_length_eq_zero hr.len
  subst hgs
  have fin : ∀ e w', e = .returned (.string (strL (Lib.join L [c]))) → Below w.heap.size w w' → fA M w [] (svL (Lib.join L [c])) [] e w' := fun e w' he hb =>
    ⟨_, M, [], he, fun _ _ e => e, fun g arr e => by
      obtain ⟨t, fr, h1⟩ := hl g arr e
      exact ⟨t, fr, (hb.block g (Array.getElem?_eq_some_iff.1 h1).1).trans h1⟩, hb.os, hb.tape, hb.output, hb.size, fun g hg _ => hb.block g hg, fun g _ e => e, by simp, by simp, ⟨rfl, by simp⟩, .v _ _⟩
  match us, hv with
  | [u, v], _ =>
    have h2 := (hrep 1 _ v rfl rfl).v_inv
    subst h2
    have h1 := hrep 0 _ u rfl rfl
    obtain ⟨A, cp, vs, rfl, e2, e2', e3, e4⟩ := h1.sl_inv
    rw [List.length_map] at e2
    rw [List.length_map]
    by_cases h0 : L = []
    · subst h0
      refine (Tryz.strings_Join_none A cp ⟨#[c]⟩ w).mono ?_
      rintro e w' ⟨rfl, rfl⟩
      exact fin _ _ rfl (Below.refl _ _)
    · obtain ⟨x0, hx0⟩ := zd (L := L) (k := 0) (by have := List.length_pos_iff.2 h0; omega)
      obtain ⟨-, b, o, arr, rfl, f3, f4⟩ := e4 0 (svL x0) (by rw [List.getElem?_map, hx0]; rfl)
      obtain ⟨t, fr, hh⟩ := hl b arr f3
      have hmap : (L.map strL).map (·.data.toList) = L := by
        rw [List.map_map]
        conv => rhs; rw [← List.map_id L]
        exact List.map_congr_left fun x _ => yy x
      have := Tryz.strings_Join b o cp (L.map strL) ⟨#[c]⟩ w (fun j x hx => ?_) (Array.getElem?_eq_some_iff.1 hh).1 (by simpa using hn) (by simpa using e2) (by rw [hmap]; exact hs)
      · rw [List.length_map, hmap] at this
        refine this.mono ?_
        rintro e w' ⟨rfl, hb⟩
        exact fin _ _ rfl hb
      · rw [List.getElem?_map] at hx
        cases hy : L[j]? with
        | none => rw [hy] at hx; cases hx
        | some y =>
          rw [hy] at hx
          injection hx with hx
          subst hx
          have hs : (L.map svL)[j]? = some (svL y) := by rw [List.getElem?_map, hy]; rfl
          obtain ⟨-, b', o', arr', hA, g3, g4⟩ := e4 j (svL y) hs
          injection hA with hA
          injection hA with ha hb
          subst ha; subst hb
          rw [f3] at g3
          injection g3 with g3
          subst g3
          have h6 := g4 0 (by omega)
          rw [Nat.mul_one, Nat.add_zero] at h6
          rw [cell_of_row w b (o + j) arr t fr hh, h6]
          have := (e3 j (svL y) 0 _ hs rfl).v_inv
          rw [this]
end Go.Proofs.YtjamibeffalhaaaGreatDoor
namespace Go.Proofs.YtjamibeffalhaaaGreatDoor
open Go Go.RowKit
def gE : List (Int × Int × Bool) := [(65, 90, true), (97, 122, true), (48, 57, false), (95, 95, false)]
def eP : List (Int × Int × Bool) → Int → Bool → Bool
  | [], _, _ => false
  | (lo, hi, fs) :: r, b, f => if lo ≤ b ∧ b ≤ hi then (fs || !f) else eP r b f
def fK (b : Int) (f : Bool) : Bool := eP gE b f
def qN : List UInt8 → Bool → Bool
  | [], _ => true
  | c :: r, f => fK c.toNat f && qN r false
def jd (l : List UInt8) : Bool := qN l true && decide (1 ≤ l.length) && decide (l.length ≤ 12)
def qX (b : Int) : Bool := (decide (65 ≤ b) && decide (b ≤ 90)) || (decide (97 ≤ b) && decide (b ≤ 122))
def iR (b : Int) : Bool := decide (48 ≤ b) && decide (b ≤ 57)
def cG (b : Int) : Bool := qX b || iR b || b == 95
def qf : List UInt8 → Bool
  | [] => true
  | c :: r => cG c.toNat && qf r
def cK (l : List UInt8) : Bool := match l with
  | [] => false
  | c :: r => decide ((c :: r).length ≤ 12) && qX c.toNat && qf (c :: r)
theorem rT (b : Int) : fK b true = qX b := by
  unfold fK gE qX
  simp only [eP]
  by_cases h1 : 65 ≤ b ∧ b ≤ 90
  · simp [h1]
  · by_cases h2 : 97 ≤ b ∧ b ≤ 122
    · simp [h2]
    · have e1 : (decide (65 ≤ b) && decide (b ≤ 90)) = false := by simp; omega
      have e2 : (decide (97 ≤ b) && decide (b ≤ 122)) = false := by simp; omega
      rw [e1, e2, if_neg h1, if_neg h2]
      by_cases h3 : 48 ≤ b ∧ b ≤ 57
      · rw [if_pos h3]; rfl
      · rw [if_neg h3]
        by_cases h4 : 95 ≤ b ∧ b ≤ 95
        · rw [if_pos h4]; rfl
        · rw [if_neg h4]; rfl
theorem sA (b : Int) : fK b false = cG b := by
  unfold fK gE cG qX iR
  simp only [eP]
  by_cases h1 : 65 ≤ b ∧ b ≤ 90
  · simp [h1]
  · by_cases h2 : 97 ≤ b ∧ b ≤ 122
    · simp [h2]
    · have e1 : (decide (65 ≤ b) && decide (b ≤ 90)) = false := by simp; omega
      have e2 : (decide (97 ≤ b) && decide (b ≤ 122)) = false := by simp; omega
      rw [e1, e2, if_neg h1, if_neg h2]
      by_cases h3 : 48 ≤ b ∧ b ≤ 57
      · simp [h3]
      · have e3 : (decide (48 ≤ b) && decide (b ≤ 57)) = false := by simp; omega
        rw [if_neg h3, e3]
        by_cases h4 : b = 95
        · simp [h4]
        · rw [if_neg (by omega)]
          simp [h4]
theorem dX : ∀ l : List UInt8, qN l false = qf l
  | [] => rfl
  | c :: r => by rw [qN, qf, sA, dX r]
theorem pL {b : Int} (h : qX b = true) : cG b = true := by simp [cG, h]
theorem oF (l : List UInt8) : cK l = jd l := by
  cases l with
  | nil => rfl
  | cons c r =>
    unfold cK jd
    have e : qf (c :: r) = (cG c.toNat && qf r) := rfl
    dsimp only
    rw [qN, rT, dX, e]
    cases hl : qX c.toNat with
    | false => simp
    | true =>
      rw [pL hl]
      simp
      rw [Bool.and_comm]
end Go.Proofs.YtjamibeffalhaaaGreatDoor
