/- Lines, by plain functions on bytes; nothing of the program stands here. -/
import Derived.Test.YtggagmafkdhjcaaGreatDoorWdP
import Derived.Lib.Split
set_option linter.unusedVariables false
set_option linter.unusedSimpArgs false
namespace Go.Proofs.YtggagmafkdhjcaaGreatDoor
open Go Go.RowKit
/-- The parts between the bytes c, behind a part that is begun. -/
def jo (c : UInt8) : List UInt8 → List UInt8 → List (List UInt8)
  | cur, [] => [cur]
  | cur, x :: l => if x = c then cur :: jo c [] l else jo c (cur ++ [x]) l
theorem aO (c : UInt8) : ∀ (bs cur l : List UInt8), (∀ x ∈ bs, x ≠ c) → jo c cur (bs ++ l) = jo c (cur ++ bs) l
  | [], cur, l, _ => by simp
  | b :: bs, cur, l, h => by
    rw [List.cons_append, jo, if_neg (h b (by simp)), aO c bs _ l (fun x hx => h x (by simp [hx]))]
    simp
theorem nA (c : UInt8) {p r cur : List UInt8} (h : c ∉ p) : jo c cur (p ++ c :: r) = (cur ++ p) :: jo c [] r := by
  rw [aO c p cur _ (fun x hx e => h (e ▸ hx)), jo, if_pos rfl]
theorem kQ (c : UInt8) {p cur : List UInt8} (h : c ∉ p) : jo c cur p = [cur ++ p] := by
  have := aO c p cur [] (fun x hx e => h (e ▸ hx))
  rw [List.append_nil] at this
  rw [this]; rfl
theorem kS (c : UInt8) : ∀ (p r : List UInt8), c ∉ p → Lib.index (p ++ c :: r) [c] = (p.length : Int)
  | [], r, _ => by simp [Lib.index, List.isPrefixOf]
  | x :: p, r, h => by
    have hx : (c == x) = false := by
      rw [beq_eq_false_iff_ne]
      exact fun e => h (by simp [e])
    rw [List.cons_append, Lib.index]
    have hp : List.isPrefixOf [c] (x :: (p ++ c :: r)) = false := by simp [List.isPrefixOf, hx]
    rw [hp, kS c p r (fun e => h (by simp [e]))]
    simp
theorem oP (c : UInt8) {l : List UInt8} (h : c ∈ l) : ∃ p r, l = p ++ c :: r ∧ c ∉ p := by
  induction l with
  | nil => simp at h
  | cons x l ih =>
    by_cases hx : x = c
    · exact ⟨[], l, by simp [hx], by simp⟩
    · rcases List.mem_cons.1 h with h | h
      · exact absurd h.symm hx
      · obtain ⟨p, r, e, hp⟩ := ih h
        exact ⟨x :: p, r, by simp [e], by simp [hp, Ne.symm hx]⟩
theorem iS (c : UInt8) : ∀ (k : Nat) (l : List UInt8), l.count c = k → Lib.splitK [c] 0 k l = jo c [] l
  | 0, l, h => by
    rw [kQ c (List.count_eq_zero.1 h)]
    rfl
  | k + 1, l, h => by
    obtain ⟨p, r, rfl, hp⟩ := oP c (List.count_pos_iff.1 (by rw [h]; omega))
    have hr : r.count c = k := by
      rw [List.count_append, List.count_cons_self, List.count_eq_zero.2 hp] at h
      omega
    rw [nA c hp, ← iS c k r hr]
    have hne : ((p.length : Int) == -1) = false := by rw [beq_eq_false_iff_ne]; omega
    show (if (Lib.index (p ++ c :: r) [c] == -1) = true then [p ++ c :: r] else (p ++ c :: r).take ((Lib.index (p ++ c :: r) [c]).toNat + 0) :: Lib.splitK [c] 0 k ((p ++ c :: r).drop ((Lib.index (p ++ c :: r) [c]).toNat + 1))) = _
    rw [kS c p r hp, hne]
    simp [List.drop_append]
    rw [List.drop_of_length_le (Nat.le_succ _), List.nil_append]
theorem lU (s : ByteArray) (c : UInt8) : (Lib.splitB ⟨#[c]⟩ 0 (Lib.countB s ⟨#[c]⟩) s) = (jo c [] s.data.toList).map fun l => ⟨l.toArray⟩ := by
  have h := Lib.splitB_data ⟨#[c]⟩ 0 (Lib.countB s ⟨#[c]⟩) s
  have hc : Lib.countB s ⟨#[c]⟩ = s.data.toList.count c := Lib.count_one c _
  rw [show (ByteArray.mk #[c]).data.toList = [c] from rfl, iS c _ _ hc.symm] at h
  rw [← h, List.map_map]
  conv => lhs; rw [← List.map_id (Lib.splitB _ _ _ _)]
  rfl
theorem sV (s : ByteArray) (c : UInt8) : Lib.countB s ⟨#[c]⟩ + 1 = (jo c [] s.data.toList).length := by
  have h := Lib.splitB_all ⟨#[c]⟩ (Nat.le_refl 1) 0 _ s rfl
  rw [lU, List.length_map] at h
  exact h.symm
/-- The lines of a text that ends with a line feed, as they come. -/
def ll : List UInt8 → List UInt8 → List (List UInt8)
  | _, [] => []
  | cur, c :: l => if c = 10 then cur :: ll [] l else ll (cur ++ [c]) l
theorem eM : ∀ (l cur : List UInt8), ll cur (l ++ [10]) = jo 10 cur l
  | [], cur => by simp [ll, jo]
  | c :: l, cur => by
    rw [List.cons_append, ll, jo]
    split
    · rw [eM l []]
    · rw [eM l _]
def okB (c : UInt8) : Bool := c == 10 || (decide (32 ≤ c.toNat) && decide (c.toNat ≤ 126))
/-- The lines of a text, if it is one. -/
def jy (l : List UInt8) : Option (List (List UInt8)) :=
  if l = [] then some []
  else if 65536 < l.length ∨ l.getLast? ≠ some 10 then none
  else if l.all okB = true then some (ll [] l) else none
end Go.Proofs.YtggagmafkdhjcaaGreatDoor
