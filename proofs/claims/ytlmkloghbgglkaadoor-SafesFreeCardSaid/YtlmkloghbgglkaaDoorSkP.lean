/- Safes that somebody has locked keep their keys, whatever others put, take, fix or release; and safes whose people have all released can be emptied; by plain functions; nothing of the program stands here. -/
import Derived.Test.YtlmkloghbgglkaaDoorSbP
set_option linter.unusedVariables false
set_option linter.unusedSimpArgs false
namespace Go.Proofs.YtlmkloghbgglkaaDoor
open Go Go.RowKit
def nZ9 : ByteArray := ⟨#[90, 57]⟩
/-- One safe has number n, keys K and is locked by somebody whose name is no other's; everything is valid. -/
structure Kept (n : Int) (K : List Int) (L : List Sf) (j : Nat) (s : Sf) : Prop where
  chk : chkS L = 0
  at_ : L[j]? = some s
  num : s.num = n
  keys : s.keys = K
  lock : nZ9 ∈ s.locked
  mx : ∀ x ∈ L, SfMax x
  k3 : ∀ x ∈ L, x.keys.length ≤ 3
theorem Kept.find {n : Int} {K : List Int} {L : List Sf} {j : Nat} {s : Sf} (h : Kept n K L j s) : findS L n = j ∧ atS L n = s := find_uniq h.chk h.at_ h.num
theorem Kept.open_ {n : Int} {K : List Int} {L : List Sf} {j : Nat} {s : Sf} (h : Kept n K L j s) : openE L n = 41 := by
  obtain ⟨f1, f2⟩ := h.find
  unfold openE
  rw [if_neg (by simp [h.chk]), if_neg (by rw [f1]; omega), f2, if_pos (fun e => by have := h.lock; rw [e] at this; simp at this)]
theorem Kept.put {n : Int} {K : List Int} {L : List Sf} {j : Nat} {s : Sf} (h : Kept n K L j s) (k : Int) : putS L n k = ([], 41) := by
  unfold putS; rw [if_pos (by rw [h.open_]; decide), h.open_]
theorem Kept.take {n : Int} {K : List Int} {L : List Sf} {j : Nat} {s : Sf} (h : Kept n K L j s) (k : Int) : takeS L n k = ([], 41) := by
  unfold takeS; rw [if_pos (by rw [h.open_]; decide), h.open_]
theorem Kept.lkd {n : Int} {K : List Int} {L : List Sf} {j : Nat} {s : Sf} (h : Kept n K L j s) : lkS L n nZ9 = true := by
  unfold lkS
  rw [if_neg (by simp [h.chk]), List.any_eq_true]
  exact ⟨s, List.mem_of_getElem? h.at_, by simp [h.num, hasS_iff.2 h.lock]⟩
theorem Kept.len {n : Int} {K : List Int} {L : List Sf} {j : Nat} {s : Sf} (h : Kept n K L j s) : L.length ≤ 16 := ((chkS_iff L).1 h.chk).1
theorem Kept.fix {n : Int} {K : List Int} {L : List Sf} {j : Nat} {s : Sf} (h : Kept n K L j s) {m : ByteArray} (hm : m.size ≤ maxLen) (e : (fixS L n m).2 = 0) : ∃ s', Kept n K (fixS L n m).1 j s' := by
  obtain ⟨i, -, hf, hx, hn, hno, e1, hc⟩ := fixS_ok e
  obtain ⟨f1, f2⟩ := h.find
  obtain rfl : i = j := by omega
  have hok := ((chkS_iff L).1 h.chk).2.1 _ (List.mem_of_getElem? h.at_)
  rw [e1] at hc ⊢
  rw [f2] at hc ⊢
  refine ⟨_, ⟨hc, set_at' h.at_, rfl, h.keys, insG_mem.2 (.inr h.lock), fun x hx' => ?_, fun x hx' => (List.mem_or_eq_of_mem_set hx').elim (fun h1 => h.k3 x h1) (fun h1 => by subst h1; exact h.k3 s (List.mem_of_getElem? h.at_))⟩⟩
  rcases List.mem_or_eq_of_mem_set hx' with h1 | rfl
  · exact h.mx x h1
  · obtain ⟨a, b, c⟩ := h.mx _ (List.mem_of_getElem? h.at_)
    have := hok.len
    refine ⟨a, by show (insG strLt m s.locked).length ≤ 900; rw [insG_len]; omega, fun z hz => ?_⟩
    rcases insG_mem.1 hz with rfl | hz
    · exact hm
    · exact c z hz
theorem Kept.rel {n : Int} {K : List Int} {L : List Sf} {j : Nat} {s : Sf} (h : Kept n K L j s) {m : ByteArray} (hm : m ≠ nZ9) (e : (relS L n m).2 = 0) : ∃ s', Kept n K (relS L n m).1 j s' := by
  obtain ⟨i, -, hf, hx, hn, hno, e1, hc⟩ := relS_ok e
  obtain ⟨f1, f2⟩ := h.find
  obtain rfl : i = j := by omega
  have hok := ((chkS_iff L).1 h.chk).2.1 _ (List.mem_of_getElem? h.at_)
  rw [e1] at hc ⊢
  rw [f2] at hc hno ⊢
  refine ⟨_, ⟨hc, set_at' h.at_, rfl, h.keys, (delG_mem strLt_ord hok.nasc hno).2 ⟨h.lock, fun e => hm e.symm⟩, fun x hx' => ?_, fun x hx' => (List.mem_or_eq_of_mem_set hx').elim (fun h1 => h.k3 x h1) (fun h1 => by subst h1; exact h.k3 s (List.mem_of_getElem? h.at_))⟩⟩
  rcases List.mem_or_eq_of_mem_set hx' with h1 | rfl
  · exact h.mx x h1
  · obtain ⟨a, b, c⟩ := h.mx _ (List.mem_of_getElem? h.at_)
    refine ⟨a, by have := delG_le (lt := strLt) m s.locked; show (delG strLt m s.locked).length ≤ 900; omega, fun z hz => c z ((delG_mem strLt_ord hok.nasc hno).1 hz).1⟩
/-- Emptying: the safes ahead of i are empty; safe i has lost some; those behind are as they were. -/
structure Freed (L0 L : List Sf) (i : Nat) (K : List Int) (N : List ByteArray) (x : Sf) : Prop where
  chk : chkS L = 0
  len : L.length = L0.length
  at_ : L[i]? = some ⟨x.num, K, N⟩
  low : ∀ a y, a < i → L[a]? = some y → y.keys = [] ∧ y.locked = []
  high : ∀ a, i < a → L[a]? = L0[a]?
  mx : ∀ y ∈ L, SmallS y
theorem asc_head {α : Type} {lt : α → α → Bool} (ho : StrictOrd lt) {z : α} {l : List α} : lowG lt z (z :: l) = 0 := by
  rw [lowG, if_neg (by rw [ho.irr]; decide)]
theorem del_head {α : Type} {lt : α → α → Bool} (ho : StrictOrd lt) {z : α} {l : List α} : delG lt z (z :: l) = l := by
  unfold delG; rw [asc_head ho]; rfl
theorem Freed.set {L0 L : List Sf} {i : Nat} {K : List Int} {N : List ByteArray} {x : Sf} (h : Freed L0 L i K N x) {K' : List Int} {N' : List ByteArray} (hc : chkS (L.set i ⟨x.num, K', N'⟩) = 0) (hs : SmallS ⟨x.num, K', N'⟩) : Freed L0 (L.set i ⟨x.num, K', N'⟩) i K' N' x := by
  refine ⟨hc, by rw [List.length_set]; exact h.len, set_at' h.at_, fun a y ha hy => ?_, fun a ha => ?_, fun y hy => ?_⟩
  · rw [List.getElem?_set_ne (by omega)] at hy; exact h.low a y ha hy
  · rw [List.getElem?_set_ne (by omega)]; exact h.high a ha
  · rcases List.mem_or_eq_of_mem_set hy with h1 | rfl
    · exact h.mx y h1
    · exact hs
theorem Freed.rel {L0 L : List Sf} {i : Nat} {K : List Int} {N : List ByteArray} {x : Sf} {z : ByteArray} (h : Freed L0 L i K (z :: N) x) : ∃ Q, relS L x.num z = (Q, 0) ∧ Freed L0 Q i K N x := by
  obtain ⟨f1, f2⟩ := find_uniq (n := x.num) h.chk h.at_ rfl
  have hmem : z ∈ (atS L x.num).locked := by rw [f2]; simp
  have e : relS L x.num z = (L.set i ⟨x.num, K, N⟩, 0) := by
    unfold relS
    rw [if_neg (by simp [h.chk]), if_neg (by rw [f1]; omega), if_neg (by rw [hasS_iff.2 hmem]; decide), f1, Int.toNat_natCast, f2]
    simp only [del_head strLt_ord]
  obtain ⟨-, -, -, -, -, -, -, hc⟩ := relS_ok (L := L) (n := x.num) (k := z) (by rw [e])
  rw [e] at hc
  obtain ⟨a, b, c⟩ := h.mx _ (List.mem_of_getElem? h.at_)
  exact ⟨_, e, h.set hc ⟨a, by show N.length ≤ 3; simp at b; omega, fun n hn => c n (by simp [show n ∈ N from hn])⟩⟩
theorem Freed.take {L0 L : List Sf} {i : Nat} {K : List Int} {x : Sf} {z : Int} (h : Freed L0 L i (z :: K) [] x) : ∃ Q, takeS L x.num z = (Q, 0) ∧ Freed L0 Q i K [] x := by
  obtain ⟨f1, f2⟩ := find_uniq (n := x.num) h.chk h.at_ rfl
  have hmem : z ∈ (atS L x.num).keys := by rw [f2]; simp
  have e : takeS L x.num z = (L.set i ⟨x.num, K, []⟩, 0) := by
    unfold takeS
    rw [openE_eq h.chk f1 (by rw [f2]), if_neg (by decide), if_neg (by rw [hasI_iff.2 hmem]; decide), f1, Int.toNat_natCast, f2]
    simp only [del_head ltI_ord]
  obtain ⟨-, -, -, -, -, -, -, hc⟩ := takeS_ok (L := L) (n := x.num) (k := z) (by rw [e])
  rw [e] at hc
  obtain ⟨a, b, c⟩ := h.mx _ (List.mem_of_getElem? h.at_)
  exact ⟨_, e, h.set hc ⟨by show K.length ≤ 3; simp at a; omega, b, c⟩⟩
/-- Between two safes: the first i are empty. -/
structure FreeTo (L0 L : List Sf) (i : Nat) : Prop where
  chk : chkS L = 0
  len : L.length = L0.length
  low : ∀ a y, a < i → L[a]? = some y → y.keys = [] ∧ y.locked = []
  high : ∀ a, i ≤ a → L[a]? = L0[a]?
  mx : ∀ y ∈ L, SmallS y
theorem FreeTo.begin {L0 L : List Sf} {i : Nat} {x : Sf} (h : FreeTo L0 L i) (hx : L0[i]? = some x) : Freed L0 L i x.keys x.locked x := by
  have e := h.high i (Nat.le_refl _)
  rw [hx] at e
  exact ⟨h.chk, h.len, e, h.low, fun a ha => h.high a (by omega), h.mx⟩
theorem Freed.done {L0 L : List Sf} {i : Nat} {x : Sf} (h : Freed L0 L i [] [] x) : FreeTo L0 L (i + 1) := by
  refine ⟨h.chk, h.len, fun a y ha hy => ?_, fun a ha => h.high a (by omega), h.mx⟩
  rcases Nat.lt_or_eq_of_le (Nat.le_of_lt_succ ha) with h1 | rfl
  · exact h.low a y h1 hy
  · rw [h.at_] at hy; injection hy with hy; subst hy; exact ⟨rfl, rfl⟩
end Go.Proofs.YtlmkloghbgglkaaDoor
