/- Putting and taking, fixing and releasing, by plain functions: each leads back; nothing of the program stands here. -/
import Derived.Test.YtlmkloghbgglkaaDoorSfM
set_option linter.unusedVariables false
set_option linter.unusedSimpArgs false
namespace Go.Proofs.YtlmkloghbgglkaaDoor
open Go Go.RowKit
theorem chk_num {L : List Sf} {i j : Nat} {x y : Sf} (hc : chkS L = 0) (hx : L[i]? = some x) (hy : L[j]? = some y) (e : x.num = y.num) : i = j := by
  obtain ⟨-, -, hp⟩ := (chkS_iff L).1 hc
  rw [List.pairwise_iff_getElem] at hp
  have h1 := (List.getElem?_eq_some_iff.1 hx).2
  have h2 := (List.getElem?_eq_some_iff.1 hy).2
  rcases Nat.lt_trichotomy i j with h | h | h
  · have := (hp i j (lt_at hx) (lt_at hy) h).1
    rw [h1, h2] at this; omega
  · exact h
  · have := (hp j i (lt_at hy) (lt_at hx) h).1
    rw [h1, h2] at this; omega
theorem find_uniq {L : List Sf} {j : Nat} {s : Sf} {n : Int} (hc : chkS L = 0) (hs : L[j]? = some s) (hn : s.num = n) : findS L n = j ∧ atS L n = s := by
  have h : ¬ findS L n < 0 := fun h => by
    unfold findS at h
    rw [if_neg (by simp [hc])] at h
    have := idxG_neg h s (List.mem_of_getElem? hs)
    simp [hn] at this
  obtain ⟨-, i, e, hx, hxn, -⟩ := find_at h
  have : i = j := chk_num hc hx hs (by rw [hxn, hn])
  subst this
  exact ⟨e, by rw [hx] at hs; injection hs⟩
theorem in_uniq {L : List Sf} {j : Nat} {s : Sf} {k : Int} (hc : chkS L = 0) (hs : L[j]? = some s) (hk : k ∈ s.keys) : inS L k = s.num := by
  have h : ¬ inIdx L k < 0 := fun h => by
    unfold inIdx at h
    rw [if_neg (by simp [hc])] at h
    have := idxG_neg h s (List.mem_of_getElem? hs)
    rw [hasI_iff.2 hk] at this
    cases this
  have h' := h
  unfold inIdx at h'
  rw [if_neg (by simp [hc])] at h'
  obtain ⟨i, x, a, b, c⟩ := idxG_some (show 0 ≤ idxG (fun s : Sf => hasI s.keys k) L 0 by omega)
  have e : inIdx L k = (i : Int) := by unfold inIdx; rw [if_neg (by simp [hc]), a]; congr 1; omega
  have hij : i = j := by
    obtain ⟨-, -, hp⟩ := (chkS_iff L).1 hc
    rw [List.pairwise_iff_getElem] at hp
    have h1 := (List.getElem?_eq_some_iff.1 b).2
    have h2 := (List.getElem?_eq_some_iff.1 hs).2
    rcases Nat.lt_trichotomy i j with h | h | h
    · have := (hp i j (lt_at b) (lt_at hs) h).2
      rw [h1, h2] at this
      exact absurd (hasI_iff.1 c) (this k hk)
    · exact h
    · have := (hp j i (lt_at hs) (lt_at b) h).2
      rw [h1, h2] at this
      exact absurd hk (this k (hasI_iff.1 c))
  subst hij
  rw [b] at hs
  injection hs with hs
  unfold inS
  rw [if_neg h, e, Int.toNat_natCast, b, hs]
theorem set_set {α : Type} {L : List α} {j : Nat} {x y z : α} (h : L[j]? = some x) (e : z = x) : (L.set j y).set j z = L := by
  rw [List.set_set, e]
  apply List.ext_getElem?
  intro i
  rw [List.getElem?_set]
  split
  · rename_i e; subst e; rw [if_pos (lt_at h), h]
  · rfl
theorem set_at' {α : Type} {L : List α} {j : Nat} {x y : α} (h : L[j]? = some x) : (L.set j y)[j]? = some y := by
  rw [List.getElem?_set_self (lt_at h)]
theorem openE_eq {L : List Sf} {n : Int} {j : Nat} (hc : chkS L = 0) (hf : findS L n = (j : Nat)) (hl : (atS L n).locked = []) : openE L n = 0 := by
  unfold openE
  rw [if_neg (by simp [hc]), if_neg (by rw [hf]; omega), if_neg (by simp [hl])]
theorem take_put {L : List Sf} {n k : Int} (h : (putS L n k).2 = 0) : takeS (putS L n k).1 n k = (L, 0) ∧ inS (putS L n k).1 k = n := by
  obtain ⟨j, h0, hf, hx, hn, hno, e, hc⟩ := putS_ok h
  obtain ⟨-, hlk⟩ := open_at h0
  rw [e] at hc ⊢
  simp only at hc ⊢
  have hs : (L.set j ⟨n, insG ltI k (atS L n).keys, (atS L n).locked⟩)[j]? = some ⟨n, insG ltI k (atS L n).keys, (atS L n).locked⟩ := set_at' hx
  obtain ⟨f1, f2⟩ := find_uniq hc hs rfl
  have hmem : k ∈ insG ltI k (atS L n).keys := insG_mem.2 (.inl rfl)
  refine ⟨?_, in_uniq hc hs hmem⟩
  unfold takeS
  rw [openE_eq hc f1 (by rw [f2]; exact hlk), if_neg (by decide), f2, if_neg (by rw [hasI_iff.2 hmem]; decide), f1, Int.toNat_natCast]
  simp only [del_ins ltI_ord]
  rw [set_set hx]
  cases hs : atS L n
  rw [hs] at hn
  simp only at hn
  rw [← hn]
def nY8 : ByteArray := ⟨#[89, 56]⟩
theorem fix_fresh {L : List Sf} {j : Nat} {s : Sf} (m : ByteArray) (hc : chkS L = 0) (hs : L[j]? = some s) (hsm : SmallS s) (hm : nameB m.data.toList = true) (hno : m ∉ nms) : (fixS L s.num m).2 = 0 ∧ (fixS L s.num m).1 = L.set j ⟨s.num, s.keys, insG strLt m s.locked⟩ := by
  obtain ⟨f1, f2⟩ := find_uniq hc hs rfl
  have hns : hasS s.locked m = false := by
    cases h : hasS s.locked m with
    | false => rfl
    | true => exact absurd (hsm.2.2 m (hasS_iff.1 h)) hno
  unfold fixS
  rw [if_neg (by simp [hc]), if_neg (by rw [f1]; omega), if_neg (by rw [hm]; decide), f2, if_neg (by rw [hns]; decide), if_neg (by have := hsm.2.1; omega), f1, Int.toNat_natCast]
  exact ⟨rfl, rfl⟩
theorem rel_fix {L : List Sf} {n : Int} {m : ByteArray} (h : (fixS L n m).2 = 0) : relS (fixS L n m).1 n m = (L, 0) := by
  obtain ⟨j, -, hf, hx, hn, hno, e, hc⟩ := fixS_ok h
  rw [e] at hc ⊢
  simp only at hc ⊢
  have hs : (L.set j ⟨n, (atS L n).keys, insG strLt m (atS L n).locked⟩)[j]? = some ⟨n, (atS L n).keys, insG strLt m (atS L n).locked⟩ := set_at' hx
  obtain ⟨f1, f2⟩ := find_uniq hc hs rfl
  have hmem : m ∈ insG strLt m (atS L n).locked := insG_mem.2 (.inl rfl)
  unfold relS
  rw [if_neg (by simp [hc]), if_neg (by rw [f1]; omega), f2, if_neg (by rw [hasS_iff.2 hmem]; decide), f1, Int.toNat_natCast]
  simp only [del_ins strLt_ord]
  rw [set_set hx]
  cases hs : atS L n
  rw [hs] at hn
  simp only at hn
  rw [← hn]
end Go.Proofs.YtlmkloghbgglkaaDoor
