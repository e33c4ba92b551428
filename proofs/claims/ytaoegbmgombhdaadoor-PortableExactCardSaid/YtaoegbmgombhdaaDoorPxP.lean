/- The marks of devices and who holds them, by plain functions: what the reference says of each device is what the marks say; nothing of the program stands here. -/
import Derived.Test.YtaoegbmgombhdaaDoorKzC
import Derived.Test.YtaoegbmgombhdaaDoorSpA
set_option linter.unusedVariables false
set_option linter.unusedSimpArgs false
namespace Go.Proofs.YtaoegbmgombhdaaDoor
open Go Go.RowKit
def markG (L : List Rw) : List Bool := if chk L ≠ 0 then mark0 else markL L
theorem markG_len (L : List Rw) : (markG L).length = 64 := by
  unfold markG
  split
  · rfl
  · exact markL_len L
theorem mark0_at {i : Nat} (h : i < 64) : mark0[i]? = some false := by
  unfold mark0
  rw [List.getElem?_replicate, if_pos h]
theorem mark_at {i : Nat} : ∀ (L : List Rw) (M : List Bool) (b : Bool), M[i]? = some b → (L.foldl mark1 M)[i]? = some (b || L.any fun r => decide (r.h.k = 4) && decide (r.h.i.toNat = i))
  | [], M, b, h => by simpa using h
  | r :: L, M, b, h => by
    rw [List.foldl_cons, List.any_cons]
    by_cases h4 : r.h.k = 4
    · have e : mark1 M r = M.set r.h.i.toNat true := by unfold mark1; rw [if_pos h4]
      rw [e]
      by_cases hi : r.h.i.toNat = i
      · rw [mark_at L _ true (by rw [List.getElem?_set, if_pos hi, if_pos (by have := lt_at h; omega)])]
        simp [h4, hi]
      · rw [mark_at L _ b (by rw [List.getElem?_set, if_neg hi]; exact h)]
        simp [hi]
    · have e : mark1 M r = M := by unfold mark1; rw [if_neg h4]
      rw [e, mark_at L M b h]
      simp [h4]
theorem right4 {h : Hol} (hr : rightB h = true) (h4 : h.k = 4) : 0 ≤ h.i ∧ h.i < 64 ∧ h.n = emptyS := by
  unfold rightB at hr
  rw [if_neg (by omega), if_neg (by omega), if_neg (by omega), if_pos h4] at hr
  simp at hr
  exact ⟨hr.1.1, hr.1.2, hr.2⟩
theorem heldP_pos (L : List Rw) (h : Hol) : decide (0 < (heldP L h).length) = L.any fun r => decide (r.h = h) := by
  unfold heldP
  rw [List.length_map]
  cases hb : L.any fun r => decide (r.h = h) with
  | false =>
    rw [List.filter_eq_nil_iff.2 (fun x hx => by have := List.any_eq_false.1 hb x hx; simpa using this)]
    rfl
  | true =>
    obtain ⟨x, hx, he⟩ := List.any_eq_true.1 hb
    have : x ∈ L.filter fun r => decide (r.h = h) := List.mem_filter.2 ⟨hx, he⟩
    rw [decide_eq_true (List.length_pos_of_mem this)]
theorem any_cong {α : Type} {f g : α → Bool} : ∀ {L : List α}, (∀ x ∈ L, f x = g x) → L.any f = L.any g
  | [], _ => rfl
  | x :: L, h => by rw [List.any_cons, List.any_cons, h x (by simp), any_cong fun y hy => h y (by simp [hy])]
theorem markG_held (L : List Rw) {i : Nat} (hi : i < 64) : (markG L)[i]? = some (decide (0 < (heldG L (devH i)).length)) := by
  unfold markG heldG
  by_cases hc : chk L = 0
  · rw [if_neg (by simp [hc]), if_neg (by simp [hc]), heldP_pos]
    unfold markL
    rw [mark_at L mark0 false (mark0_at hi), Bool.false_or]
    obtain ⟨-, hr, -⟩ := (chk_iff L).1 hc
    have key : ∀ r ∈ L, (decide (r.h.k = 4) && decide (r.h.i.toNat = i)) = decide (r.h = devH i) := fun r hm => by
      by_cases h4 : r.h.k = 4
      · obtain ⟨a, b, c⟩ := right4 (hr r hm).2 h4
        have e1 : decide (r.h.k = 4) = true := decide_eq_true h4
        rw [e1, Bool.true_and]
        apply decide_eq_decide.2
        constructor
        · intro e
          have hi' : r.h.i = (i : Int) := by omega
          show r.h = ⟨4, i, emptyS⟩
          rw [← hi', ← h4, ← c]
        · intro e; rw [e]; rfl
      · rw [decide_eq_false h4, Bool.false_and, decide_eq_false (fun e => h4 (by rw [e]; rfl))]
    rw [any_cong key]
  · rw [if_pos hc, if_pos hc, mark0_at hi]
    rfl
/-- The indices of the marks. -/
def onesG : Nat → List Bool → List Int
  | _, [] => []
  | i, b :: l => if b = true then (i : Int) :: onesG (i + 1) l else onesG (i + 1) l
theorem onesG_at {M : List Bool} {i : Nat} {b : Bool} (h : M[i]? = some b) : onesG i (M.drop i) = if b = true then (i : Int) :: onesG (i + 1) (M.drop (i + 1)) else onesG (i + 1) (M.drop (i + 1)) := by
  rw [drop_at h]; rfl
theorem onesG_none : ∀ (i n : Nat), onesG i (List.replicate n false) = []
  | _, 0 => rfl
  | i, n + 1 => by rw [List.replicate_succ, onesG, if_neg (by decide), onesG_none]
theorem onesG_len : ∀ (M : List Bool) (i : Nat), (onesG i M).length ≤ M.length
  | [], _ => Nat.le_refl _
  | b :: M, i => by
    have := onesG_len M (i + 1)
    unfold onesG
    split <;> simp <;> omega
def appliedP (L : List Rw) : List Int := onesG 0 (markG L)
theorem appliedP_bad {L : List Rw} (h : chk L ≠ 0) : appliedP L = [] := by
  unfold appliedP markG
  rw [if_pos h]
  exact onesG_none 0 64
theorem taken_at {i : Nat} : ∀ (K : List Lk) (M : List Bool) (b : Bool), (∀ k ∈ K, 0 ≤ k.d) → M[i]? = some b → (takenP M K)[i]? = some (b || (lockedP K i).2)
  | [], M, b, _, h => by
    show M[i]? = _
    rw [h]
    simp [lockedP]
  | k :: K, M, b, hk, h => by
    show (takenP (M.set k.d.toNat true) K)[i]? = _
    have k0 := hk k (by simp)
    by_cases e : k.d = i
    · have e2 : lockedP (k :: K) i = (k.p, true) := by unfold lockedP; rw [List.find?_cons_of_pos (by simpa using e)]
      rw [taken_at K _ true (fun x hx => hk x (by simp [hx])) (by rw [List.getElem?_set, if_pos (by omega), if_pos (by have := lt_at h; omega)]), e2]
      simp
    · have e2 : lockedP (k :: K) i = lockedP K i := by unfold lockedP; rw [List.find?_cons_of_neg (by simpa using e)]
      rw [taken_at K _ b (fun x hx => hk x (by simp [hx])) (by rw [List.getElem?_set, if_neg (by omega)]; exact h), e2]
/-- Small, or not valid. -/
def lightB (N : List Nd) (V : List Dv) : Bool := (decide (N.length ≤ 40) && decide (V.length ≤ 14)) || (decide (netE N V ≠ 0) && decide (N.length ≤ 100) && decide (V.length ≤ 200))
end Go.Proofs.YtaoegbmgombhdaaDoor
