/- Rows of keys as a map's entries: what a number leads to, and what writing one gives; nothing of the program stands here. -/
import Derived.Test.YtbacidnhjmdnlaaDoorKyC
import Derived.Test.YtbacidnhjmdnlaaDoorAbsX
set_option linter.unusedVariables false
set_option linter.unusedSimpArgs false
namespace Go.Proofs.YtbacidnhjmdnlaaDoor
open Go Go.RowKit
def hv (h : Hol) : Value := .agg ⟨h.vals⟩
def mR (R : List Rw) : List (Value × Value) := R.map fun r => (.int .i64 r.num, hv r.h)
theorem sameInt (a b : Int) : Instr.sameNow (.int .i64) (.int .i64 a) (.int .i64 b) = some (a == b) := by simp [Instr.sameNow]
theorem findR : ∀ {R : List Rw}, R.Pairwise (fun a b => a.num < b.num) → ∀ {i : Nat} {r : Rw}, R[i]? = some r → findL (.int .i64) (.int .i64 r.num) (mR R) = some (some (hv r.h))
  | [], _, i, r, h => by simp at h
  | x :: R, hp, i, r, h => by
    have hp' := List.pairwise_cons.1 hp
    show findL _ _ ((.int .i64 x.num, hv x.h) :: mR R) = _
    rw [findL, sameInt]
    cases i with
    | zero =>
      simp at h
      subst h
      rw [show (x.num == x.num) = true by simp]
    | succ i =>
      have h' : R[i]? = some r := by simpa using h
      have := hp'.1 r (List.mem_of_getElem? h')
      rw [show (r.num == x.num) = false by simp; omega]
      exact findR hp'.2 h'
theorem findR_none {n : Int} : ∀ {R : List Rw}, (∀ r ∈ R, r.num ≠ n) → findL (.int .i64) (.int .i64 n) (mR R) = some none
  | [], _ => rfl
  | x :: R, h => by
    show findL _ _ ((.int .i64 x.num, hv x.h) :: mR R) = _
    rw [findL, sameInt]
    have := h x (by simp)
    rw [show (n == x.num) = false by simp; omega]
    exact findR_none fun r hr => h r (by simp [hr])
theorem putR_new {r0 : Rw} : ∀ {R : List Rw}, (∀ r ∈ R, r.num ≠ r0.num) → putM (.int .i64) (.int .i64 r0.num) (hv r0.h) (mR R) = mR (R ++ [r0])
  | [], _ => rfl
  | x :: R, h => by
    show putM _ _ _ ((.int .i64 x.num, hv x.h) :: mR R) = _
    rw [putM, sameInt]
    have := h x (by simp)
    rw [if_neg (by simp; omega), putR_new fun r hr => h r (by simp [hr])]
    rfl
theorem putR_set {b : Hol} : ∀ {R : List Rw}, R.Pairwise (fun a b => a.num < b.num) → ∀ {i : Nat} {r : Rw}, R[i]? = some r → putM (.int .i64) (.int .i64 r.num) (hv b) (mR R) = mR (R.set i ⟨r.num, b⟩)
  | [], _, i, r, h => by simp at h
  | x :: R, hp, i, r, h => by
    have hp' := List.pairwise_cons.1 hp
    show putM _ _ _ ((.int .i64 x.num, hv x.h) :: mR R) = _
    rw [putM, sameInt]
    cases i with
    | zero =>
      simp at h
      subst h
      rw [if_pos (by simp)]
      rfl
    | succ i =>
      have h' : R[i]? = some r := by simpa using h
      have := hp'.1 r (List.mem_of_getElem? h')
      rw [if_neg (by simp; omega), putR_set hp'.2 h']
      rfl
theorem chk_pair {R : List Rw} (h : chk R = 0) : R.Pairwise fun a b => a.num < b.num := ((chk_iff R).1 h).2.2
theorem take_ne {R : List Rw} (hp : R.Pairwise fun a b => a.num < b.num) {k : Nat} {r : Rw} (h : R[k]? = some r) : ∀ x ∈ R.take k, x.num ≠ r.num := fun x hx => by
  obtain ⟨j, hj⟩ := List.getElem?_of_mem hx
  have hjk : j < k := by
    have := lt_at hj
    rw [List.length_take] at this
    omega
  rw [List.getElem?_take, if_pos hjk] at hj
  have h1 := List.pairwise_iff_getElem.1 hp j k (lt_at hj) (lt_at h) hjk
  have e1 : R[j]'(lt_at hj) = x := (List.getElem?_eq_some_iff.1 hj).2
  have e2 : R[k]'(lt_at h) = r := (List.getElem?_eq_some_iff.1 h).2
  rw [e1, e2] at h1
  omega
theorem give_no {L : List Rw} (hc : chk L = 0) {k : Nat} {r : Rw} (h : L[k]? = some r) {a b : Hol} (hb : rightB b = true) (hne : ¬ r.h = a) : giveP L r.num a b = ([], 40) := by
  have h3 := ((chk_iff L).1 hc).2.2
  unfold giveP
  rw [if_neg (by simp [hc]), if_neg (by simp [hb]), if_neg (by simp [fnd_self h3 h]), low_self h3 h, h]
  simp [hne]
theorem find_at {L : List Rw} (hc : chk L = 0) {k : Nat} {r : Rw} (h : L[k]? = some r) : findP L r.num = (r.h, true) := by
  have h3 := ((chk_iff L).1 hc).2.2
  unfold findP
  rw [if_neg (by simp [hc]), if_neg (by simp [fnd_self h3 h]), low_self h3 h, h]
/-- The places of a walk through a map that are still to come. -/
def stillTo (n : Nat) (seen : List Nat) : List Nat := (List.range n).filter fun i => !decide (i ∈ seen)
theorem still_less {n i : Nat} {seen : List Nat} (hi : i < n) (hs : i ∉ seen) : (stillTo n (seen ++ [i])).length < (stillTo n seen).length := by
  have e : stillTo n (seen ++ [i]) = (stillTo n seen).filter fun j => !decide (j = i) := by
    unfold stillTo
    rw [List.filter_filter]
    congr 1
    funext j
    by_cases h1 : j ∈ seen <;> by_cases h2 : j = i <;> simp [h1, h2]
  rw [e]
  refine List.length_filter_lt_length_iff_exists.2 ⟨i, ?_, by simp⟩
  unfold stillTo
  rw [List.mem_filter]
  exact ⟨List.mem_range.2 hi, by simpa using hs⟩
end Go.Proofs.YtbacidnhjmdnlaaDoor
