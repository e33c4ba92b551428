/- The kinds of the tie network's devices, and what applying and removing earths there gives at three rows, by plain functions; nothing of the program stands here. -/
import Derived.Test.YtaoegbmgombhdaaDoorCtP
set_option linter.unusedVariables false
set_option linter.unusedSimpArgs false
namespace Go.Proofs.YtaoegbmgombhdaaDoor
open Go Go.RowKit
def bB1 : ByteArray := ⟨#[66, 49]⟩
def bC1 : ByteArray := ⟨#[67, 49]⟩
def storeH : Hol := ⟨1, 0, emptyS⟩
def othR : List Rw := [⟨151, persH bB1⟩, ⟨152, devH 5⟩, ⟨153, storeH⟩]
def othA : List Rw := [⟨151, devH 3⟩, ⟨152, devH 5⟩, ⟨153, storeH⟩]
def othB : List Rw := [⟨151, persH bB1⟩, ⟨152, persH bC1⟩, ⟨153, storeH⟩]
theorem tie_len (D : Dk) : (tieVs D).length = 9 ∨ (tieVs D).length = 10 := by
  unfold tieVs tieV0
  split
  · right; rfl
  split
  · right; rfl
  · left; rfl
theorem kindX2_ne (z : Int) : kindX2 z ≠ 4 := by unfold kindX2; split <;> omega
theorem tieV_kind (k c : Int) (hk : k ≠ 4) : ∀ d : Nat, d < 9 → d ≠ 3 → d ≠ 5 → ∃ x, (tieV k c)[d]? = some x ∧ x.k ≠ 4 := by
  intro d hd h3 h5
  obtain rfl | rfl | rfl | rfl | rfl | rfl | rfl : d = 0 ∨ d = 1 ∨ d = 2 ∨ d = 4 ∨ d = 6 ∨ d = 7 ∨ d = 8 := by omega
  · exact ⟨_, rfl, by decide⟩
  · exact ⟨_, rfl, by decide⟩
  · exact ⟨_, rfl, by decide⟩
  · exact ⟨_, rfl, hk⟩
  · exact ⟨_, rfl, by decide⟩
  · exact ⟨_, rfl, by decide⟩
  · exact ⟨_, rfl, by decide⟩
theorem tie_kinds (D : Dk) (d : Nat) (hd : d < (tieVs D).length) (h3 : d ≠ 3) (h5 : d ≠ 5) : ∃ x, (tieVs D)[d]? = some x ∧ x.k ≠ 4 := by
  have h9 : (tieV0 D).length = 9 := rfl
  have key : ∀ W : List Dv, (∀ x ∈ W, x.k ≠ 4) → d < (tieV0 D ++ W).length → ∃ x, (tieV0 D ++ W)[d]? = some x ∧ x.k ≠ 4 := fun W hW hl => by
    by_cases hd9 : d < 9
    · obtain ⟨x, hx, hk⟩ := tieV_kind (kindX2 ((tieE D).val 2)) (1 + (tieE D).next.val 2) (kindX2_ne _) d hd9 h3 h5
      exact ⟨x, by rw [List.getElem?_append_left (by omega)]; exact hx, hk⟩
    · rw [List.length_append] at hl
      obtain ⟨x, hx⟩ := some_at (L := W) (k := d - 9) (by omega)
      exact ⟨x, by rw [List.getElem?_append_right (by omega), h9]; exact hx, hW x (List.mem_of_getElem? hx)⟩
  unfold tieVs at hd ⊢
  split
  · rename_i h; rw [if_pos h] at hd
    exact key _ (by simp) hd
  · rename_i h; rw [if_neg h] at hd
    split
    · rename_i h'; rw [if_pos h'] at hd
      exact key _ (by simp) hd
    · rename_i h'; rw [if_neg h'] at hd
      have := key [] (by simp) (by rwa [List.append_nil])
      rwa [List.append_nil] at this
theorem earth_no (D : Dk) (d : Nat) (hd : d < (tieVs D).length) (h3 : d ≠ 3) (h5 : d ≠ 5) : earthE (tieVs D) d = 6 := by
  obtain ⟨x, hx, hk⟩ := tie_kinds D d hd h3 h5
  unfold earthE
  rw [if_neg (by omega), Int.toNat_natCast, hx]
  simp [hk]
theorem oth_chk : chk othR = 0 := by decide +kernel
theorem oth_remove (D : Dk) : removeP (tieNs D) (tieVs D) othR 152 bC1 5 = (othB, 0) := by
  unfold removeP startP
  rw [tie_net, oth_chk, show earthE (tieVs D) 5 = 0 from (tie_earth D (d := 5) (.inr rfl)).1]
  simp only [ne_eq, not_true_eq_false, if_false]
  decide +kernel
theorem oth_apply3 (D : Dk) : applyP (tieNs D) (tieVs D) othR 151 bB1 3 = (othA, 0) := by
  unfold applyP startP
  rw [tie_net, oth_chk, show earthE (tieVs D) 3 = 0 from (tie_earth D (d := 3) (.inl rfl)).1]
  simp only [ne_eq, not_true_eq_false, if_false]
  decide +kernel
theorem oth_apply (D : Dk) (d : Nat) (hd : d < (tieVs D).length) (h3 : d ≠ 3) : ∃ e : Int, e ≠ 0 ∧ applyP (tieNs D) (tieVs D) othR 151 bB1 d = ([], e) := by
  by_cases h5 : d = 5
  · subst h5
    refine ⟨4, by decide, ?_⟩
    unfold applyP startP
    rw [tie_net, oth_chk, (tie_earth D (d := 5) (.inr rfl)).1]
    simp only [ne_eq, not_true_eq_false, if_false]
    decide +kernel
  · refine ⟨6, by decide, ?_⟩
    unfold applyP startP
    rw [tie_net, oth_chk, earth_no D d hd h3 h5]
    simp
end Go.Proofs.YtaoegbmgombhdaaDoor
