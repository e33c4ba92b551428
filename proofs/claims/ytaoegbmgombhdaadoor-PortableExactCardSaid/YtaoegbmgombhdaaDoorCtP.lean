/- A portable earth at an earth of the tie network, by plain functions: its lock is one of the locked earths; nothing of the program stands here. -/
import Derived.Test.YtaoegbmgombhdaaDoorTieP
import Derived.Test.YtaoegbmgombhdaaDoorLkP
set_option linter.unusedVariables false
set_option linter.unusedSimpArgs false
namespace Go.Proofs.YtaoegbmgombhdaaDoor
open Go Go.RowKit
theorem some_one (d : Nat) (p q : Int) : ∀ (V : List Dv) (i : Nat), someGo [⟨d, p, q⟩] p true i V = if i ≤ d then (match V[d - i]? with
    | some x => if x.k = 4 then [(d : Int)] else []
    | none => []) else []
  | [], i => by simp [someGo]
  | x :: V, i => by
    have hl : ∀ j : Nat, lockedP [⟨d, p, q⟩] j = if d = j then (p, true) else (0, false) := fun j => by
      unfold lockedP
      by_cases h : d = j
      · subst h; simp
      · rw [if_neg h, List.find?_cons_of_neg (by simp; omega)]; rfl
    have ih := some_one d p q V (i + 1)
    unfold someGo holdsB
    rw [hl, ih]
    by_cases h : d = i
    · subst h
      rw [if_pos rfl, if_pos (Nat.le_refl _), if_neg (show ¬ d + 1 ≤ d by omega)]
      simp
    · rw [if_neg h]
      simp only [Bool.false_and, Bool.false_eq_true, if_false]
      by_cases h2 : i + 1 ≤ d
      · rw [if_pos h2, if_pos (by omega), show d - i = (d - (i + 1)) + 1 by omega]
        simp
      · rw [if_neg h2, if_neg (by omega)]
theorem tieVs_at (D : Dk) : ∃ k c W, tieVs D = tieV k c ++ W := by
  unfold tieVs tieV0
  split
  · exact ⟨_, _, _, rfl⟩
  split
  · exact ⟨_, _, _, rfl⟩
  · exact ⟨_, _, [], by rw [List.append_nil]⟩
theorem tie_earth (D : Dk) {d : Nat} (hd : d = 3 ∨ d = 5) : earthE (tieVs D) d = 0 ∧ faultE (tieVs D) ⟨d, 2, 151⟩ = 0 ∧ someP (tieVs D) [⟨d, 2, 151⟩] 2 true = [(d : Int)] := by
  obtain ⟨k, c, W, e⟩ := tieVs_at D
  rw [e]
  have hlen : ((tieV k c ++ W).length : Int) = 9 + W.length := by simp [tieV]; omega
  have hat : ∃ x, (tieV k c ++ W)[d]? = some x ∧ x.k = 4 := by
    rcases hd with rfl | rfl
    · exact ⟨_, rfl, rfl⟩
    · exact ⟨_, rfl, rfl⟩
  obtain ⟨x, hx, h4⟩ := hat
  refine ⟨?_, ?_, ?_⟩
  · unfold earthE
    rw [if_neg (by rw [hlen]; omega), Int.toNat_natCast, hx]
    simp [h4]
  · unfold faultE kindAt
    simp only [Int.toNat_natCast, hx, h4]
    rw [if_neg (by rw [hlen]; omega)]
    simp
  · unfold someP
    rw [some_one, if_pos (Nat.zero_le _), Nat.sub_zero, hx]
    simp [h4]
theorem tie_lock (D : Dk) {d : Nat} (hd : d = 3 ∨ d = 5) : lockP (tieNs D) (tieVs D) 151 d = (⟨d, 2, 151⟩, 0) := by
  unfold lockP
  rw [tie_net, (tie_earth D hd).1]
  simp
theorem tie_earths (D : Dk) {d : Nat} (hd : d = 3 ∨ d = 5) : earthsP (tieNs D) (tieVs D) [⟨d, 2, 151⟩] = ([(d : Int)], 0) := by
  have hl : lksE (tieNs D) (tieVs D) [⟨d, 2, 151⟩] = 0 := by
    unfold lksE
    rw [tie_net]
    simp only [ne_eq, not_true_eq_false, if_false, List.length_singleton]
    rw [if_neg (by omega)]
    unfold lkGo
    rw [lkE_0 (tie_earth D hd).2.1 rfl rfl rfl]
    simp [lkGo]
  unfold earthsP
  rw [hl, (tie_earth D hd).2.2]
  simp
theorem tie_names (D : Dk) : (∀ x ∈ tieNs D, x.n.size ≤ maxLen) ∧ (∀ x ∈ tieVs D, x.n.size ≤ maxLen) ∧ (tieNs D).length ≤ maxLen ∧ (tieVs D).length ≤ maxLen := by
  have hlt : (2 : Nat) ≤ maxLen := by decide
  obtain ⟨hn1, hn2⟩ := netE_len (tie_net D)
  have h64 : (64 : Nat) ≤ maxLen := by decide
  refine ⟨fun x hx => ?_, fun x hx => ?_, by omega, by omega⟩
  · obtain ⟨c0, c1, c2, c3, c4, c5, -, -, -, -, -, -, e⟩ := tieNs_eq D
    rw [e] at hx
    simp only [List.mem_cons, List.not_mem_nil, or_false] at hx
    rcases hx with rfl | rfl | rfl | rfl | rfl | rfl <;> exact hlt
  · have hV : ∀ k c, ∀ x ∈ tieV k c, x.n.size ≤ maxLen := fun k c x hx => by
      unfold tieV at hx
      simp only [List.mem_cons, List.not_mem_nil, or_false] at hx
      rcases hx with rfl | rfl | rfl | rfl | rfl | rfl | rfl | rfl | rfl <;> exact hlt
    unfold tieVs tieV0 at hx
    split at hx
    · rcases List.mem_append.1 hx with hx | hx
      · exact hV _ _ x hx
      · obtain rfl := List.mem_singleton.1 hx; exact hlt
    split at hx
    · rcases List.mem_append.1 hx with hx | hx
      · exact hV _ _ x hx
      · obtain rfl := List.mem_singleton.1 hx; exact hlt
    · exact hV _ _ x hx
end Go.Proofs.YtaoegbmgombhdaaDoor
