/- Three portable earths, and what any of the law's moves makes of their rows, by plain functions; nothing of the program stands here. -/
import Derived.Test.YtaoegbmgombhdaaDoorOtP
import Derived.Test.YtaoegbmgombhdaaDoorApA
set_option linter.unusedVariables false
set_option linter.unusedSimpArgs false
namespace Go.Proofs.YtaoegbmgombhdaaDoor
open Go Go.RowKit
/-- Who can have one: two people and two devices. -/
def stH : Fin 4 → Hol
  | 0 => persH bB1
  | 1 => persH bC1
  | 2 => devH 3
  | 3 => devH 5
def stR (a b c : Fin 4) : List Rw := [⟨151, stH a⟩, ⟨152, stH b⟩, ⟨153, stH c⟩]
def apartB (a b : Fin 4) : Bool := !decide (a = b) || decide (a.val < 2)
def okS (a b c : Fin 4) : Bool := apartB a b && apartB a c && apartB b c
def InS (R : List Rw) : Prop := ∃ a b c, okS a b c = true ∧ R = stR a b c
def nmF : Fin 2 → ByteArray
  | 0 => bB1
  | 1 => bC1
def dvF : Fin 2 → Int
  | 0 => 3
  | 1 => 5
def inB (R : List Rw) : Bool := match R with
  | [x, y, z] => decide (x.num = 151) && decide (y.num = 152) && decide (z.num = 153) && (List.finRange 4).any fun a => decide (x.h = stH a) && (List.finRange 4).any fun b => decide (y.h = stH b) && (List.finRange 4).any fun c => decide (z.h = stH c) && okS a b c
  | _ => false
theorem inB_in {R : List Rw} (h : inB R = true) : InS R := by
  unfold inB at h
  split at h
  · rename_i x y z
    simp only [Bool.and_eq_true, List.any_eq_true, decide_eq_true_eq] at h
    obtain ⟨⟨⟨h1, h2⟩, h3⟩, a, -, ha, b, -, hb, c, -, hc, ho⟩ := h
    refine ⟨a, b, c, ho, ?_⟩
    obtain ⟨xn, xh⟩ := x
    obtain ⟨yn, yh⟩ := y
    obtain ⟨zn, zh⟩ := z
    simp only at h1 h2 h3 ha hb hc
    subst h1; subst h2; subst h3; subst ha; subst hb; subst hc
    rfl
  · cases h
def givesOk (p : List Rw × Int) : Bool := !decide (p.2 = 0) || inB p.1
theorem st_chk : ∀ a b c : Fin 4, chk (stR a b c) = 0 := by decide +kernel
theorem st_apply : ∀ a b c : Fin 4, okS a b c = true → ∀ (k : Fin 3) (n d : Fin 2), (if (markL (stR a b c))[(dvF d).toNat]? = some true then true else givesOk (giveP (stR a b c) (151 + (k.val : Int)) (persH (nmF n)) (devH (dvF d)))) = true := by decide +kernel
theorem st_remove : ∀ a b c : Fin 4, okS a b c = true → ∀ (k : Fin 3) (n d : Fin 2), givesOk (giveP (stR a b c) (151 + (k.val : Int)) (devH (dvF d)) (persH (nmF n))) = true := by decide +kernel
/-- The devices at which the rows have an earth. -/
def devs : List Rw → List Int
  | [] => []
  | r :: l => if r.h.k = 4 then r.h.i :: devs l else devs l
theorem st_applied : ∀ a b c : Fin 4, okS a b c = true → (appliedP (stR a b c)).length = (devs (stR a b c)).length := by decide +kernel
theorem st_devs : ∀ a b c : Fin 4, okS a b c = true → (devs (stR a b c)).Pairwise (fun x y => x ≠ y) ∧ ∀ d ∈ devs (stR a b c), d = 3 ∨ d = 5 := by decide +kernel
theorem st_names : ∀ a b c : Fin 4, ∀ r ∈ stR a b c, r.h.n.size ≤ 12 := by decide +kernel
theorem InS.chk {R : List Rw} (h : InS R) : chk R = 0 := by obtain ⟨a, b, c, -, rfl⟩ := h; exact st_chk a b c
theorem InS.names {R : List Rw} (h : InS R) : ∀ r ∈ R, r.h.n.size ≤ maxLen := by
  obtain ⟨a, b, c, -, rfl⟩ := h
  intro r hr
  have := st_names a b c r hr
  unfold maxLen; omega
theorem InS.len {R : List Rw} (h : InS R) : R.length = 3 := by obtain ⟨a, b, c, -, rfl⟩ := h; rfl
theorem InS.applied {R : List Rw} (h : InS R) : (appliedP R).length = (devs R).length := by obtain ⟨a, b, c, ho, rfl⟩ := h; exact st_applied a b c ho
theorem InS.devs {R : List Rw} (h : InS R) : (devs R).Pairwise (fun x y => x ≠ y) ∧ ∀ d ∈ devs R, d = 3 ∨ d = 5 := by obtain ⟨a, b, c, ho, rfl⟩ := h; exact st_devs a b c ho
theorem start_dv (D : Dk) {R : List Rw} (h : InS R) (d : Fin 2) : startP (tieNs D) (tieVs D) R (dvF d) = 0 := by
  unfold startP
  rw [tie_net, h.chk]
  simp only [ne_eq, not_true_eq_false, if_false]
  match d with
  | 0 => exact (tie_earth D (d := 3) (.inl rfl)).1
  | 1 => exact (tie_earth D (d := 5) (.inr rfl)).1
theorem start_0 (D : Dk) {R : List Rw} (h : InS R) : startP (tieNs D) (tieVs D) R 0 = 6 := by
  unfold startP
  rw [tie_net, h.chk]
  simp only [ne_eq, not_true_eq_false, if_false]
  exact earth_no D 0 (by rcases tie_len D with h | h <;> omega) (by decide) (by decide)
/-- What a move gives: an error, or rows of the same kind. -/
theorem one_apply (D : Dk) {R : List Rw} (h : InS R) (k : Fin 3) (n : Fin 2) (d : Int) (hd : d = 3 ∨ d = 5 ∨ d = 0) : (applyP (tieNs D) (tieVs D) R (151 + (k.val : Int)) (nmF n) d).2 = 0 → InS (applyP (tieNs D) (tieVs D) R (151 + (k.val : Int)) (nmF n) d).1 := by
  have key : ∀ e : Fin 2, (applyP (tieNs D) (tieVs D) R (151 + (k.val : Int)) (nmF n) (dvF e)).2 = 0 → InS (applyP (tieNs D) (tieVs D) R (151 + (k.val : Int)) (nmF n) (dvF e)).1 := fun e => by
    have hs := start_dv D h e
    obtain ⟨a, b, c, ho, rfl⟩ := h
    have hst := st_apply a b c ho k n e
    unfold applyP
    rw [hs]
    simp only [ne_eq, not_true_eq_false, if_false]
    split
    · intro h; cases h
    · rename_i hm
      rw [if_neg hm] at hst
      intro h0
      unfold givesOk at hst
      rw [h0] at hst
      exact inB_in (by simpa using hst)
  rcases hd with rfl | rfl | rfl
  · exact key 0
  · exact key 1
  · unfold applyP
    rw [start_0 D h]
    intro h; cases h
theorem one_remove (D : Dk) {R : List Rw} (h : InS R) (k : Fin 3) (n : Fin 2) (d : Int) (hd : d = 3 ∨ d = 5 ∨ d = 0) : (removeP (tieNs D) (tieVs D) R (151 + (k.val : Int)) (nmF n) d).2 = 0 → InS (removeP (tieNs D) (tieVs D) R (151 + (k.val : Int)) (nmF n) d).1 := by
  have key : ∀ e : Fin 2, (removeP (tieNs D) (tieVs D) R (151 + (k.val : Int)) (nmF n) (dvF e)).2 = 0 → InS (removeP (tieNs D) (tieVs D) R (151 + (k.val : Int)) (nmF n) (dvF e)).1 := fun e => by
    have hs := start_dv D h e
    obtain ⟨a, b, c, ho, rfl⟩ := h
    have hst := st_remove a b c ho k n e
    unfold removeP
    rw [hs]
    simp only [ne_eq, not_true_eq_false, if_false]
    intro h0
    unfold givesOk at hst
    rw [h0] at hst
    exact inB_in (by simpa using hst)
  rcases hd with rfl | rfl | rfl
  · exact key 0
  · exact key 1
  · unfold removeP
    rw [start_0 D h]
    intro h; cases h
theorem one_start : InS [⟨151, persH bB1⟩, ⟨152, persH bB1⟩, ⟨153, persH bC1⟩] := ⟨0, 0, 1, by decide, rfl⟩
end Go.Proofs.YtaoegbmgombhdaaDoor
