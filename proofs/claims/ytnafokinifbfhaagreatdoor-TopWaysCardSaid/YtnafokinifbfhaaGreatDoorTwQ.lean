/- The law of TopWays in plain words: a zone is isolated exactly if no way leads from it to a node that is fed; nothing of the program stands here; conditions: none. -/
import Derived.Test.YtnafokinifbfhaaGreatDoorTwP
set_option linter.unusedVariables false
set_option linter.unusedSimpArgs false
namespace Go.Proofs.YtnafokinifbfhaaGreatDoor
open Go Go.RowKit
/-- A device that feeds. -/
def jd (U : Nat → Bool) (i : Nat) (d : Dv) : Bool := decide (d.k = 5) || (decide (d.k = 6) && U i)
/-- A node that is reached. -/
def at0 (O : List Int) (x : Int) : Bool := decide (0 ≤ O.getD x.toNat (-1))
def atB (O : List Int) (d : Dv) : Bool := at0 O d.a || (jO d.k && at0 O d.b)
def jv (U : Nat → Bool) (O : List Int) : Nat → List Dv → Bool
  | _, [] => true
  | i, d :: V => if (jd U i d && atB O d) = true then false else jv U O (i + 1) V
def gR (U : Nat → Bool) (V : List Dv) (n : Nat) (z : List Int) (d : Dv) : Bool := z.any fun v => at0 (flood U V n [d.a]) v
def jr (U : Nat → Bool) (V : List Dv) (n : Nat) (z : List Int) : Nat → List Dv → Bool → Bool
  | _, [], b => b
  | i, d :: W, b => jr U V n z (i + 1) W (if jd U i d = true then b || gR U V n z d else b)
section
variable {U : Nat → Bool} {V : List Dv} {n : Nat} {z : List Int}
theorem live_atB {O : List Int} {i : Nat} {d : Dv} (h : jd U i d = true) : atB O d = at0 O d.a := by
  have hk : jO d.k = false := by
    unfold jd at h
    unfold jO
    simp at h ⊢
    omega
  unfold atB
  rw [hk]; simp
theorem oQ (hV : ∀ d ∈ V, yY d n = true) {L : List Int} (hL : ∀ v ∈ L, 0 ≤ v ∧ v < n) {x : Int} (h0 : 0 ≤ x) (h1 : x < n) : at0 (flood U V n L) x = true ↔ Rch U V L x := by
  have hI := jn (U := U) hV hL
  have key := xP (U := U) hV hL (x := x.toNat) (by omega)
  rw [Int.toNat_of_nonneg h0] at key
  rw [← key]
  obtain ⟨y, hy⟩ := zT (L := flood U V n L) (k := x.toNat) (by rw [show (flood U V n L).length = n from hI.ok.len]; omega)
  unfold at0
  rw [List.getD_eq_getElem?_getD, hy]
  simp only [Option.getD_some, decide_eq_true_eq]
  constructor
  · intro h
    obtain ⟨k, hk⟩ := Int.eq_ofNat_of_zero_le h
    exact ⟨k, by rw [hk]⟩
  · rintro ⟨k, hk⟩
    injection hk with hk
    omega
theorem bW {O : List Int} : ∀ (W : List Dv) (i : Nat), jv U O i W = true ↔ ∀ (j : Nat) (d : Dv), W[j]? = some d → jd U (i + j) d = true → at0 O d.a = false
  | [], i => by simp [jv]
  | d :: W, i => by
    unfold jv
    cases hl : jd U i d with
    | false =>
      simp only [Bool.false_and, Bool.false_eq_true, if_false]
      rw [bW W (i + 1)]
      constructor
      · intro h j e hj hle
        cases j with
        | zero => simp at hj; subst hj; rw [Nat.add_zero, hl] at hle; cases hle
        | succ j => exact h j e (by simpa using hj) (by rw [show i + 1 + j = i + (j + 1) by omega]; exact hle)
      · intro h j e hj hle
        exact h (j + 1) e (by simpa using hj) (by rw [show i + (j + 1) = i + 1 + j by omega]; exact hle)
    | true =>
      rw [live_atB hl]
      cases ha : at0 O d.a with
      | true =>
        simp only [Bool.and_self, if_true, Bool.false_eq_true, false_iff]
        intro h
        have := h 0 d rfl hl
        rw [ha] at this; cases this
      | false =>
        simp only [Bool.and_false, Bool.false_eq_true, if_false]
        rw [bW W (i + 1)]
        constructor
        · intro h j e hj hle
          cases j with
          | zero => simp at hj; subst hj; exact ha
          | succ j => exact h j e (by simpa using hj) (by rw [show i + 1 + j = i + (j + 1) by omega]; exact hle)
        · intro h j e hj hle
          exact h (j + 1) e (by simpa using hj) (by rw [show i + (j + 1) = i + 1 + j by omega]; exact hle)
theorem fV : ∀ (W : List Dv) (i : Nat) (b : Bool), jr U V n z i W b = true ↔ b = true ∨ ∃ (j : Nat) (d : Dv), W[j]? = some d ∧ jd U (i + j) d = true ∧ gR U V n z d = true
  | [], i, b => by simp [jr]
  | d :: W, i, b => by
    unfold jr
    rw [fV W (i + 1)]
    constructor
    · rintro (h | ⟨j, e, h1, h2, h3⟩)
      · split at h
        · rename_i hl
          rw [Bool.or_eq_true] at h
          rcases h with h | h
          · exact .inl h
          · exact .inr ⟨0, d, rfl, hl, h⟩
        · exact .inl h
      · exact .inr ⟨j + 1, e, by simpa using h1, by rw [show i + (j + 1) = i + 1 + j by omega]; exact h2, h3⟩
    · rintro (h | ⟨j, e, h1, h2, h3⟩)
      · left; subst h; split <;> simp
      · cases j with
        | zero => simp at h1; subst h1; left; rw [if_pos (by simpa using h2), h3]; simp
        | succ j => exact .inr ⟨j, e, by simpa using h1, by rw [show i + 1 + j = i + (j + 1) by omega]; exact h2, h3⟩
/-- THE LAW. -/
theorem ways_law (hV : ∀ d ∈ V, yY d n = true) (hz : ∀ v ∈ z, 0 ≤ v ∧ v < n) : jv U (flood U V n z) 0 V = !(jr U V n z 0 V false) := by
  have hda : ∀ d ∈ V, 0 ≤ d.a ∧ d.a < n := fun d hd => by
    have := hV d hd
    unfold yY at this
    split at this
    · cases this
    · omega
  have hone : ∀ d ∈ V, (at0 (flood U V n z) d.a = true ↔ gR U V n z d = true) := fun d hd => by
    obtain ⟨a0, a1⟩ := hda d hd
    rw [oQ hV hz a0 a1]
    unfold gR
    rw [List.any_eq_true]
    have hL : ∀ v ∈ [d.a], 0 ≤ v ∧ v < n := fun v hv => by simp at hv; subst hv; exact ⟨a0, a1⟩
    constructor
    · intro h
      obtain ⟨v, hv, hr⟩ := h.from_
      exact ⟨v, hv, (oQ hV hL (hz v hv).1 (hz v hv).2).2 (hr.symm hV (hz v hv).1).1⟩
    · rintro ⟨v, hv, hr⟩
      have := (oQ hV hL (hz v hv).1 (hz v hv).2).1 hr
      exact Rch.mem hv (this.symm hV a0).1
  have h1 := bW (U := U) (O := flood U V n z) V 0
  have h2 := fV (U := U) (V := V) (n := n) (z := z) V 0 false
  cases hr : jr U V n z 0 V false with
  | true =>
    rw [hr] at h2
    obtain ⟨j, d, e1, e2, e3⟩ := (h2.1 rfl).resolve_left (by simp)
    cases he : jv U (flood U V n z) 0 V with
    | false => rfl
    | true =>
      have := (h1.1 he) j d e1 e2
      rw [(hone d (List.mem_of_getElem? e1)).2 e3] at this
      cases this
  | false =>
    refine h1.2 fun j d e1 e2 => ?_
    cases ha : at0 (flood U V n z) d.a with
    | false => rfl
    | true =>
      have := h2.2 (.inr ⟨j, d, e1, e2, (hone d (List.mem_of_getElem? e1)).1 ha⟩)
      rw [hr] at this; cases this
end
end Go.Proofs.YtnafokinifbfhaaGreatDoor
