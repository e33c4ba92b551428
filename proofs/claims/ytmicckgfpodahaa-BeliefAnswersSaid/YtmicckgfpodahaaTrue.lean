/- BeliefTrue returns true: what is known was true at its time; conditions: a slice of integers that reads as a list. -/
import Derived.Test.YtmicckgfpodahaaAwake
import Derived.Test.YtmicckgfpodahaaMk3
set_option linter.unusedVariables false
set_option linter.unusedSimpArgs false
namespace Go.Proofs.Ytmicckgfpodahaa
open Go Go.RowKit
theorem bits_or_eq (a b : Nat) (ha : a < 1024) (hb : b < 1024) : bits .or .i64 (a : Int) (b : Int) = ((a ||| b : Nat) : Int) := by
  have hx : a ||| b < 2 ^ 10 := Nat.or_lt_two_pow (by omega) (by omega)
  show IntKind.i64.wrap ((BitVec.ofInt 64 (a : Int) ||| BitVec.ofInt 64 (b : Int)).toNat : Int) = _
  rw [BitVec.toNat_or, BitVec.ofInt_natCast, BitVec.ofInt_natCast, BitVec.toNat_ofNat, BitVec.toNat_ofNat, Nat.mod_eq_of_lt (by omega), Nat.mod_eq_of_lt (by omega), IntKind.wrap_i64]
  omega
def OkM (p m : Int) : Prop := (p = 1 ∨ p = 2) ∧ (m = p ∨ m = 4 * p ∨ m = 5 * p ∨ m = 256 ∨ m = 256 + p ∨ m = 256 + 4 * p ∨ m = 256 + 5 * p)
def OkK (p k : Int) : Prop := k = p ∨ k = 4 * p ∨ k = 256
theorem ok_or {p m k : Int} (h : OkM p m) (hk : OkK p k) : OkM p (bits .or .i64 m k) := by
  obtain ⟨rfl | rfl, h⟩ := h <;> rcases h with rfl | rfl | rfl | rfl | rfl | rfl | rfl <;> rcases hk with rfl | rfl | rfl <;> (refine ⟨by omega, ?_⟩; decide +kernel)
theorem ok_of {p k : Int} (hp : p = 1 ∨ p = 2) (h : OkK p k) : OkM p k := by
  refine ⟨hp, ?_⟩
  rcases h with h | h | h <;> omega
theorem ok_ne {p m : Int} (h : OkM p m) : m ≠ 0 := by
  obtain ⟨hp, h⟩ := h
  omega
def sureM (m : Int) (f : Bool) : Int × Int :=
  if bits .and .i64 m 960 = 0 then
    (if f = true then pick (bits .or .i64 (bits .and .i64 m 3) (bits .and .i64 (m / 4) 3)) (bits .and .i64 (m / 16) 3)
      else pick (bits .and .i64 m 3) (bits .or .i64 (bits .and .i64 (m / 16) 3) (bits .and .i64 (m / 4) 3)))
  else (0, 0)
theorem sure_m (b : Bel) (now limit : Int) (h : validE b.t b.m b.n = 0) : sure b now limit = sureM b.m (freshB now b.t limit) := by
  unfold sure sureM
  by_cases h2 : bits .and .i64 b.m 960 = 0
  · rw [if_pos ⟨h, h2⟩, if_pos h2]
  · rw [if_neg (fun h3 => h2 h3.2), if_neg h2]
theorem ok_valid {p m t : Int} (h : OkM p m) (h0 : 0 ≤ t) (h1 : t ≤ 16777216) : validE t m 0 = 0 := by
  have hb : bits .andNot .i64 m 1023 = 0 := by
    obtain ⟨rfl | rfl, h⟩ := h <;> rcases h with rfl | rfl | rfl | rfl | rfl | rfl | rfl <;> decide +kernel
  simp [validE, timeB, h0, h1, hb]
theorem ok_sure {p m t now limit : Int} (h : OkM p m) (h0 : 0 ≤ t) (h1 : t ≤ 16777216) : (sure ⟨t, m, 0⟩ now limit).1 = 2 → (sure ⟨t, m, 0⟩ now limit).2 = p := by
  rw [sure_m ⟨t, m, 0⟩ now limit (ok_valid h h0 h1)]
  generalize freshB now t limit = f
  show (sureM m f).1 = 2 → (sureM m f).2 = p
  obtain ⟨rfl | rfl, h⟩ := h <;> rcases h with rfl | rfl | rfl | rfl | rfl | rfl | rfl <;> cases f <;> decide +kernel
def Inv (T : Nat → Int) (b : Bel) (lat : Int) : Prop := (b = ⟨0, 0, 0⟩ ∧ lat = -1) ∨ ∃ (j : Nat) (m : Int), j < 12 ∧ b = ⟨j, m, 0⟩ ∧ lat = j ∧ OkM (T j) m
/-- What a report of the truth does. -/
theorem inv_step {T : Nat → Int} {b : Bel} {lat : Int} (h : Inv T b lat) {t : Nat} {p s : Int} {bb : Bool} (ht : t < 12) (hp : p = 1 ∨ p = 2) (hT : T t = 1 ∨ T t = 2) (hr : (p = T t ∧ (s = 1 ∨ s = 2) ∧ bb = false) ∨ (s = 1 ∧ bb = true)) :
    ∃ (j : Nat) (m : Int), j < 12 ∧ merge b ⟨0, p, s, t, bb⟩ = ⟨j, m, 0⟩ ∧ max lat t = j ∧ OkM (T j) m := by
  have hk : OkK (T t) (markI p s bb) := by
    rcases hr with ⟨rfl, rfl | rfl, rfl⟩ | ⟨rfl, rfl⟩ <;> simp [markI, OkK] <;> omega
  have hv : reportE 0 p s t bb 64 = 0 := by
    rcases hr with ⟨rfl, rfl | rfl, rfl⟩ | ⟨rfl, rfl⟩ <;> rcases hp with hp | hp <;> simp [reportE, timeB, hp] <;> omega
  rcases h with ⟨rfl, rfl⟩ | ⟨j, m, hj, rfl, rfl, hm⟩
  · refine ⟨t, markI p s bb, ht, ?_, by omega, ok_of hT hk⟩
    unfold merge
    rw [if_pos ⟨by decide +kernel, hv⟩, if_pos (.inl rfl)]
  · have hvb : validE j m 0 = 0 := ok_valid hm (by omega) (by omega)
    by_cases h1 : j < t
    · refine ⟨t, markI p s bb, ht, ?_, by omega, ok_of hT hk⟩
      unfold merge
      rw [if_pos ⟨hvb, hv⟩, if_pos (.inr (by simp; omega))]
    · by_cases h2 : t = j
      · subst h2
        refine ⟨t, bits .or .i64 m (markI p s bb), ht, ?_, by omega, ok_or hm hk⟩
        unfold merge
        rw [if_pos ⟨hvb, hv⟩, if_neg (by rintro (h3 | h3); exact ok_ne hm h3; simp at h3), if_pos rfl]
      · refine ⟨j, m, hj, ?_, by omega, hm⟩
        unfold merge
        rw [if_pos ⟨hvb, hv⟩, if_neg (by rintro (h3 | h3); exact ok_ne hm h3; simp at h3; omega), if_neg (by simp; omega)]
end Go.Proofs.Ytmicckgfpodahaa
