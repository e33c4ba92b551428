/- The text of a time is read as this time; nothing of the program stands here. -/
import Derived.Test.YtdejgacclogaiaaDoorCaP
set_option linter.unusedVariables false
set_option linter.unusedSimpArgs false
namespace Go.Proofs.YtdejgacclogaiaaDoor
open Go Go.RowKit
def twoL (n : Nat) : List UInt8 := [UInt8.ofNat (48 + n / 10), UInt8.ofNat (48 + n % 10)]
theorem twoP_fin : ∀ n : Fin 60, (twoP (n.val : Int)).data.toList = twoL n.val ∧ isDig (UInt8.ofNat (48 + n.val / 10)) = true ∧ isDig (UInt8.ofNat (48 + n.val % 10)) = true ∧ dig (UInt8.ofNat (48 + n.val / 10)) * 10 + dig (UInt8.ofNat (48 + n.val % 10)) = (n.val : Int) := by
  decide +kernel
theorem twoP_at {n : Int} (h0 : 0 ≤ n) (h1 : n < 60) : ∃ a b : UInt8, (twoP n).data.toList = [a, b] ∧ isDig a = true ∧ isDig b = true ∧ dig a * 10 + dig b = n := by
  obtain ⟨k, hk⟩ : ∃ k : Fin 60, n = (k.val : Int) := ⟨⟨n.toNat, by omega⟩, by simp; omega⟩
  subst hk
  obtain ⟨h1, h2, h3, h4⟩ := twoP_fin k
  exact ⟨_, _, h1, h2, h3, h4⟩
theorem print_parse {t : Int} (h : timeB t = true) : parseP (printP t).data.toList = (t, 0) ∧ printE t = 0 ∧ 7 ≤ (printP t).size ∧ (printP t).size ≤ 100 := by
  have hb := timeB_iff.1 h
  have hD : dayP t = t / 1440 := if_pos h
  have hH : hourP t = t % 1440 / 60 := if_pos h
  have hM : minP t = t % 60 := if_pos h
  obtain ⟨a, b, e1, da, db, ea⟩ := twoP_at (n := hourP t) (by omega) (by omega)
  obtain ⟨x, y, e2, dx, dy, ex⟩ := twoP_at (n := minP t) (by omega) (by omega)
  have hl : (printP t).data.toList = Lib.itoa (dayP t) ++ 47 :: [a, b, 58, x, y] := by
    unfold printP
    rw [if_pos h]
    simp only [ByteArray.data_append, Array.toList_append]
    rw [e1, e2]
    simp [txtP, slashS, colonS]
  have hz : (printP t).size = (Lib.itoa (dayP t)).length + 6 := by
    have e : (printP t).size = (printP t).data.toList.length := by simp
    rw [e, hl]; simp
  have hlen := itoa_len (n := dayP t) (by omega) (by omega)
  have hne : (Lib.itoa (dayP t)).length ≠ 0 := fun e => itoa_ne _ (List.eq_nil_of_length_eq_zero e)
  refine ⟨?_, if_pos h, by omega, by omega⟩
  rw [hl, parse_split _ _ _ rfl, if_pos rfl]
  unfold partsP
  rw [numP_itoa, if_neg (by omega), if_pos (by omega)]
  show (if _ then _ else _) = _
  rw [if_pos ⟨rfl, da, db, dx, dy⟩, ea, ex]
  have hmk : makeP (dayP t) (hourP t) (minP t) = (t, 0) := by
    rw [makeP_ok (by omega)]
    have e : dayP t * 1440 + hourP t * 60 + minP t = t := by omega
    rw [e, if_pos h]
  rw [hmk]
  rfl
end Go.Proofs.YtdejgacclogaiaaDoor
