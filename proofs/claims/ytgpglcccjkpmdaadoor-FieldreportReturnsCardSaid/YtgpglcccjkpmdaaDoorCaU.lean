/- Minutes, days and shifts, by plain functions: what Make, Split, Print, Parse and Shift return; nothing of the program stands here / The text of a time is read as this time; nothing of the program stands here. -/
import Derived.Test.YtgpglcccjkpmdaaDoorRnP
import Derived.Lib.Bytealg
set_option linter.unusedVariables false
set_option linter.unusedSimpArgs false
namespace Go.Proofs.YtgpglcccjkpmdaaDoor
open Go Go.RowKit
def timeB (t : Int) : Bool := decide (0 ≤ t) && decide (t ≤ 16777216)
theorem timeB_iff {t : Int} : timeB t = true ↔ 0 ≤ t ∧ t ≤ 16777216 := by unfold timeB; simp
theorem timeB_no {t : Int} : timeB t = false ↔ t < 0 ∨ 16777216 < t := by
  cases h : timeB t with
  | true => rw [timeB_iff] at h; simp; omega
  | false =>
    simp
    apply Decidable.byContradiction
    intro h2
    rw [timeB_iff.2 (by omega)] at h
    cases h
def makeP (d h m : Int) : Int × Int := if h < 0 ∨ 23 < h ∨ m < 0 ∨ 59 < m ∨ d < 0 ∨ 11650 < d then (0, 5) else if timeB (d * 1440 + h * 60 + m) = true then (d * 1440 + h * 60 + m, 0) else (0, 5)
def dayP (t : Int) : Int := if timeB t = true then t / 1440 else 0
def hourP (t : Int) : Int := if timeB t = true then t % 1440 / 60 else 0
def minP (t : Int) : Int := if timeB t = true then t % 60 else 0
def zeroS : ByteArray := ⟨#[48]⟩
def slashS : ByteArray := ⟨#[47]⟩
def colonS : ByteArray := ⟨#[58]⟩
def twoP (n : Int) : ByteArray := if n < 10 then zeroS ++ txtP n else txtP n
def printP (t : Int) : ByteArray := if timeB t = true then txtP (dayP t) ++ slashS ++ twoP (hourP t) ++ colonS ++ twoP (minP t) else ByteArray.empty
def printE (t : Int) : Int := if timeB t = true then 0 else 11
/-- What stands ahead of the first slash, and behind it. -/
def cutP : List UInt8 → Option (List UInt8 × List UInt8)
  | [] => none
  | c :: l => if c = 47 then some ([], l) else (cutP l).map fun p => (c :: p.1, p.2)
theorem cutP_none : ∀ {l : List UInt8}, cutP l = none ↔ (47 : UInt8) ∉ l
  | [] => by simp [cutP]
  | c :: l => by
    unfold cutP
    by_cases h : c = 47
    · simp [h]
    · rw [if_neg h, Option.map_eq_none_iff, cutP_none]
      simp [Ne.symm h]
theorem cutP_some : ∀ {l f r : List UInt8}, cutP l = some (f, r) → l = f ++ 47 :: r ∧ (47 : UInt8) ∉ f
  | [], f, r, h => by cases h
  | c :: l, f, r, h => by
    unfold cutP at h
    by_cases hc : c = 47
    · rw [if_pos hc] at h
      injection h with h
      injection h with h1 h2
      subst h1; subst h2
      exact ⟨by simp [hc], by simp⟩
    · rw [if_neg hc, Option.map_eq_some_iff] at h
      obtain ⟨⟨f2, r2⟩, h1, h2⟩ := h
      injection h2 with h2 h3
      subst h2; subst h3
      obtain ⟨e1, e2⟩ := cutP_some h1
      exact ⟨by simp [e1], by simp [e2, Ne.symm hc]⟩
def tailP (d : Int) : List UInt8 → Int × Int
  | [a, b, c, x, y] => if c = 58 ∧ isDig a = true ∧ isDig b = true ∧ isDig x = true ∧ isDig y = true then
      (if (makeP d (dig a * 10 + dig b) (dig x * 10 + dig y)).2 = 0 then ((makeP d (dig a * 10 + dig b) (dig x * 10 + dig y)).1, 0) else (0, 2)) else (0, 2)
  | _ => (0, 2)
def partsP (f r : List UInt8) : Int × Int := match numP f 16777216 with
  | some d => tailP d r
  | none => (0, 2)
def parseP (l : List UInt8) : Int × Int := match cutP l with
  | some p => partsP p.1 p.2
  | none => (0, 2)
theorem tailP_len {d : Int} {r : List UInt8} (h : r.length ≠ 5) : tailP d r = (0, 2) := by
  match r, h with
  | [], _ => rfl
  | [_], _ => rfl
  | [_, _], _ => rfl
  | [_, _, _], _ => rfl
  | [_, _, _, _], _ => rfl
  | [_, _, _, _, _], h => exact absurd rfl h
  | _ :: _ :: _ :: _ :: _ :: _ :: _, _ => rfl
theorem partsP_len {f r : List UInt8} (h : r.length ≠ 5) : partsP f r = (0, 2) := by
  unfold partsP
  split
  · exact tailP_len h
  · rfl
theorem numGo_bad {most : Int} : ∀ {l : List UInt8} {n : Int}, (47 : UInt8) ∈ l → numGo most l n = none
  | [], _, h => by simp at h
  | c :: l, n, h => by
    rw [numGo]
    by_cases hc : c = 47
    · subst hc
      have e : (((47 : UInt8).toNat : Nat) : Int) - 48 = -1 := rfl
      rw [e, numStep, if_pos (by omega)]; rfl
    · have hl : (47 : UInt8) ∈ l := by
        rcases List.mem_cons.1 h with h | h
        · exact absurd h.symm hc
        · exact h
      cases numStep most n ((c.toNat : Int) - 48) with
      | none => rfl
      | some m => exact numGo_bad hl
theorem numP_bad {most : Int} {l : List UInt8} (h : (47 : UInt8) ∈ l) : numP l most = none := by
  unfold numP
  split
  · rfl
  · split
    · rfl
    · exact numGo_bad h
theorem partsP_bad {f r : List UInt8} (h : (47 : UInt8) ∈ f) : partsP f r = (0, 2) := by
  unfold partsP
  rw [numP_bad h]
/-- What a text of seven bytes and more is read as: its sixth last byte is the slash. -/
theorem parse_split (f t : List UInt8) (s6 : UInt8) (ht : t.length = 5) : parseP (f ++ s6 :: t) = if s6 = 47 then partsP f t else (0, 2) := by
  unfold parseP
  cases hc : cutP (f ++ s6 :: t) with
  | none =>
    have := cutP_none.1 hc
    rw [if_neg (fun e => this (by simp [e]))]
  | some p =>
    obtain ⟨f', r⟩ := p
    obtain ⟨e1, e2⟩ := cutP_some hc
    show partsP f' r = _
    by_cases hr : r.length = 5
    · have hl := congrArg List.length e1
      simp at hl
      obtain ⟨h1, h2⟩ := List.append_inj e1 (by omega)
      injection h2 with h3 h4
      subst h1; subst h4
      rw [if_pos h3]
    · rw [partsP_len hr]
      by_cases h6 : s6 = 47
      · rw [if_pos h6]
        subst h6
        have hl := congrArg List.length e1
        simp at hl
        rcases Nat.lt_trichotomy f'.length f.length with h | h | h
        · have hmem : (47 : UInt8) ∈ f := by
            have h1 : (f ++ 47 :: t)[f'.length]? = some 47 := by rw [e1]; simp
            rw [List.getElem?_append_left h] at h1
            exact List.mem_of_getElem? h1
          rw [partsP_bad hmem]
        · omega
        · exfalso
          have h1 : (f' ++ 47 :: r)[f.length]? = some 47 := by rw [← e1]; simp
          rw [List.getElem?_append_left h] at h1
          exact e2 (List.mem_of_getElem? h1)
      · rw [if_neg h6]
theorem parse_short {l : List UInt8} (h : l.length < 7) : parseP l = (0, 2) := by
  unfold parseP
  cases hc : cutP l with
  | none => rfl
  | some p =>
    obtain ⟨f, r⟩ := p
    obtain ⟨e1, -⟩ := cutP_some hc
    have hl := congrArg List.length e1
    simp at hl
    show partsP f r = _
    by_cases hr : r.length = 5
    · have hf : f = [] := List.eq_nil_of_length_eq_zero (by omega)
      subst hf
      rfl
    · exact partsP_len hr
def goodH (h : Int) : Bool := decide (h = 1) || decide (h = 2) || decide (h = 3) || decide (h = 4) || decide (h = 6) || decide (h = 8) || decide (h = 12) || decide (h = 24)
def shiftP (t h : Int) : Int × Int := if timeB t = false then (0, 11) else if goodH h = false then (0, 5) else ((t - 360) / (60 * h), 0)
theorem goodH_iff {h : Int} : goodH h = true ↔ h = 1 ∨ h = 2 ∨ h = 3 ∨ h = 4 ∨ h = 6 ∨ h = 8 ∨ h = 12 ∨ h = 24 := by
  unfold goodH; simp [or_assoc]
theorem goodH_mod {h : Int} (h1 : 1 ≤ h) (h2 : h ≤ 24) : goodH h = true ↔ (24 : Int).tmod h = 0 := by
  rw [goodH_iff]
  obtain ⟨k, hk⟩ : ∃ k : Fin 25, h = (k.val : Int) := ⟨⟨h.toNat, by omega⟩, by simp; omega⟩
  subst hk
  revert k
  decide +kernel
/-- The hours of shifts, as they come. -/
def goodL : Nat → List Int
  | 0 => []
  | k + 1 => if (24 : Int).tmod ((k : Int) + 1) = 0 then goodL k ++ [(k : Int) + 1] else goodL k
theorem goodL_mem : ∀ (k : Nat) (h : Int), h ∈ goodL k ↔ 1 ≤ h ∧ h ≤ k ∧ (24 : Int).tmod h = 0
  | 0, h => by simp [goodL]; omega
  | k + 1, h => by
    unfold goodL
    have ih := goodL_mem k h
    split
    · rename_i h0
      rw [List.mem_append, ih]
      simp only [List.mem_singleton]
      constructor
      · rintro (⟨h1, h2, h3⟩ | rfl)
        · exact ⟨h1, by omega, h3⟩
        · exact ⟨by omega, by omega, h0⟩
      · rintro ⟨h1, h2, h3⟩
        by_cases he : h = (k : Int) + 1
        · exact .inr he
        · exact .inl ⟨h1, by omega, h3⟩
    · rename_i h0
      rw [ih]
      constructor
      · rintro ⟨h1, h2, h3⟩
        exact ⟨h1, by omega, h3⟩
      · rintro ⟨h1, h2, h3⟩
        refine ⟨h1, ?_, h3⟩
        have : h ≠ (k : Int) + 1 := fun e => h0 (by rw [← e]; exact h3)
        omega
theorem goodH_rng {h : Int} (hg : goodH h = true) : 1 ≤ h ∧ h ≤ 24 := by
  have := goodH_iff.1 hg
  omega
theorem goodH_bad {h : Int} (h0 : h < 1 ∨ 24 < h) : goodH h = false := by
  cases hg : goodH h with
  | false => rfl
  | true => have := goodH_rng hg; omega
theorem goodL_24 (h : Int) : h ∈ goodL 24 ↔ goodH h = true := by
  rw [goodL_mem]
  constructor
  · rintro ⟨h1, h2, h3⟩
    exact (goodH_mod h1 (by omega)).2 h3
  · intro hg
    obtain ⟨h1, h2⟩ := goodH_rng hg
    exact ⟨h1, by omega, (goodH_mod h1 h2).1 hg⟩
def lenL (k : Nat) : List (Value × Value) := (goodL k).map fun h => (.int .i64 h, .int .i64 (60 * h))
theorem makeP_bad {d h m : Int} (hr : h < 0 ∨ 23 < h ∨ m < 0 ∨ 59 < m ∨ d < 0 ∨ 11650 < d) : makeP d h m = (0, 5) := if_pos hr
theorem makeP_big {d h m : Int} (hr : h < 0 ∨ 23 < h ∨ m < 0 ∨ 59 < m ∨ d < 0 ∨ 16777216 < d) : makeP d h m = (0, 5) := makeP_bad (by omega)
theorem makeP_ok {d h m : Int} (hr : ¬ (h < 0 ∨ 23 < h ∨ m < 0 ∨ 59 < m ∨ d < 0 ∨ 16777216 < d)) : makeP d h m = if timeB (d * 1440 + h * 60 + m) = true then (d * 1440 + h * 60 + m, 0) else (0, 5) := by
  unfold makeP
  split
  · rename_i h1
    rw [if_neg]
    intro h2
    rw [timeB_iff] at h2
    omega
  · rfl
theorem fdiv_neg {a n : Int} (hn : 0 < n) (ha : a < 0) : - ((n - 1 - a) / n) = a / n := by
  have h1 := Int.mul_ediv_add_emod (n - 1 - a) n
  have h2 := Int.emod_nonneg (n - 1 - a) (show n ≠ 0 by omega)
  have h3 := Int.emod_lt_of_pos (n - 1 - a) hn
  generalize (n - 1 - a) / n = q at *
  symm
  rw [Int.ediv_eq_iff_of_pos hn]
  have h4 : -q * n = -(n * q) := by rw [Int.neg_mul, Int.mul_comm]
  have h5 : (-q + 1) * n = -(n * q) + n := by rw [Int.add_mul, h4]; omega
  rw [h4]
  constructor <;> omega
theorem idx_none : ∀ {l : List UInt8}, cutP l = none → Lib.indexByte l 47 = -1
  | [], _ => rfl
  | c :: l, h => by
    unfold cutP at h
    by_cases hc : c = 47
    · rw [if_pos hc] at h; cases h
    · rw [if_neg hc, Option.map_eq_none_iff] at h
      rw [Lib.indexByte, if_neg (by simpa using hc), idx_none h]; rfl
theorem idx_some : ∀ {l f r : List UInt8}, cutP l = some (f, r) → Lib.indexByte l 47 = (f.length : Int)
  | [], f, r, h => by cases h
  | c :: l, f, r, h => by
    unfold cutP at h
    by_cases hc : c = 47
    · rw [if_pos hc] at h
      injection h with h
      injection h with h1 h2
      subst h1
      rw [Lib.indexByte, if_pos (by simpa using hc)]; rfl
    · rw [if_neg hc, Option.map_eq_some_iff] at h
      obtain ⟨⟨f2, r2⟩, h1, h2⟩ := h
      injection h2 with h2 h3
      subst h2
      have ih := idx_some h1
      rw [Lib.indexByte, if_neg (by simpa using hc), ih, if_neg (by simp)]
      show (f2.length : Int) + 1 = ((c :: f2).length : Int)
      rw [List.length_cons]
      omega
/-- What stands at the four places of the digits. -/
def posT : List Int := [0, 1, 3, 4]
theorem dig_rng {c : UInt8} (h : isDig c = true) : 0 ≤ dig c ∧ dig c ≤ 9 ∧ (c.toNat : Int) = dig c + 48 := by
  obtain ⟨h1, h2⟩ := isDig_iff.1 h
  exact ⟨h1, h2, by unfold dig; omega⟩
theorem shiftP_bad {t h : Int} (ht : timeB t = false) : shiftP t h = (0, 11) := if_pos ht
theorem shiftP_hours {t h : Int} (ht : timeB t = true) (hh : goodH h = false) : shiftP t h = (0, 5) := by
  unfold shiftP
  rw [if_neg (by rw [ht]; decide), if_pos hh]
theorem shiftP_ok {t h : Int} (ht : timeB t = true) (hh : goodH h = true) : shiftP t h = ((t - 360) / (60 * h), 0) := by
  unfold shiftP
  rw [if_neg (by rw [ht]; decide), if_neg (by rw [hh]; decide)]
end Go.Proofs.YtgpglcccjkpmdaaDoor
namespace Go.Proofs.YtgpglcccjkpmdaaDoor
open Go Go.RowKit
def twoL (n : Nat) : List UInt8 := [UInt8.ofNat (48 + n / 10), UInt8.ofNat (48 + n % 10)]
theorem twoP_fin : ∀ n : Fin 60, (twoP (n.val : Int)).data.toList = twoL n.val ∧ isDig (UInt8.ofNat (48 + n.val / 10)) = true ∧ isDig (UInt8.ofNat (48 + n.val % 10)) = true ∧ dig (UInt8.ofNat (48 + n.val / 10)) * 10 + dig (UInt8.ofNat (48 + n.val % 10)) = (n.val : Int) := by
  decide +kernel
theorem twoP_at {n : Int} (h0 : 0 ≤ n) (h1 : n < 60) : ∃ a b : UInt8, (twoP n).data.toList = [a, b] ∧ isDig a = true ∧ isDig b = true ∧ dig a * 10 + dig b = n := by
  obtain ⟨k, hk⟩ : ∃ k : Fin 60, n = (k.val : Int) := ⟨⟨n.toNat, by omega⟩, by simp; omega⟩
  subst hk
  obtain ⟨h1, h2, h3, h4⟩ := twoP_fin k
  exact ⟨_, _, h1, h2, h3, h4⟩
theorem print_parse {t : Int} (h : timeB t = true) : parseP (printP t).data.toList = (t, 0) ∧ printE t = 0 ∧ 7 ≤ (printP t).size ∧ (printP t).size ≤ 100 := by
  have hb := timeB_iff.1 h
  have hD : dayP t = t / 1440 := if_pos h
  have hH : hourP t = t % 1440 / 60 := if_pos h
  have hM : minP t = t % 60 := if_pos h
  obtain ⟨a, b, e1, da, db, ea⟩ := twoP_at (n := hourP t) (by omega) (by omega)
  obtain ⟨x, y, e2, dx, dy, ex⟩ := twoP_at (n := minP t) (by omega) (by omega)
  have hl : (printP t).data.toList = Lib.itoa (dayP t) ++ 47 :: [a, b, 58, x, y] := by
    unfold printP
    rw [if_pos h]
    simp only [ByteArray.data_append, Array.toList_append]
    rw [e1, e2]
    simp [txtP, slashS, colonS]
  have hz : (printP t).size = (Lib.itoa (dayP t)).length + 6 := by
    have e : (printP t).size = (printP t).data.toList.length := by simp
    rw [e, hl]; simp
  have hlen := itoa_len (n := dayP t) (by omega) (by omega)
  have hne : (Lib.itoa (dayP t)).length ≠ 0 := fun e => itoa_ne _ (List.eq_nil_of_length_eq_zero e)
  refine ⟨?_, if_pos h, by omega, by omega⟩
  rw [hl, parse_split _ _ _ rfl, if_pos rfl]
  unfold partsP
  rw [numP_itoa, if_neg (by omega), if_pos (by omega)]
  show (if _ then _ else _) = _
  rw [if_pos ⟨rfl, da, db, dx, dy⟩, ea, ex]
  have hmk : makeP (dayP t) (hourP t) (minP t) = (t, 0) := by
    rw [makeP_ok (by omega)]
    have e : dayP t * 1440 + hourP t * 60 + minP t = t := by omega
    rw [e, if_pos h]
  rw [hmk]
  rfl
end Go.Proofs.YtgpglcccjkpmdaaDoor
