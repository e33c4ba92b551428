/- Minutes, days and shifts, by plain functions: what Make, Split, Print, Parse and Shift return; nothing of the program stands here / The text of a time is read as this time; nothing of the program stands here. -/
import Derived.Test.YtggagmafkdhjcaaGreatDoorRnP
import Derived.Lib.Bytealg
set_option linter.unusedVariables false
set_option linter.unusedSimpArgs false
namespace Go.Proofs.YtggagmafkdhjcaaGreatDoor
open Go Go.RowKit
def qN (t : Int) : Bool := decide (0 ≤ t) && decide (t ≤ 16777216)
theorem qo {t : Int} : qN t = true ↔ 0 ≤ t ∧ t ≤ 16777216 := by unfold qN; simp
def aF (d h m : Int) : Int × Int := if h < 0 ∨ 23 < h ∨ m < 0 ∨ 59 < m ∨ d < 0 ∨ 11650 < d then (0, 5) else if qN (d * 1440 + h * 60 + m) = true then (d * 1440 + h * 60 + m, 0) else (0, 5)
def dayP (t : Int) : Int := if qN t = true then t / 1440 else 0
def qV (t : Int) : Int := if qN t = true then t % 1440 / 60 else 0
def minP (t : Int) : Int := if qN t = true then t % 60 else 0
def vV : ByteArray := ⟨#[48]⟩
def qz : ByteArray := ⟨#[47]⟩
def eI : ByteArray := ⟨#[58]⟩
def twoP (n : Int) : ByteArray := if n < 10 then vV ++ txtP n else txtP n
def qH (t : Int) : ByteArray := if qN t = true then txtP (dayP t) ++ qz ++ twoP (qV t) ++ eI ++ twoP (minP t) else ByteArray.empty
def mL (t : Int) : Int := if qN t = true then 0 else 11
/-- What stands ahead of the first slash, and behind it. -/
def cutP : List UInt8 → Option (List UInt8 × List UInt8)
  | [] => none
  | c :: l => if c = 47 then some ([], l) else (cutP l).map fun p => (c :: p.1, p.2)
theorem fM : ∀ {l : List UInt8}, cutP l = none ↔ (47 : UInt8) ∉ l
  | [] => by simp [cutP]
  | c :: l => by
    unfold cutP
    by_cases h : c = 47
    · simp [h]
    · rw [if_neg h, Option.map_eq_none_iff, fM]
      simp [Ne.symm h]
theorem bF : ∀ {l f r : List UInt8}, cutP l = some (f, r) → l = f ++ 47 :: r ∧ (47 : UInt8) ∉ f
  | [], f, r, h => by cases h
  | c :: l, f, r, h => by
    unfold cutP at h
    by_cases hc : c = 47
    · rw [if_pos hc] at h
      injection h with h
      injection h with h1 h2
      subst h1; subst h2
      exact ⟨by simp [hc], by simp⟩
    · rw [if_neg hc, Option.map_eq_some_iff] at h
      obtain ⟨⟨f2, r2⟩, h1, h2⟩ := h
      injection h2 with h2 h3
      subst h2; subst h3
      obtain ⟨e1, e2⟩ := bF h1
      exact ⟨by simp [e1], by simp [e2, Ne.symm hc]⟩
def gE (d : Int) : List UInt8 → Int × Int
  | [a, b, c, x, y] => if c = 58 ∧ qO a = true ∧ qO b = true ∧ qO x = true ∧ qO y = true then
      (if (aF d (dig a * 10 + dig b) (dig x * 10 + dig y)).2 = 0 then ((aF d (dig a * 10 + dig b) (dig x * 10 + dig y)).1, 0) else (0, 2)) else (0, 2)
  | _ => (0, 2)
def qK (f r : List UInt8) : Int × Int := match numP f 16777216 with
  | some d => gE d r
  | none => (0, 2)
def jj (l : List UInt8) : Int × Int := match cutP l with
  | some p => qK p.1 p.2
  | none => (0, 2)
theorem fX {d : Int} {r : List UInt8} (h : r.length ≠ 5) : gE d r = (0, 2) := by
  match r, h with
  | [], _ => rfl
  | [_], _ => rfl
  | [_, _], _ => rfl
  | [_, _, _], _ => rfl
  | [_, _, _, _], _ => rfl
  | [_, _, _, _, _], h => exact absurd rfl h
  | _ :: _ :: _ :: _ :: _ :: _ :: _, _ => rfl
theorem mX {f r : List UInt8} (h : r.length ≠ 5) : qK f r = (0, 2) := by
  unfold qK
  split
  · exact fX h
  · rfl
theorem fO {most : Int} : ∀ {l : List UInt8} {n : Int}, (47 : UInt8) ∈ l → jr most l n = none
  | [], _, h => by simp at h
  | c :: l, n, h => by
    rw [jr]
    by_cases hc : c = 47
    · subst hc
      have e : (((47 : UInt8).toNat : Nat) : Int) - 48 = -1 := rfl
      rw [e, jt, if_pos (by omega)]; rfl
    · have hl : (47 : UInt8) ∈ l := by
        rcases List.mem_cons.1 h with h | h
        · exact absurd h.symm hc
        · exact h
      cases jt most n ((c.toNat : Int) - 48) with
      | none => rfl
      | some m => exact fO hl
theorem tA {most : Int} {l : List UInt8} (h : (47 : UInt8) ∈ l) : numP l most = none := by
  unfold numP
  split
  · rfl
  · split
    · rfl
    · exact fO h
theorem mB {f r : List UInt8} (h : (47 : UInt8) ∈ f) : qK f r = (0, 2) := by
  unfold qK
  rw [tA h]
/-- What a text of seven bytes and more is read as: its sixth last byte is the slash. -/
theorem kP (f t : List UInt8) (s6 : UInt8) (ht : t.length = 5) : jj (f ++ s6 :: t) = if s6 = 47 then qK f t else (0, 2) := by
  unfold jj
  cases hc : cutP (f ++ s6 :: t) with
  | none =>
    have := fM.1 hc
    rw [if_neg (fun e => this (by simp [e]))]
  | some p =>
    obtain ⟨f', r⟩ := p
    obtain ⟨e1, e2⟩ := bF hc
    show qK f' r = _
    by_cases hr : r.length = 5
    · have hl := congrArg List.length e1
      simp at hl
      obtain ⟨h1, h2⟩ := List.append_inj e1 (by omega)
      injection h2 with h3 h4
      subst h1; subst h4
      rw [if_pos h3]
    · rw [mX hr]
      by_cases h6 : s6 = 47
      · rw [if_pos h6]
        subst h6
        have hl := congrArg List.length e1
        simp at hl
        rcases Nat.lt_trichotomy f'.length f.length with h | h | h
        · have hmem : (47 : UInt8) ∈ f := by
            have h1 : (f ++ 47 :: t)[f'.length]? = some 47 := by rw [e1]; simp
            rw [List.getElem?_append_left h] at h1
            exact List.mem_of_getElem? h1
          rw [mB hmem]
        · omega
        · exfalso
          have h1 : (f' ++ 47 :: r)[f.length]? = some 47 := by rw [← e1]; simp
          rw [List.getElem?_append_left h] at h1
          exact e2 (List.mem_of_getElem? h1)
      · rw [if_neg h6]
theorem pF {d h m : Int} (hr : h < 0 ∨ 23 < h ∨ m < 0 ∨ 59 < m ∨ d < 0 ∨ 11650 < d) : aF d h m = (0, 5) := if_pos hr
theorem iK {d h m : Int} (hr : ¬ (h < 0 ∨ 23 < h ∨ m < 0 ∨ 59 < m ∨ d < 0 ∨ 16777216 < d)) : aF d h m = if qN (d * 1440 + h * 60 + m) = true then (d * 1440 + h * 60 + m, 0) else (0, 5) := by
  unfold aF
  split
  · rename_i h1
    rw [if_neg]
    intro h2
    rw [qo] at h2
    omega
  · rfl
theorem iX : ∀ {l : List UInt8}, cutP l = none → Lib.indexByte l 47 = -1
  | [], _ => rfl
  | c :: l, h => by
    unfold cutP at h
    by_cases hc : c = 47
    · rw [if_pos hc] at h; cases h
    · rw [if_neg hc, Option.map_eq_none_iff] at h
      rw [Lib.indexByte, if_neg (by simpa using hc), iX h]; rfl
theorem kH : ∀ {l f r : List UInt8}, cutP l = some (f, r) → Lib.indexByte l 47 = (f.length : Int)
  | [], f, r, h => by cases h
  | c :: l, f, r, h => by
    unfold cutP at h
    by_cases hc : c = 47
    · rw [if_pos hc] at h
      injection h with h
      injection h with h1 h2
      subst h1
      rw [Lib.indexByte, if_pos (by simpa using hc)]; rfl
    · rw [if_neg hc, Option.map_eq_some_iff] at h
      obtain ⟨⟨f2, r2⟩, h1, h2⟩ := h
      injection h2 with h2 h3
      subst h2
      have ih := kH h1
      rw [Lib.indexByte, if_neg (by simpa using hc), ih, if_neg (by simp)]
      show (f2.length : Int) + 1 = ((c :: f2).length : Int)
      rw [List.length_cons]
      omega
theorem gW {c : UInt8} (h : qO c = true) : 0 ≤ dig c ∧ dig c ≤ 9 ∧ (c.toNat : Int) = dig c + 48 := by
  obtain ⟨h1, h2⟩ := oO.1 h
  exact ⟨h1, h2, by unfold dig; omega⟩
end Go.Proofs.YtggagmafkdhjcaaGreatDoor
namespace Go.Proofs.YtggagmafkdhjcaaGreatDoor
open Go Go.RowKit
def twoL (n : Nat) : List UInt8 := [UInt8.ofNat (48 + n / 10), UInt8.ofNat (48 + n % 10)]
theorem pX : ∀ n : Fin 60, (twoP (n.val : Int)).data.toList = twoL n.val ∧ qO (UInt8.ofNat (48 + n.val / 10)) = true ∧ qO (UInt8.ofNat (48 + n.val % 10)) = true ∧ dig (UInt8.ofNat (48 + n.val / 10)) * 10 + dig (UInt8.ofNat (48 + n.val % 10)) = (n.val : Int) := by
  decide +kernel
theorem oF {n : Int} (h0 : 0 ≤ n) (h1 : n < 60) : ∃ a b : UInt8, (twoP n).data.toList = [a, b] ∧ qO a = true ∧ qO b = true ∧ dig a * 10 + dig b = n := by
  obtain ⟨k, hk⟩ : ∃ k : Fin 60, n = (k.val : Int) := ⟨⟨n.toNat, by omega⟩, by simp; omega⟩
  subst hk
  obtain ⟨h1, h2, h3, h4⟩ := pX k
  exact ⟨_, _, h1, h2, h3, h4⟩
theorem aQ {t : Int} (h : qN t = true) : jj (qH t).data.toList = (t, 0) ∧ mL t = 0 ∧ 7 ≤ (qH t).size ∧ (qH t).size ≤ 100 := by
  have hb := qo.1 h
  have hD : dayP t = t / 1440 := if_pos h
  have hH : qV t = t % 1440 / 60 := if_pos h
  have hM : minP t = t % 60 := if_pos h
  obtain ⟨a, b, e1, da, db, ea⟩ := oF (n := qV t) (by omega) (by omega)
  obtain ⟨x, y, e2, dx, dy, ex⟩ := oF (n := minP t) (by omega) (by omega)
  have hl : (qH t).data.toList = Lib.itoa (dayP t) ++ 47 :: [a, b, 58, x, y] := by
    unfold qH
    rw [if_pos h]
    simp only [ByteArray.data_append, Array.toList_append]
    rw [e1, e2]
    simp [txtP, qz, eI]
  have hz : (qH t).size = (Lib.itoa (dayP t)).length + 6 := by
    have e : (qH t).size = (qH t).data.toList.length := by simp
    rw [e, hl]; simp
  have hlen := fC (n := dayP t) (by omega) (by omega)
  have hne : (Lib.itoa (dayP t)).length ≠ 0 := fun e => oJ _ (List.eq_nil_of_length_eq_zero e)
  refine ⟨?_, if_pos h, by omega, by omega⟩
  rw [hl, kP _ _ _ rfl, if_pos rfl]
  unfold qK
  rw [fK, if_neg (by omega), if_pos (by omega)]
  show (if _ then _ else _) = _
  rw [if_pos ⟨rfl, da, db, dx, dy⟩, ea, ex]
  have hmk : aF (dayP t) (qV t) (minP t) = (t, 0) := by
    rw [iK (by omega)]
    have e : dayP t * 1440 + qV t * 60 + minP t = t := by omega
    rw [e, if_pos h]
  rw [hmk]
  rfl
end Go.Proofs.YtggagmafkdhjcaaGreatDoor
