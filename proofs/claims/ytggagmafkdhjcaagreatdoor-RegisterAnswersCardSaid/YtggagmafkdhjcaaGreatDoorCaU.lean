/- Texts of lines of words, names of a network found again, by plain functions; nothing of the program stands here / Minutes, days and shifts, by plain functions: what Make, Split, Print, Parse and Shift return; nothing of the program stands here / The text of a time is read as this time; nothing of the program stands here. -/
import Derived.Test.YtggagmafkdhjcaaGreatDoorNetP
import Derived.Test.YtggagmafkdhjcaaGreatDoorLnP
import Derived.Test.YtggagmafkdhjcaaGreatDoorRnP
import Derived.Test.YtggagmafkdhjcaaGreatDoorLxB
import Derived.Lib.Bytealg
set_option linter.unusedVariables false
set_option linter.unusedSimpArgs false
namespace Go.Proofs.YtggagmafkdhjcaaGreatDoor
open Go Go.RowKit
def txtOf (L : List (List UInt8)) : List UInt8 := L.flatMap fun l => l ++ [10]
def okC (c : UInt8) : Prop := 32 ≤ c.toNat ∧ c.toNat ≤ 126
def wAt (W : List (List UInt8)) (k : Nat) : List UInt8 := (W[k]?).getD []
theorem name_sp {l : List UInt8} (h : nameB l = true) : l ≠ [] ∧ (∀ c ∈ l, c ≠ 32) ∧ l.length ≤ 12 := by
  unfold nameB at h
  simp only [Bool.and_eq_true, decide_eq_true_eq] at h
  obtain ⟨⟨h1, h2⟩, h3⟩ := h
  refine ⟨by rintro rfl; simp at h2, ?_, h3⟩
  have key : ∀ (l : List UInt8) (f : Bool), fitsAll l f = true → ∀ c ∈ l, c ≠ 32 := by
    intro l
    induction l with
    | nil => intro f _ c hc; cases hc
    | cons x r ih =>
      intro f hf c hc
      rw [fitsAll, Bool.and_eq_true] at hf
      rcases List.mem_cons.1 hc with rfl | hc
      · rintro rfl
        have : fitsB (32 : UInt8).toNat f = false := by cases f <;> decide +kernel
        rw [this] at hf; cases hf.1
      · exact ih _ hf.2 c hc
  exact key l true h1
theorem digit_sp {d : Nat} (h : d < 10) : UInt8.ofNat (48 + d) ≠ 32 := by
  intro e
  have := congrArg UInt8.toNat e
  simp at this
  omega
theorem dec_sp : ∀ n : Nat, ∀ c ∈ Lib.decDigits n, c ≠ (32 : UInt8) := by
  intro n
  induction n using Nat.strongRecOn with
  | _ n ih =>
    intro c hc
    rw [Lib.decDigits] at hc
    split at hc
    · rename_i h
      rw [List.mem_singleton.1 hc]
      exact digit_sp h
    · rename_i h
      rcases List.mem_append.1 hc with hc | hc
      · exact ih (n / 10) (by omega) c hc
      · rw [List.mem_singleton.1 hc]
        exact digit_sp (Nat.mod_lt _ (by decide))
theorem itoa_sp (n : Int) : ∀ c ∈ Lib.itoa n, c ≠ (32 : UInt8) := by
  intro c hc
  unfold Lib.itoa at hc
  split at hc
  · rcases List.mem_cons.1 hc with rfl | hc
    · decide
    · exact dec_sp _ c hc
  · exact dec_sp _ c hc
theorem joinW_len2 : ∀ (W : List (List UInt8)) (b : Nat), (∀ w ∈ W, w.length ≤ b) → (joinW W).length ≤ W.length * (b + 1)
  | [], b, _ => by simp [joinW_nil]
  | [w], b, h => by have := h w (by simp); rw [joinW_one]; simp; omega
  | w :: x :: r, b, h => by
    have h1 := h w (by simp)
    have h2 := joinW_len2 (x :: r) b (fun y hy => h y (List.mem_cons_of_mem _ hy))
    rw [joinW_cons, List.length_append]
    have e : (w :: x :: r).length = (x :: r).length + 1 := rfl
    rw [e, Nat.succ_mul]
    simp only [List.length_cons] at h2 ⊢
    omega
instance (c : UInt8) : Decidable (okC c) := by unfold okC; infer_instance
theorem char_okC {c : UInt8} (h : charB c.toNat = true) : okC c ∧ c ≠ 35 ∧ c ≠ 32 := by
  unfold charB letterB digitB at h
  simp only [Bool.or_eq_true, Bool.and_eq_true, decide_eq_true_eq, beq_iff_eq] at h
  refine ⟨⟨by omega, by omega⟩, fun e => ?_, fun e => ?_⟩ <;> (subst e; simp at h)
theorem chars_okC : ∀ {l : List UInt8}, charsB l = true → ∀ c ∈ l, okC c ∧ c ≠ 35 ∧ c ≠ 32
  | [], _, c, hc => by cases hc
  | x :: r, h, c, hc => by
    rw [charsB, Bool.and_eq_true] at h
    rcases List.mem_cons.1 hc with rfl | hc
    · exact char_okC h.1
    · exact chars_okC h.2 c hc
theorem name_okC {l : List UInt8} (h : nameB l = true) : ∀ c ∈ l, okC c ∧ c ≠ 35 ∧ c ≠ 32 := by
  rw [← rname_eq] at h
  cases l with
  | nil => cases h
  | cons c r =>
    unfold rnameB at h
    simp only [Bool.and_eq_true] at h
    exact chars_okC h.2
theorem digit_okC {d : Nat} (h : d < 10) : okC (UInt8.ofNat (48 + d)) := by
  have e : (UInt8.ofNat (48 + d)).toNat = 48 + d := by simp; omega
  unfold okC
  rw [e]
  omega
theorem dec_okC : ∀ n : Nat, ∀ c ∈ Lib.decDigits n, okC c := by
  intro n
  induction n using Nat.strongRecOn with
  | _ n ih =>
    intro c hc
    rw [Lib.decDigits] at hc
    split at hc
    · rename_i h
      rw [List.mem_singleton.1 hc]
      exact digit_okC h
    · rename_i h
      rcases List.mem_append.1 hc with hc | hc
      · exact ih (n / 10) (by omega) c hc
      · rw [List.mem_singleton.1 hc]
        exact digit_okC (Nat.mod_lt _ (by decide))
theorem itoa_okC (n : Int) : ∀ c ∈ Lib.itoa n, okC c := by
  intro c hc
  unfold Lib.itoa at hc
  split at hc
  · rcases List.mem_cons.1 hc with rfl | hc
    · decide
    · exact dec_okC _ c hc
  · exact dec_okC _ c hc
theorem join_okC : ∀ {W : List (List UInt8)}, (∀ w ∈ W, ∀ c ∈ w, okC c) → ∀ c ∈ joinW W, okC c
  | [], _, c, hc => by rw [joinW_nil] at hc; cases hc
  | [w], h, c, hc => by rw [joinW_one] at hc; exact h w (by simp) c hc
  | w :: x :: r, h, c, hc => by
    rw [joinW_cons] at hc
    rcases List.mem_append.1 hc with hc | hc
    · exact h w (by simp) c hc
    · rcases List.mem_cons.1 hc with rfl | hc
      · decide
      · exact join_okC (fun y hy => h y (List.mem_cons_of_mem _ hy)) c hc
/-- A word of a programme. -/
def WdOk (w : List UInt8) : Prop := w ≠ [] ∧ (∀ c ∈ w, c ≠ 32) ∧ (∀ c ∈ w, okC c) ∧ w.length ≤ 20
instance (w : List UInt8) : Decidable (∀ c ∈ w, okC c) := by unfold okC; infer_instance
instance (w : List UInt8) : Decidable (WdOk w) := by unfold WdOk; infer_instance
theorem txt_len : ∀ {L : List (List UInt8)} {b : Nat}, (∀ l ∈ L, l.length ≤ b) → (txtOf L).length ≤ L.length * (b + 1)
  | [], b, _ => by simp [txtOf]
  | l :: L, b, h => by
    have h1 := h l (by simp)
    have h2 := txt_len (L := L) (b := b) (fun x hx => h x (by simp [hx]))
    unfold txtOf at h2 ⊢
    rw [List.flatMap_cons, List.length_append, List.length_append]
    have e : (l :: L).length = L.length + 1 := rfl
    rw [e, Nat.succ_mul]
    simp only [List.length_singleton]
    omega
theorem ll_mem : ∀ (l cur : List UInt8), ∀ w ∈ ll cur l, w.length ≤ cur.length + l.length
  | [], cur, w, h => by simp [ll] at h
  | c :: l, cur, w, h => by
    rw [ll] at h
    split at h
    · rcases List.mem_cons.1 h with rfl | h
      · simp
      · have := ll_mem l [] w h
        simp at this ⊢; omega
    · have := ll_mem l _ w h
      simp at this ⊢; omega
theorem ll_len : ∀ (l cur : List UInt8), (ll cur l).length ≤ l.length
  | [], cur => by simp [ll]
  | c :: l, cur => by
    rw [ll]
    split
    · have := ll_len l []
      simp; omega
    · have := ll_len l (cur ++ [c])
      simp; omega
theorem lines_len {l : List UInt8} : ((linesL l).getD []).length ≤ l.length ∧ ∀ w ∈ (linesL l).getD [], w.length ≤ l.length := by
  unfold linesL
  split
  · simp
  split
  · simp
  split
  · refine ⟨ll_len l [], fun w hw => ?_⟩
    have := ll_mem l [] w hw
    simpa using this
  · simp
end Go.Proofs.YtggagmafkdhjcaaGreatDoor
namespace Go.Proofs.YtggagmafkdhjcaaGreatDoor
open Go Go.RowKit
def timeB (t : Int) : Bool := decide (0 ≤ t) && decide (t ≤ 16777216)
theorem timeB_iff {t : Int} : timeB t = true ↔ 0 ≤ t ∧ t ≤ 16777216 := by unfold timeB; simp
def makeP (d h m : Int) : Int × Int := if h < 0 ∨ 23 < h ∨ m < 0 ∨ 59 < m ∨ d < 0 ∨ 11650 < d then (0, 5) else if timeB (d * 1440 + h * 60 + m) = true then (d * 1440 + h * 60 + m, 0) else (0, 5)
def dayP (t : Int) : Int := if timeB t = true then t / 1440 else 0
def hourP (t : Int) : Int := if timeB t = true then t % 1440 / 60 else 0
def minP (t : Int) : Int := if timeB t = true then t % 60 else 0
def zeroS : ByteArray := ⟨#[48]⟩
def slashS : ByteArray := ⟨#[47]⟩
def colonS : ByteArray := ⟨#[58]⟩
def twoP (n : Int) : ByteArray := if n < 10 then zeroS ++ txtP n else txtP n
def printP (t : Int) : ByteArray := if timeB t = true then txtP (dayP t) ++ slashS ++ twoP (hourP t) ++ colonS ++ twoP (minP t) else ByteArray.empty
def printE (t : Int) : Int := if timeB t = true then 0 else 11
/-- What stands ahead of the first slash, and behind it. -/
def cutP : List UInt8 → Option (List UInt8 × List UInt8)
  | [] => none
  | c :: l => if c = 47 then some ([], l) else (cutP l).map fun p => (c :: p.1, p.2)
theorem cutP_none : ∀ {l : List UInt8}, cutP l = none ↔ (47 : UInt8) ∉ l
  | [] => by simp [cutP]
  | c :: l => by
    unfold cutP
    by_cases h : c = 47
    · simp [h]
    · rw [if_neg h, Option.map_eq_none_iff, cutP_none]
      simp [Ne.symm h]
theorem cutP_some : ∀ {l f r : List UInt8}, cutP l = some (f, r) → l = f ++ 47 :: r ∧ (47 : UInt8) ∉ f
  | [], f, r, h => by cases h
  | c :: l, f, r, h => by
    unfold cutP at h
    by_cases hc : c = 47
    · rw [if_pos hc] at h
      injection h with h
      injection h with h1 h2
      subst h1; subst h2
      exact ⟨by simp [hc], by simp⟩
    · rw [if_neg hc, Option.map_eq_some_iff] at h
      obtain ⟨⟨f2, r2⟩, h1, h2⟩ := h
      injection h2 with h2 h3
      subst h2; subst h3
      obtain ⟨e1, e2⟩ := cutP_some h1
      exact ⟨by simp [e1], by simp [e2, Ne.symm hc]⟩
def tailP (d : Int) : List UInt8 → Int × Int
  | [a, b, c, x, y] => if c = 58 ∧ isDig a = true ∧ isDig b = true ∧ isDig x = true ∧ isDig y = true then
      (if (makeP d (dig a * 10 + dig b) (dig x * 10 + dig y)).2 = 0 then ((makeP d (dig a * 10 + dig b) (dig x * 10 + dig y)).1, 0) else (0, 2)) else (0, 2)
  | _ => (0, 2)
def partsP (f r : List UInt8) : Int × Int := match numP f 16777216 with
  | some d => tailP d r
  | none => (0, 2)
def parseP (l : List UInt8) : Int × Int := match cutP l with
  | some p => partsP p.1 p.2
  | none => (0, 2)
theorem tailP_len {d : Int} {r : List UInt8} (h : r.length ≠ 5) : tailP d r = (0, 2) := by
  match r, h with
  | [], _ => rfl
  | [_], _ => rfl
  | [_, _], _ => rfl
  | [_, _, _], _ => rfl
  | [_, _, _, _], _ => rfl
  | [_, _, _, _, _], h => exact absurd rfl h
  | _ :: _ :: _ :: _ :: _ :: _ :: _, _ => rfl
theorem partsP_len {f r : List UInt8} (h : r.length ≠ 5) : partsP f r = (0, 2) := by
  unfold partsP
  split
  · exact tailP_len h
  · rfl
theorem numGo_bad {most : Int} : ∀ {l : List UInt8} {n : Int}, (47 : UInt8) ∈ l → numGo most l n = none
  | [], _, h => by simp at h
  | c :: l, n, h => by
    rw [numGo]
    by_cases hc : c = 47
    · subst hc
      have e : (((47 : UInt8).toNat : Nat) : Int) - 48 = -1 := rfl
      rw [e, numStep, if_pos (by omega)]; rfl
    · have hl : (47 : UInt8) ∈ l := by
        rcases List.mem_cons.1 h with h | h
        · exact absurd h.symm hc
        · exact h
      cases numStep most n ((c.toNat : Int) - 48) with
      | none => rfl
      | some m => exact numGo_bad hl
theorem numP_bad {most : Int} {l : List UInt8} (h : (47 : UInt8) ∈ l) : numP l most = none := by
  unfold numP
  split
  · rfl
  · split
    · rfl
    · exact numGo_bad h
theorem partsP_bad {f r : List UInt8} (h : (47 : UInt8) ∈ f) : partsP f r = (0, 2) := by
  unfold partsP
  rw [numP_bad h]
/-- What a text of seven bytes and more is read as: its sixth last byte is the slash. -/
theorem parse_split (f t : List UInt8) (s6 : UInt8) (ht : t.length = 5) : parseP (f ++ s6 :: t) = if s6 = 47 then partsP f t else (0, 2) := by
  unfold parseP
  cases hc : cutP (f ++ s6 :: t) with
  | none =>
    have := cutP_none.1 hc
    rw [if_neg (fun e => this (by simp [e]))]
  | some p =>
    obtain ⟨f', r⟩ := p
    obtain ⟨e1, e2⟩ := cutP_some hc
    show partsP f' r = _
    by_cases hr : r.length = 5
    · have hl := congrArg List.length e1
      simp at hl
      obtain ⟨h1, h2⟩ := List.append_inj e1 (by omega)
      injection h2 with h3 h4
      subst h1; subst h4
      rw [if_pos h3]
    · rw [partsP_len hr]
      by_cases h6 : s6 = 47
      · rw [if_pos h6]
        subst h6
        have hl := congrArg List.length e1
        simp at hl
        rcases Nat.lt_trichotomy f'.length f.length with h | h | h
        · have hmem : (47 : UInt8) ∈ f := by
            have h1 : (f ++ 47 :: t)[f'.length]? = some 47 := by rw [e1]; simp
            rw [List.getElem?_append_left h] at h1
            exact List.mem_of_getElem? h1
          rw [partsP_bad hmem]
        · omega
        · exfalso
          have h1 : (f' ++ 47 :: r)[f.length]? = some 47 := by rw [← e1]; simp
          rw [List.getElem?_append_left h] at h1
          exact e2 (List.mem_of_getElem? h1)
      · rw [if_neg h6]
theorem parse_short {l : List UInt8} (h : l.length < 7) : parseP l = (0, 2) := by
  unfold parseP
  cases hc : cutP l with
  | none => rfl
  | some p =>
    obtain ⟨f, r⟩ := p
    obtain ⟨e1, -⟩ := cutP_some hc
    have hl := congrArg List.length e1
    simp at hl
    show partsP f r = _
    by_cases hr : r.length = 5
    · have hf : f = [] := List.eq_nil_of_length_eq_zero (by omega)
      subst hf
      rfl
    · exact partsP_len hr
theorem makeP_bad {d h m : Int} (hr : h < 0 ∨ 23 < h ∨ m < 0 ∨ 59 < m ∨ d < 0 ∨ 11650 < d) : makeP d h m = (0, 5) := if_pos hr
theorem makeP_big {d h m : Int} (hr : h < 0 ∨ 23 < h ∨ m < 0 ∨ 59 < m ∨ d < 0 ∨ 16777216 < d) : makeP d h m = (0, 5) := makeP_bad (by omega)
theorem makeP_ok {d h m : Int} (hr : ¬ (h < 0 ∨ 23 < h ∨ m < 0 ∨ 59 < m ∨ d < 0 ∨ 16777216 < d)) : makeP d h m = if timeB (d * 1440 + h * 60 + m) = true then (d * 1440 + h * 60 + m, 0) else (0, 5) := by
  unfold makeP
  split
  · rename_i h1
    rw [if_neg]
    intro h2
    rw [timeB_iff] at h2
    omega
  · rfl
theorem idx_none : ∀ {l : List UInt8}, cutP l = none → Lib.indexByte l 47 = -1
  | [], _ => rfl
  | c :: l, h => by
    unfold cutP at h
    by_cases hc : c = 47
    · rw [if_pos hc] at h; cases h
    · rw [if_neg hc, Option.map_eq_none_iff] at h
      rw [Lib.indexByte, if_neg (by simpa using hc), idx_none h]; rfl
theorem idx_some : ∀ {l f r : List UInt8}, cutP l = some (f, r) → Lib.indexByte l 47 = (f.length : Int)
  | [], f, r, h => by cases h
  | c :: l, f, r, h => by
    unfold cutP at h
    by_cases hc : c = 47
    · rw [if_pos hc] at h
      injection h with h
      injection h with h1 h2
      subst h1
      rw [Lib.indexByte, if_pos (by simpa using hc)]; rfl
    · rw [if_neg hc, Option.map_eq_some_iff] at h
      obtain ⟨⟨f2, r2⟩, h1, h2⟩ := h
      injection h2 with h2 h3
      subst h2
      have ih := idx_some h1
      rw [Lib.indexByte, if_neg (by simpa using hc), ih, if_neg (by simp)]
      show (f2.length : Int) + 1 = ((c :: f2).length : Int)
      rw [List.length_cons]
      omega
theorem dig_rng {c : UInt8} (h : isDig c = true) : 0 ≤ dig c ∧ dig c ≤ 9 ∧ (c.toNat : Int) = dig c + 48 := by
  obtain ⟨h1, h2⟩ := isDig_iff.1 h
  exact ⟨h1, h2, by unfold dig; omega⟩
end Go.Proofs.YtggagmafkdhjcaaGreatDoor
namespace Go.Proofs.YtggagmafkdhjcaaGreatDoor
open Go Go.RowKit
def twoL (n : Nat) : List UInt8 := [UInt8.ofNat (48 + n / 10), UInt8.ofNat (48 + n % 10)]
theorem twoP_fin : ∀ n : Fin 60, (twoP (n.val : Int)).data.toList = twoL n.val ∧ isDig (UInt8.ofNat (48 + n.val / 10)) = true ∧ isDig (UInt8.ofNat (48 + n.val % 10)) = true ∧ dig (UInt8.ofNat (48 + n.val / 10)) * 10 + dig (UInt8.ofNat (48 + n.val % 10)) = (n.val : Int) := by
  decide +kernel
theorem twoP_at {n : Int} (h0 : 0 ≤ n) (h1 : n < 60) : ∃ a b : UInt8, (twoP n).data.toList = [a, b] ∧ isDig a = true ∧ isDig b = true ∧ dig a * 10 + dig b = n := by
  obtain ⟨k, hk⟩ : ∃ k : Fin 60, n = (k.val : Int) := ⟨⟨n.toNat, by omega⟩, by simp; omega⟩
  subst hk
  obtain ⟨h1, h2, h3, h4⟩ := twoP_fin k
  exact ⟨_, _, h1, h2, h3, h4⟩
theorem print_parse {t : Int} (h : timeB t = true) : parseP (printP t).data.toList = (t, 0) ∧ printE t = 0 ∧ 7 ≤ (printP t).size ∧ (printP t).size ≤ 100 := by
  have hb := timeB_iff.1 h
  have hD : dayP t = t / 1440 := if_pos h
  have hH : hourP t = t % 1440 / 60 := if_pos h
  have hM : minP t = t % 60 := if_pos h
  obtain ⟨a, b, e1, da, db, ea⟩ := twoP_at (n := hourP t) (by omega) (by omega)
  obtain ⟨x, y, e2, dx, dy, ex⟩ := twoP_at (n := minP t) (by omega) (by omega)
  have hl : (printP t).data.toList = Lib.itoa (dayP t) ++ 47 :: [a, b, 58, x, y] := by
    unfold printP
    rw [if_pos h]
    simp only [ByteArray.data_append, Array.toList_append]
    rw [e1, e2]
    simp [txtP, slashS, colonS]
  have hz : (printP t).size = (Lib.itoa (dayP t)).length + 6 := by
    have e : (printP t).size = (printP t).data.toList.length := by simp
    rw [e, hl]; simp
  have hlen := itoa_len (n := dayP t) (by omega) (by omega)
  have hne : (Lib.itoa (dayP t)).length ≠ 0 := fun e => itoa_ne _ (List.eq_nil_of_length_eq_zero e)
  refine ⟨?_, if_pos h, by omega, by omega⟩
  rw [hl, parse_split _ _ _ rfl, if_pos rfl]
  unfold partsP
  rw [numP_itoa, if_neg (by omega), if_pos (by omega)]
  show (if _ then _ else _) = _
  rw [if_pos ⟨rfl, da, db, dx, dy⟩, ea, ex]
  have hmk : makeP (dayP t) (hourP t) (minP t) = (t, 0) := by
    rw [makeP_ok (by omega)]
    have e : dayP t * 1440 + hourP t * 60 + minP t = t := by omega
    rw [e, if_pos h]
  rw [hmk]
  rfl
end Go.Proofs.YtggagmafkdhjcaaGreatDoor
