/- Rows of keys and their holders, by plain functions: what Right, Check, Find and Give say, and that giving and giving back change nothing; nothing of the program stands here. -/
import Derived.Test.YtaoegbmgombhdaaDoorLexP
set_option linter.unusedVariables false
set_option linter.unusedSimpArgs false
namespace Go.Proofs.YtaoegbmgombhdaaDoor
open Go Go.RowKit
structure Hol where
  k : Int
  i : Int
  n : ByteArray
  deriving DecidableEq
structure Rw where
  num : Int
  h : Hol
  deriving DecidableEq
def emptyS : ByteArray := ⟨#[]⟩
def rightB (h : Hol) : Bool :=
  if h.k = 1 then decide (h.i = 0) && decide (h.n = emptyS) else if h.k = 2 then decide (h.i = 0) && nameB h.n.data.toList
  else if h.k = 3 then decide (1 ≤ h.i) && decide (h.i ≤ 16) && decide (h.n = emptyS) else if h.k = 4 then decide (0 ≤ h.i) && decide (h.i < 64) && decide (h.n = emptyS) else false
def numB (n : Int) : Bool := decide (0 ≤ n) && decide (n ≤ 65536)
def kgo : Option Rw → List Rw → Int
  | _, [] => 0
  | q, r :: l => if numB r.num = false then 5 else if (match q with | none => false | some q => decide (q.num ≥ r.num)) = true then 14 else if rightB r.h = false then 40 else kgo (some r) l
def chk (L : List Rw) : Int := if 128 < L.length then 1 else kgo none L
theorem kgo_iff (L : List Rw) : ∀ q, kgo q L = 0 ↔ (∀ r ∈ L, numB r.num = true ∧ rightB r.h = true) ∧ (∀ q', q = some q' → ∀ r ∈ L, q'.num < r.num) ∧ L.Pairwise (fun a b => a.num < b.num) := by
  induction L with
  | nil => intro q; simp [kgo]
  | cons r l ih =>
    intro q
    unfold kgo
    by_cases h1 : numB r.num = true
    · rw [if_neg (by simp [h1])]
      by_cases h3 : rightB r.h = true
      · rw [if_neg (by simp [h3] : ¬ rightB r.h = false)]
        rcases q with _ | q
        · rw [if_neg (by simp), ih (some r)]
          simp only [List.mem_cons, forall_eq_or_imp, List.pairwise_cons, reduceCtorEq, false_imp_iff, implies_true, Option.some.injEq, forall_eq', h1, h3]
          constructor
          · rintro ⟨a, b, c⟩; exact ⟨⟨⟨trivial, trivial⟩, a⟩, trivial, b, c⟩
          · rintro ⟨⟨_, a⟩, _, b, c⟩; exact ⟨a, b, c⟩
        · by_cases h2 : q.num ≥ r.num
          · rw [if_pos (by simpa using h2)]
            constructor
            · intro h; cases h
            · rintro ⟨_, b, _⟩
              have := b q rfl r (by simp)
              omega
          · rw [if_neg (by simpa using h2), ih (some r)]
            simp only [List.mem_cons, forall_eq_or_imp, List.pairwise_cons, Option.some.injEq, forall_eq', h1, h3]
            constructor
            · rintro ⟨a, b, c⟩; exact ⟨⟨⟨trivial, trivial⟩, a⟩, ⟨by omega, fun x hx => by have := b x hx; omega⟩, b, c⟩
            · rintro ⟨⟨_, a⟩, _, b, c⟩; exact ⟨a, b, c⟩
      · rw [if_pos (by simpa using h3 : rightB r.h = false)]
        constructor
        · intro h
          exfalso
          rcases q with _ | q
          · rw [if_neg (by simp)] at h; cases h
          · by_cases h2 : q.num ≥ r.num
            · rw [if_pos (by simpa using h2)] at h; cases h
            · rw [if_neg (by simpa using h2)] at h; cases h
        · rintro ⟨a, _⟩; exact absurd (a r (by simp)).2 h3
    · rw [if_pos (by simpa using h1)]
      constructor
      · intro h; cases h
      · rintro ⟨a, _⟩; exact absurd (a r (by simp)).1 h1
theorem chk_iff (L : List Rw) : chk L = 0 ↔ L.length ≤ 128 ∧ (∀ r ∈ L, numB r.num = true ∧ rightB r.h = true) ∧ L.Pairwise (fun a b => a.num < b.num) := by
  unfold chk
  split
  · constructor
    · intro h; cases h
    · rintro ⟨a, _⟩; omega
  · rw [kgo_iff]
    constructor
    · rintro ⟨a, _, c⟩; exact ⟨by omega, a, c⟩
    · rintro ⟨_, a, c⟩; exact ⟨a, by simp, c⟩
def low (n : Int) : List Rw → Nat
  | [] => 0
  | r :: l => if r.num < n then low n l + 1 else 0
theorem low_le (n : Int) : ∀ L : List Rw, low n L ≤ L.length
  | [] => Nat.le_refl _
  | r :: l => by
    unfold low
    have := low_le n l
    split <;> simp <;> omega
theorem low_at (n : Int) : ∀ {L : List Rw}, L.Pairwise (fun a b => a.num < b.num) → ∀ {k : Nat} {r : Rw}, L[k]? = some r → (r.num < n ↔ k < low n L)
  | [], _, k, r, h => by simp at h
  | x :: l, hp, k, r, h => by
    have hp' := List.pairwise_cons.1 hp
    unfold low
    cases k with
    | zero =>
      simp at h; subst h
      split
      · rename_i h1; exact ⟨fun _ => by omega, fun _ => h1⟩
      · rename_i h1; exact ⟨fun h2 => absurd h2 h1, fun h2 => by omega⟩
    | succ k =>
      have hk : l[k]? = some r := by simpa using h
      have ih := low_at n hp'.2 hk
      have hx := hp'.1 r (List.mem_of_getElem? hk)
      split
      · rw [ih]; omega
      · constructor
        · intro h2; omega
        · intro h2; omega
/-- Where a sorted list is cut. -/
theorem low_eq {n : Int} {L : List Rw} (hp : L.Pairwise (fun a b => a.num < b.num)) {j : Nat} (hj : j ≤ L.length) (h1 : ∀ k r, k < j → L[k]? = some r → r.num < n) (h2 : ∀ k r, j ≤ k → L[k]? = some r → ¬ r.num < n) : low n L = j := by
  have hle := low_le n L
  rcases Nat.lt_trichotomy (low n L) j with h | h | h
  · obtain ⟨r, hr⟩ : ∃ r, L[low n L]? = some r := ⟨L[low n L]'(by omega), by simp⟩
    have := (low_at n hp hr).1 (h1 _ r h hr)
    omega
  · exact h
  · obtain ⟨r, hr⟩ : ∃ r, L[j]? = some r := ⟨L[j]'(by omega), by simp⟩
    exact absurd ((low_at n hp hr).2 h) (h2 j r (Nat.le_refl _) hr)
def fnd (n : Int) (L : List Rw) : Bool := match L[low n L]? with
  | some r => decide (r.num = n)
  | none => false
theorem low_self {L : List Rw} (hp : L.Pairwise (fun a b => a.num < b.num)) {k : Nat} {r : Rw} (h : L[k]? = some r) : low r.num L = k := by
  have hlt : k < L.length := by
    rcases Nat.lt_or_ge k L.length with h1 | h1
    · exact h1
    · rw [List.getElem?_eq_none h1] at h; cases h
  refine low_eq hp (by omega) (fun j x hj hx => ?_) (fun j x hj hx => ?_)
  · exact List.pairwise_iff_getElem.1 hp j k (by omega) hlt hj |> fun e => by
      rw [List.getElem?_eq_getElem (by omega)] at hx h
      injection hx with hx; injection h with h
      rw [← hx, ← h]; exact e
  · rcases Nat.eq_or_lt_of_le hj with rfl | h1
    · rw [h] at hx; injection hx with hx; subst hx; omega
    · have hjl : j < L.length := by
        rcases Nat.lt_or_ge j L.length with h2 | h2
        · exact h2
        · rw [List.getElem?_eq_none h2] at hx; cases hx
      have e := List.pairwise_iff_getElem.1 hp k j hlt hjl h1
      rw [List.getElem?_eq_getElem (by omega)] at hx h
      injection hx with hx; injection h with h
      rw [← hx, ← h]; omega
theorem fnd_self {L : List Rw} (hp : L.Pairwise (fun a b => a.num < b.num)) {k : Nat} {r : Rw} (h : L[k]? = some r) : fnd r.num L = true := by
  unfold fnd
  rw [low_self hp h, h]
  simp
def giveP (L : List Rw) (n : Int) (a b : Hol) : List Rw × Int :=
  if chk L ≠ 0 then ([], chk L) else if rightB b = false then ([], 40) else if fnd n L = false then ([], 15)
  else match L[low n L]? with
    | some r => if r.h = a then (L.set (low n L) ⟨r.num, b⟩, 0) else ([], 40)
    | none => ([], 15)
theorem chk_set {L : List Rw} (hc : chk L = 0) {k : Nat} {r : Rw} (h : L[k]? = some r) {b : Hol} (hb : rightB b = true) : chk (L.set k ⟨r.num, b⟩) = 0 := by
  rw [chk_iff] at hc ⊢
  obtain ⟨h1, h2, h3⟩ := hc
  refine ⟨by simpa using h1, fun x hx => ?_, ?_⟩
  · rcases List.mem_or_eq_of_mem_set hx with hx | rfl
    · exact h2 x hx
    · exact ⟨(h2 r (List.mem_of_getElem? h)).1, hb⟩
  · have e : (L.set k ⟨r.num, b⟩).map Rw.num = L.map Rw.num := by
      rw [List.map_set]
      refine List.ext_getElem? fun j => ?_
      by_cases hj : k = j
      · subst hj
        rw [List.getElem?_map, h]
        have hk : k < (L.map Rw.num).length := by
          rcases Nat.lt_or_ge k L.length with h1 | h1
          · simpa using h1
          · rw [List.getElem?_eq_none h1] at h; cases h
        rw [List.getElem?_set_self hk]; rfl
      · rw [List.getElem?_set_ne hj]
    have h4 := List.pairwise_map (f := Rw.num) (R := fun a b : Int => a < b) (l := L)
    have h5 := List.pairwise_map (f := Rw.num) (R := fun a b : Int => a < b) (l := L.set k ⟨r.num, b⟩)
    rw [← h5, e, h4]
    exact h3
theorem give_at {L : List Rw} (hc : chk L = 0) {k : Nat} {r : Rw} (h : L[k]? = some r) {b : Hol} (hb : rightB b = true) : giveP L r.num r.h b = (L.set k ⟨r.num, b⟩, 0) := by
  have h3 := ((chk_iff L).1 hc).2.2
  unfold giveP
  rw [if_neg (by simp [hc]), if_neg (by simp [hb]), if_neg (by simp [fnd_self h3 h]), low_self h3 h, h]
  simp
theorem give_back {L : List Rw} (hc : chk L = 0) {k : Nat} {r : Rw} (h : L[k]? = some r) {b : Hol} (hb : rightB b = true) : giveP (L.set k ⟨r.num, b⟩) r.num b r.h = (L, 0) := by
  have hk : k < L.length := by
    rcases Nat.lt_or_ge k L.length with h1 | h1
    · exact h1
    · rw [List.getElem?_eq_none h1] at h; cases h
  have h2 : (L.set k ⟨r.num, b⟩)[k]? = some ⟨r.num, b⟩ := List.getElem?_set_self hk
  have hr := (((chk_iff L).1 hc).2.1 r (List.mem_of_getElem? h)).2
  have := give_at (chk_set hc h hb) h2 hr
  rw [this, List.set_set]
  congr 1
  refine List.ext_getElem? fun j => ?_
  by_cases hj : k = j
  · subst hj; rw [List.getElem?_set_self hk, h]
  · rw [List.getElem?_set_ne hj]
end Go.Proofs.YtaoegbmgombhdaaDoor
