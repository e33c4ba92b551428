/- Sorting by insertion, by plain functions on lists; nothing of the program stands here / A register's people, by plain functions: what Check, Find and Can and their references say; nothing of the program stands here. -/
import Derived.Test.YtggagmafkdhjcaaGreatDoorLib
import Derived.Test.YtggagmafkdhjcaaGreatDoorLexP
import Derived.Laws.Entries
set_option linter.unusedVariables false
set_option linter.unusedSimpArgs false
namespace Go.Proofs.YtggagmafkdhjcaaGreatDoor
open Go Go.RowKit
section
variable {α : Type} (lt : α → α → Bool)
/-- The elements at j and j + 1 change places. -/
def swp (L : List α) (j : Nat) : List α := match L[j + 1]?, L[j]? with
  | some x, some y => (L.set (j + 1) y).set j x
  | _, _ => L
def dT (L : List α) (a b : Nat) : Bool := match L[a]?, L[b]? with
  | some x, some y => lt x y
  | _, _ => false
/-- The element at j goes down to its place. -/
def inn : Nat → List α → List α
  | 0, L => L
  | j + 1, L => if dT lt L (j + 1) j = true then inn j (swp L j) else L
/-- The first k elements in order. -/
def outr : Nat → List α → List α
  | 0, L => L
  | k + 1, L => inn lt k (outr k L)
def jv (L : List α) : List α := outr lt L.length L
variable {lt}
theorem uZ (L : List α) (j : Nat) : (swp L j).length = L.length := by
  unfold swp
  split <;> simp
theorem oI : ∀ (j : Nat) (L : List α), (inn lt j L).length = L.length
  | 0, L => rfl
  | j + 1, L => by
    unfold inn
    split
    · rw [oI j, uZ]
    · rfl
theorem eO : ∀ (k : Nat) (L : List α), (outr lt k L).length = L.length
  | 0, L => rfl
  | k + 1, L => by rw [outr, oI, eO k]
theorem sX (L : List α) (j : Nat) : (swp L j).Perm L := by
  unfold swp
  split
  · rename_i x y hx hy
    obtain ⟨A, B, hL, hA⟩ : ∃ A B, L = A ++ y :: x :: B ∧ j = A.length := by
      have h1 := ju hy
      have h2 := ju hx
      exact ⟨L.take j, L.drop (j + 2), by
        conv => lhs; rw [← List.take_append_drop j L]
        rw [h1, h2], by rw [List.length_take]; have := jG hy; omega⟩
    subst hL; subst hA
    have e : ((A ++ y :: x :: B).set (A.length + 1) y).set A.length x = A ++ x :: y :: B := by
      rw [List.set_append_right _ _ (by omega), List.set_append_right _ _ (by omega)]
      simp
    rw [e]
    exact (List.Perm.swap y x B).append_left A
  · exact List.Perm.refl L
theorem lN : ∀ (j : Nat) (L : List α), (inn lt j L).Perm L
  | 0, L => List.Perm.refl L
  | j + 1, L => by
    unfold inn
    split
    · exact (lN j _).trans (sX L j)
    · exact List.Perm.refl L
theorem fS : ∀ (k : Nat) (L : List α), (outr lt k L).Perm L
  | 0, L => List.Perm.refl L
  | k + 1, L => (lN k _).trans (fS k L)
theorem bL (L : List α) : (jv lt L).Perm L := fS _ L
theorem qR (L : List α) : (jv lt L).length = L.length := eO _ L
structure SwoB (lt : α → α → Bool) : Prop where
  asym : ∀ x y, lt x y = true → lt y x = false
  nt : ∀ x y z, lt x z = true → lt x y = true ∨ lt y z = true
def SrtB (lt : α → α → Bool) (L : List α) (i : Nat) : Prop := ∀ a b x y, a < b → b < i → L[a]? = some x → L[b]? = some y → lt y x = false
def InsB (lt : α → α → Bool) (L : List α) (i j : Nat) : Prop := ∀ a b x y, a < b → b ≤ i → b ≠ j → L[a]? = some x → L[b]? = some y → lt y x = false
theorem sP {L : List α} {j : Nat} {x y : α} (hx : L[j + 1]? = some x) (hy : L[j]? = some y) : swp L j = (L.set (j + 1) y).set j x := by
  unfold swp
  rw [hx, hy]
theorem iH (hS : SwoB lt) : ∀ (j i : Nat) (L : List α), j ≤ i → InsB lt L i j → SrtB lt (inn lt j L) (i + 1)
  | 0, i, L, _, h => fun a b x y hab hb hx hy => h a b x y hab (by omega) (by omega) hx hy
  | j + 1, i, L, hj, h => by
    unfold inn
    split
    · rename_i hl
      unfold dT at hl
      split at hl
      · rename_i x y hx hy
        refine iH hS j i _ (by omega) ?_
        rw [sP hx hy]
        have hx' := jG hx
        intro a b p q hab hb hbj hp hq
        have g : ∀ k, ((L.set (j + 1) y).set j x)[k]? = if k = j then some x else if k = j + 1 then some y else L[k]? := fun k => by
          by_cases h1 : k = j
          · rw [if_pos h1, h1, List.getElem?_set_self (by simp; omega)]
          · rw [if_neg h1, List.getElem?_set_ne (Ne.symm h1)]
            by_cases h2 : k = j + 1
            · rw [if_pos h2, h2, List.getElem?_set_self (by omega)]
            · rw [if_neg h2, List.getElem?_set_ne (Ne.symm h2)]
        rw [g] at hp hq
        rw [if_neg hbj] at hq
        by_cases hb1 : b = j + 1
        · rw [if_pos hb1] at hq
          injection hq with hq
          subst hq
          by_cases ha : a = j
          · rw [if_pos ha] at hp
            injection hp with hp
            subst hp
            exact hS.asym _ _ hl
          · rw [if_neg ha, if_neg (by omega)] at hp
            exact h a j p y (by omega) (by omega) (by omega) hp hy
        · rw [if_neg hb1] at hq
          by_cases ha : a = j
          · rw [if_pos ha] at hp
            injection hp with hp
            subst hp
            exact h (j + 1) b _ q (by omega) hb (by omega) hx hq
          · rw [if_neg ha] at hp
            by_cases ha1 : a = j + 1
            · rw [if_pos ha1] at hp
              injection hp with hp
              subst hp
              exact h j b _ q (by omega) hb (by omega) hy hq
            · rw [if_neg ha1] at hp
              exact h a b p q hab hb (by omega) hp hq
      · cases hl
    · rename_i hl
      intro a b x y hab hb hx hy
      by_cases hbj : b = j + 1
      · subst hbj
        cases hq : lt y x with
        | false => rfl
        | true =>
          obtain ⟨z, hz⟩ := yr (L := L) (k := j) (by have := jG hy; omega)
          have hyz : lt y z = false := by
            cases hc : lt y z with
            | false => rfl
            | true => exact absurd (by unfold dT; rw [hy, hz]; exact hc) hl
          by_cases ha : a = j
          · subst ha
            rw [hz] at hx
            injection hx with hx
            subst hx
            rw [hyz] at hq
            cases hq
          · rcases hS.nt y z x hq with h1 | h1
            · rw [hyz] at h1; cases h1
            · have := h a j x z (by omega) (by omega) (by omega) hx hz
              rw [this] at h1; cases h1
      · exact h a b x y hab (by omega) hbj hx hy
theorem dG (hS : SwoB lt) : ∀ (k : Nat) (L : List α), SrtB lt (outr lt k L) k
  | 0, L => fun a b _ _ _ hb => absurd hb (by omega)
  | k + 1, L => iH hS k k _ (Nat.le_refl _) fun a b x y hab hb hbk hx hy => dG hS k L a b x y hab (by omega) hx hy
theorem hF (hS : SwoB lt) (L : List α) : SrtB lt (jv lt L) L.length := dG hS _ L
end
end Go.Proofs.YtggagmafkdhjcaaGreatDoor
namespace Go.Proofs.YtggagmafkdhjcaaGreatDoor
open Go Go.RowKit
structure Per where
  n : ByteArray
  c : Int
  s : Int
  f : Int
  u : Int
def Per.cells (p : Per) : List Value := [.string p.n, .int .i64 p.c, .int .i64 p.s, .int .i64 p.f, .int .i64 p.u]
def I64 (n : Int) : Prop := -9223372036854775808 ≤ n ∧ n ≤ 9223372036854775807
def dF (f u : Int) : Bool := decide (0 ≤ f) && decide (f < u) && decide (u ≤ 16777216)
def jF (p : Per) : Int := if ql p.n.data.toList = false then 3 else if p.c < 0 ∨ 7 < p.c ∨ bits .andNot .i64 p.s 31 ≠ 0 then 5 else if dF p.f p.u = true then 0 else 11
def jV (p : Per) : Int := if ql p.n.data.toList = false then 3 else if p.c < 0 ∨ 7 < p.c ∨ p.s < 0 ∨ 31 < p.s then 5 else if dF p.f p.u = true then 0 else 11
theorem wP : ∀ i : Fin 64, (~~~(BitVec.ofInt 64 31)).getLsbD i.val = decide (5 ≤ i.val) := by decide +kernel
theorem eV {m : Int} (h0 : 0 ≤ m) (h1 : m ≤ 31) : bits .andNot .i64 m 31 = 0 := by
  obtain ⟨a, rfl⟩ := Int.eq_ofNat_of_zero_le h0
  have ha : a < 32 := by omega
  have e : ((a : Nat) : Int) = (((⟨a, ha⟩ : Fin 32).val : Nat) : Int) := rfl
  rw [e]
  generalize (⟨a, ha⟩ : Fin 32) = f
  revert f
  decide +kernel
theorem bH {m : Int} (hm : I64 m) (h : bits .andNot .i64 m 31 = 0) : 0 ≤ m ∧ m ≤ 31 := by
  have h1 : IntKind.i64.wrap ((BitVec.ofInt 64 m &&& ~~~(BitVec.ofInt 64 31)).toNat : Int) = 0 := h
  rw [IntKind.wrap_i64] at h1
  have hlt := (BitVec.ofInt 64 m &&& ~~~(BitVec.ofInt 64 31)).isLt
  have h0 : (BitVec.ofInt 64 m &&& ~~~(BitVec.ofInt 64 31)).toNat = 0 := by omega
  have hx : (BitVec.ofInt 64 m).toNat < 2 ^ 5 := by
    apply Nat.lt_pow_two_of_testBit
    intro i hi
    by_cases h64 : i < 64
    · have hb := wP ⟨i, h64⟩
      simp only at hb
      rw [show decide (5 ≤ i) = true by simp; omega] at hb
      have hz : (BitVec.ofInt 64 m &&& ~~~(BitVec.ofInt 64 31)).getLsbD i = false := by
        rw [BitVec.getLsbD, h0]; simp
      rw [BitVec.getLsbD_and, hb, Bool.and_true] at hz
      exact hz
    · exact Nat.testBit_lt_two_pow (Nat.lt_of_lt_of_le (BitVec.ofInt 64 m).isLt (Nat.pow_le_pow_right (by omega) (by omega)))
  rw [BitVec.toNat_ofInt] at hx
  obtain ⟨hm0, hm1⟩ := hm
  omega
theorem cE {m : Int} (hm : I64 m) : bits .andNot .i64 m 31 ≠ 0 ↔ (m < 0 ∨ 31 < m) := by
  constructor
  · intro h
    rcases Decidable.em (m < 0 ∨ 31 < m) with h1 | h1
    · exact h1
    · exact absurd (eV (by omega) (by omega)) h
  · intro h h1
    have := bH hm h1
    omega
theorem oZ (p : Per) (hs : I64 p.s) : jF p = jV p := by
  unfold jF jV
  have e : (p.c < 0 ∨ 7 < p.c ∨ bits .andNot .i64 p.s 31 ≠ 0) ↔ (p.c < 0 ∨ 7 < p.c ∨ p.s < 0 ∨ 31 < p.s) := by
    rw [cE hs]
  simp only [e]
def less (a b : Per) : Bool := Op.bytesLess a.n.data.toList b.n.data.toList
theorem lZ (x y : List UInt8) : (!Op.bytesLess x y) = (Op.bytesLess y x || y == x) := by
  induction x generalizing y with
  | nil => cases y <;> simp [Op.bytesLess]
  | cons a x ih =>
    cases y with
    | nil => simp [Op.bytesLess]
    | cons b y =>
      simp only [Op.bytesLess]
      have ht : a < b ∨ a = b ∨ b < a := by
        rcases Nat.lt_trichotomy a.toNat b.toNat with h | h | h
        · exact .inl h
        · exact .inr (.inl (UInt8.toNat_inj.1 h))
        · exact .inr (.inr h)
      have hirr : ∀ z : UInt8, ¬ z < z := fun z h => Nat.lt_irrefl _ (show z.toNat < z.toNat from h)
      rcases ht with h | h | h
      · have h2 : ¬ b < a := fun h3 => Nat.lt_asymm (show a.toNat < b.toNat from h) h3
        have h3 : a ≠ b := fun e => hirr b (e ▸ h)
        simp [h, h2, h3, Ne.symm h3]
      · subst h
        simp [hirr a, ih y]
      · have h2 : ¬ a < b := fun h3 => Nat.lt_asymm (show b.toNat < a.toNat from h) h3
        have h3 : a ≠ b := fun e => hirr b (e ▸ h)
        simp [h, h2, h3]
def pgoE (E : Per → Int) : Option Per → List Per → Int
  | _, [] => 0
  | q, p :: r => if E p ≠ 0 then E p else if (match q with | none => false | some q => !less q p) = true then 4 else pgoE E (some p) r
def jI (E : Per → Int) (L : List Per) : Int := if 64 < L.length then 1 else pgoE E none L
def aG (L : List Per) (k : Nat) : Option Per := if k = 0 then none else L[k - 1]?
theorem tB {E : Per → Int} {L : List Per} {k : Nat} {p : Per} (hx : L[k]? = some p) (q : Option Per) : pgoE E q (L.drop k) = if E p ≠ 0 then E p else if (match q with | none => false | some q => !less q p) = true then 4 else pgoE E (some p) (L.drop (k + 1)) := by
  rw [ju hx]; rfl
theorem qS {L : List Per} {k : Nat} {p : Per} (hx : L[k]? = some p) : aG L (k + 1) = some p := by
  unfold aG
  rw [if_neg (by omega)]
  simpa using hx
def qh (nm : ByteArray) (p : Per) : Bool := p.n.toList == nm.toList
def idxP (nm : ByteArray) : List Per → Nat → Int
  | [], _ => -1
  | p :: r, k => if qh nm p = true then k else idxP nm r (k + 1)
theorem wF {nm : ByteArray} {L : List Per} {k : Nat} {p : Per} (hx : L[k]? = some p) : idxP nm (L.drop k) k = if qh nm p = true then (k : Int) else idxP nm (L.drop (k + 1)) (k + 1) := by
  rw [ju hx]; rfl
theorem fW (nm : ByteArray) : ∀ (L : List Per) (k : Nat), idxP nm L k = -1 ∨ ∃ j : Nat, idxP nm L k = ((k + j : Nat) : Int) ∧ j < L.length
  | [], k => .inl rfl
  | p :: r, k => by
    unfold idxP
    split
    · exact .inr ⟨0, rfl, by simp⟩
    · rcases fW nm r (k + 1) with h | ⟨j, h, hj⟩
      · exact .inl h
      · exact .inr ⟨j + 1, by rw [h]; congr 1; omega, by simp; omega⟩
def bY (E : Per → Int) (L : List Per) (nm : ByteArray) : Int := if jI E L = 0 then idxP nm L 0 else -1
def canB (E : Per → Int) (L : List Per) (nm : ByteArray) (sk t : Int) : Bool :=
  if bY E L nm < 0 ∨ sk < 1 ∨ 31 < sk then false else match L[(bY E L nm).toNat]? with
    | none => false
    | some p => (bits .and .i64 p.s sk == sk) && decide (p.f ≤ t) && decide (t < p.u)
theorem mA (E : Per → Int) (L : List Per) (nm : ByteArray) : bY E L nm = -1 ∨ ∃ j : Nat, bY E L nm = j ∧ j < L.length := by
  unfold bY
  split
  · rcases fW nm L 0 with h | ⟨j, h, hj⟩
    · exact .inl h
    · exact .inr ⟨j, by rw [h]; congr 1; omega, hj⟩
  · exact .inl rfl
end Go.Proofs.YtggagmafkdhjcaaGreatDoor
