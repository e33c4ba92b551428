/- A register's people, by plain functions: what Check, Find and Can and their references say; nothing of the program stands here. -/
import Derived.Test.YtnfjlinffjhkpaaDoorLexP
import Derived.Laws.Entries
set_option linter.unusedVariables false
set_option linter.unusedSimpArgs false
namespace Go.Proofs.YtnfjlinffjhkpaaDoor
open Go Go.RowKit
structure Per where
  n : ByteArray
  c : Int
  s : Int
  f : Int
  u : Int
def Per.cells (p : Per) : List Value := [.string p.n, .int .i64 p.c, .int .i64 p.s, .int .i64 p.f, .int .i64 p.u]
theorem per_len (p : Per) : p.cells.length = 5 := rfl
theorem per_one (p : Per) : ∀ u ∈ p.cells, u.oneCell' = true := by
  intro u hu
  simp [Per.cells] at hu
  rcases hu with rfl | rfl | rfl | rfl | rfl <;> rfl
def I64 (n : Int) : Prop := -9223372036854775808 ≤ n ∧ n ≤ 9223372036854775807
def spanB (f u : Int) : Bool := decide (0 ≤ f) && decide (f < u) && decide (u ≤ 16777216)
def pvalidE (p : Per) : Int := if nameB p.n.data.toList = false then 3 else if p.c < 0 ∨ 7 < p.c ∨ bits .andNot .i64 p.s 31 ≠ 0 then 5 else if spanB p.f p.u = true then 0 else 11
def pfaultE (p : Per) : Int := if nameB p.n.data.toList = false then 3 else if p.c < 0 ∨ 7 < p.c ∨ p.s < 0 ∨ 31 < p.s then 5 else if spanB p.f p.u = true then 0 else 11
theorem mask31 : ∀ i : Fin 64, (~~~(BitVec.ofInt 64 31)).getLsbD i.val = decide (5 ≤ i.val) := by decide +kernel
theorem andNot31_small {m : Int} (h0 : 0 ≤ m) (h1 : m ≤ 31) : bits .andNot .i64 m 31 = 0 := by
  obtain ⟨a, rfl⟩ := Int.eq_ofNat_of_zero_le h0
  have ha : a < 32 := by omega
  have e : ((a : Nat) : Int) = (((⟨a, ha⟩ : Fin 32).val : Nat) : Int) := rfl
  rw [e]
  generalize (⟨a, ha⟩ : Fin 32) = f
  revert f
  decide +kernel
theorem andNot31_only {m : Int} (hm : I64 m) (h : bits .andNot .i64 m 31 = 0) : 0 ≤ m ∧ m ≤ 31 := by
  have h1 : IntKind.i64.wrap ((BitVec.ofInt 64 m &&& ~~~(BitVec.ofInt 64 31)).toNat : Int) = 0 := h
  rw [IntKind.wrap_i64] at h1
  have hlt := (BitVec.ofInt 64 m &&& ~~~(BitVec.ofInt 64 31)).isLt
  have h0 : (BitVec.ofInt 64 m &&& ~~~(BitVec.ofInt 64 31)).toNat = 0 := by omega
  have hx : (BitVec.ofInt 64 m).toNat < 2 ^ 5 := by
    apply Nat.lt_pow_two_of_testBit
    intro i hi
    by_cases h64 : i < 64
    · have hb := mask31 ⟨i, h64⟩
      simp only at hb
      rw [show decide (5 ≤ i) = true by simp; omega] at hb
      have hz : (BitVec.ofInt 64 m &&& ~~~(BitVec.ofInt 64 31)).getLsbD i = false := by
        rw [BitVec.getLsbD, h0]; simp
      rw [BitVec.getLsbD_and, hb, Bool.and_true] at hz
      exact hz
    · exact Nat.testBit_lt_two_pow (Nat.lt_of_lt_of_le (BitVec.ofInt 64 m).isLt (Nat.pow_le_pow_right (by omega) (by omega)))
  rw [BitVec.toNat_ofInt] at hx
  obtain ⟨hm0, hm1⟩ := hm
  omega
theorem andNot31_iff {m : Int} (hm : I64 m) : bits .andNot .i64 m 31 ≠ 0 ↔ (m < 0 ∨ 31 < m) := by
  constructor
  · intro h
    rcases Decidable.em (m < 0 ∨ 31 < m) with h1 | h1
    · exact h1
    · exact absurd (andNot31_small (by omega) (by omega)) h
  · intro h h1
    have := andNot31_only hm h1
    omega
theorem pvalid_eq (p : Per) (hs : I64 p.s) : pvalidE p = pfaultE p := by
  unfold pvalidE pfaultE
  have e : (p.c < 0 ∨ 7 < p.c ∨ bits .andNot .i64 p.s 31 ≠ 0) ↔ (p.c < 0 ∨ 7 < p.c ∨ p.s < 0 ∨ 31 < p.s) := by
    rw [andNot31_iff hs]
  simp only [e]
def less (a b : Per) : Bool := Op.bytesLess a.n.data.toList b.n.data.toList
theorem less_total (x y : List UInt8) : (!Op.bytesLess x y) = (Op.bytesLess y x || y == x) := by
  induction x generalizing y with
  | nil => cases y <;> simp [Op.bytesLess]
  | cons a x ih =>
    cases y with
    | nil => simp [Op.bytesLess]
    | cons b y =>
      simp only [Op.bytesLess]
      have ht : a < b ∨ a = b ∨ b < a := by
        rcases Nat.lt_trichotomy a.toNat b.toNat with h | h | h
        · exact .inl h
        · exact .inr (.inl (UInt8.toNat_inj.1 h))
        · exact .inr (.inr h)
      have hirr : ∀ z : UInt8, ¬ z < z := fun z h => Nat.lt_irrefl _ (show z.toNat < z.toNat from h)
      rcases ht with h | h | h
      · have h2 : ¬ b < a := fun h3 => Nat.lt_asymm (show a.toNat < b.toNat from h) h3
        have h3 : a ≠ b := fun e => hirr b (e ▸ h)
        simp [h, h2, h3, Ne.symm h3]
      · subst h
        simp [hirr a, ih y]
      · have h2 : ¬ a < b := fun h3 => Nat.lt_asymm (show b.toNat < a.toNat from h) h3
        have h3 : a ≠ b := fun e => hirr b (e ▸ h)
        simp [h, h2, h3]
def pgoE (E : Per → Int) : Option Per → List Per → Int
  | _, [] => 0
  | q, p :: r => if E p ≠ 0 then E p else if (match q with | none => false | some q => !less q p) = true then 4 else pgoE E (some p) r
def pcheckE (E : Per → Int) (L : List Per) : Int := if 64 < L.length then 1 else pgoE E none L
def prevAt (L : List Per) (k : Nat) : Option Per := if k = 0 then none else L[k - 1]?
theorem pgo_at {E : Per → Int} {L : List Per} {k : Nat} {p : Per} (hx : L[k]? = some p) (q : Option Per) : pgoE E q (L.drop k) = if E p ≠ 0 then E p else if (match q with | none => false | some q => !less q p) = true then 4 else pgoE E (some p) (L.drop (k + 1)) := by
  rw [drop_at hx]; rfl
theorem prev_next {L : List Per} {k : Nat} {p : Per} (hx : L[k]? = some p) : prevAt L (k + 1) = some p := by
  unfold prevAt
  rw [if_neg (by omega)]
  simpa using hx
theorem pgo_eq : ∀ (L : List Per) (q : Option Per), (∀ p ∈ L, I64 p.s) → pgoE pvalidE q L = pgoE pfaultE q L
  | [], _, _ => rfl
  | p :: L, q, h => by
    have e := pvalid_eq p (h p (by simp))
    have r := pgo_eq L (some p) (fun x hx => h x (by simp [hx]))
    show (if pvalidE p ≠ 0 then _ else _) = (if pfaultE p ≠ 0 then _ else _)
    rw [e, r]
theorem pcheck_eq (L : List Per) (h : ∀ p ∈ L, I64 p.s) : pcheckE pvalidE L = pcheckE pfaultE L := by
  unfold pcheckE
  rw [pgo_eq L none h]
def nameIs (nm : ByteArray) (p : Per) : Bool := p.n.toList == nm.toList
def idxP (nm : ByteArray) : List Per → Nat → Int
  | [], _ => -1
  | p :: r, k => if nameIs nm p = true then k else idxP nm r (k + 1)
theorem idx_at {nm : ByteArray} {L : List Per} {k : Nat} {p : Per} (hx : L[k]? = some p) : idxP nm (L.drop k) k = if nameIs nm p = true then (k : Int) else idxP nm (L.drop (k + 1)) (k + 1) := by
  rw [drop_at hx]; rfl
theorem idx_range (nm : ByteArray) : ∀ (L : List Per) (k : Nat), idxP nm L k = -1 ∨ ∃ j : Nat, idxP nm L k = ((k + j : Nat) : Int) ∧ j < L.length
  | [], k => .inl rfl
  | p :: r, k => by
    unfold idxP
    split
    · exact .inr ⟨0, rfl, by simp⟩
    · rcases idx_range nm r (k + 1) with h | ⟨j, h, hj⟩
      · exact .inl h
      · exact .inr ⟨j + 1, by rw [h]; congr 1; omega, by simp; omega⟩
def findI (E : Per → Int) (L : List Per) (nm : ByteArray) : Int := if pcheckE E L = 0 then idxP nm L 0 else -1
def canB (E : Per → Int) (L : List Per) (nm : ByteArray) (sk t : Int) : Bool :=
  if findI E L nm < 0 ∨ sk < 1 ∨ 31 < sk then false else match L[(findI E L nm).toNat]? with
    | none => false
    | some p => (bits .and .i64 p.s sk == sk) && decide (p.f ≤ t) && decide (t < p.u)
theorem find_range (E : Per → Int) (L : List Per) (nm : ByteArray) : findI E L nm = -1 ∨ ∃ j : Nat, findI E L nm = j ∧ j < L.length := by
  unfold findI
  split
  · rcases idx_range nm L 0 with h | ⟨j, h, hj⟩
    · exact .inl h
    · exact .inr ⟨j, by rw [h]; congr 1; omega, hj⟩
  · exact .inl rfl
theorem can_eq (L : List Per) (nm : ByteArray) (sk t : Int) (h : ∀ p ∈ L, I64 p.s) : canB pvalidE L nm sk t = canB pfaultE L nm sk t := by
  have e : findI pvalidE L nm = findI pfaultE L nm := by unfold findI; rw [pcheck_eq L h]
  unfold canB
  rw [e]
end Go.Proofs.YtnfjlinffjhkpaaDoor
