/- Documents that a deck makes, by plain functions; nothing of the program stands here / Parts of own buffers: sliced, measured, and laid behind one another in place; conditions: tables of types that agree with the program's. -/
import Derived.Test.YtjamibeffalhaaaGreatDoorDcP
import Derived.Test.YtjamibeffalhaaaGreatDoorTiQ
import Derived.Test.YtjamibeffalhaaaGreatDoorLcC
import Derived.Test.YtjamibeffalhaaaGreatDoorAbsX
set_option linter.unusedVariables false
set_option linter.unusedSimpArgs false
namespace Go.Proofs.YtjamibeffalhaaaGreatDoor
open Go Go.RowKit
theorem Dk.in_ (D : Dk) {n : Int} (h1 : 1 ≤ n) (h2 : n ≤ 1000000) : 0 ≤ D.val n ∧ D.val n < n := by
  have h := D.val_range (n := n) (by omega)
  exact ⟨h.1, h.2.1 h1⟩
def eY (k : Nat) : Nat → Nat → Dk → List Int → Dk × List Int
  | 0, _, D, L => (D, L)
  | m + 1, i, D, L => if k ≤ L.length then (D, L) else eY k m (i + 1) D.next (if D.val 3 = 0 then L ++ [(i : Int)] else L)
def setP (n k : Nat) (D : Dk) : Dk × List Int := eY k n 0 D []
theorem nK (k : Nat) : ∀ (m i : Nat) (D : Dk) (L : List Int), DkOk D → L.length ≤ k → DkOk (eY k m i D L).1 ∧ (eY k m i D L).2.length ≤ k
  | 0, _, D, L, h, hl => ⟨h, hl⟩
  | m + 1, i, D, L, h, hl => by
    rw [eY]
    split
    · exact ⟨h, hl⟩
    · rename_i c
      refine nK k m (i + 1) D.next _ h.next ?_
      split
      · simp; omega
      · omega
theorem sS {n k : Nat} {D : Dk} (h : DkOk D) : DkOk (setP n k D).1 ∧ (setP n k D).2.length ≤ k := nK k n 0 D [] h (Nat.zero_le _)
def eI (n : Nat) (D : Dk) : Dk × List Int := if (setP n 2 D).2 = [] then ((setP n 2 D).1.next, [(setP n 2 D).1.val n]) else setP n 2 D
theorem pX {n : Nat} {D : Dk} (h : DkOk D) : DkOk (eI n D).1 ∧ (eI n D).2.length ≤ 2 := by
  have := sS (n := n) (k := 2) h
  unfold eI
  split
  · exact ⟨this.1.next, by simp⟩
  · exact this
def issW (z : Int) : ByteArray := if z = 0 then ⟨#[65, 49]⟩ else if z = 1 then ⟨#[65, 50]⟩ else ⟨#[67, 49]⟩
def holW (z : Int) : ByteArray := if z = 0 then ⟨#[66, 49]⟩ else if z = 1 then ⟨#[66, 50]⟩ else ⟨#[67, 50]⟩
def dN : Nat → Dk → List Int → Dk × List Int
  | 0, D, L => (D, L)
  | m + 1, D, L => dN m D.next (L ++ [10 * (4 - ((m + 1 : Nat) : Int)) + D.val 9])
theorem oW : ∀ (m : Nat) (D : Dk) (L : List Int), DkOk D → DkOk (dN m D L).1 ∧ (dN m D L).2.length = L.length + m
  | 0, D, L, h => ⟨h, rfl⟩
  | m + 1, D, L, h => by
    have := oW m D.next (L ++ [10 * (4 - ((m + 1 : Nat) : Int)) + D.val 9]) h.next
    refine ⟨this.1, ?_⟩
    rw [dN, this.2]; simp; omega
/-- The deck ahead of the zone, behind the zone, behind the locks and behind the certificates. -/
def dc1 (D : Dk) : Dk := D.next.next.next.next
def dc2 (N : List Nd) (D : Dk) : Dk := (eI N.length (dc1 D)).1
def dc3 (N : List Nd) (D : Dk) : Dk := (dc2 N D).next.next.next.next.next
def dc4 (N : List Nd) (V : List Dv) (D : Dk) : Dk := (jY N V [] 5 0 (dc3 N D) []).1
def dc5 (N : List Nd) (V : List Dv) (D : Dk) : Dk := (dN ((dc4 N V D).val 3).toNat (dc4 N V D).next []).1
/-- The document ahead of its change. -/
def doc0 (N : List Nd) (V : List Dv) (D : Dk) : Dc :=
  ⟨1 + D.val 60, 1 + D.next.val 3, 1 + D.next.next.val 5, D.next.next.next.val 3, (eI N.length (dc1 D)).2, 1 + (dc2 N D).val 4, (jY N V [] 5 0 (dc3 N D) []).2, issW ((dc2 N D).next.val 3), holW ((dc2 N D).next.next.val 3),
    (dc2 N D).next.next.next.val 100, (dc2 N D).next.next.next.val 100 + 1 + (dc2 N D).next.next.next.next.val 51, (dN ((dc4 N V D).val 3).toNat (dc4 N V D).next []).2⟩
/-- A change of a document, by a number; the deck E stands behind this number. -/
def docC (c : Int) (E : Dk) (d : Dc) : Dc × Dk :=
  if c = 0 then ({ d with num := if E.val 2 = 0 then 0 else 65537 }, E.next)
  else if c = 1 then ({ d with kind := E.val 5, st := E.next.val 8 }, E.next.next)
  else if c = 2 then ({ d with zone := d.zone ++ [E.val 6] }, E.next)
  else if c = 3 then ({ d with safe := if E.val 2 = 0 then 0 else 17 }, E.next)
  else if c = 4 then ({ d with hol := d.iss }, E)
  else if c = 5 then ({ d with f := 5, u := 5 }, E)
  else if c = 6 then ({ d with ce := d.ce ++ [5] }, E)
  else if c = 7 then ({ d with iss := ⟨#[]⟩ }, E)
  else (d, E)
def docD (N : List Nd) (V : List Dv) (D : Dk) : Dc × Dk := docC ((dc5 N V D).val 20) (dc5 N V D).next (doc0 N V D)
end Go.Proofs.YtjamibeffalhaaaGreatDoor
namespace Go.Proofs.YtjamibeffalhaaaGreatDoor
open Go Go.RowKit
section
variable {P : Program} {X : Ctx} {n : Nat} {ops : Array Oper} {os : List Oper} {acc : List Rule} {σ : AS} {K : List Rule → AS → Prop} {gt : List (Nat × AV)} {ty : TypeId} {ps : String} {af : Array Edge} {g : Option (Nat × Bool)}
variable {TB : Tabs} (hTB : TabsOk P TB)
include hTB
end
section
variable {P : Program} {X : Ctx} {n : Nat} {σ : AS} {Q : Exit → AS → Prop} {c : Code}
end
end Go.Proofs.YtjamibeffalhaaaGreatDoor
