/- Certificates, by plain functions: which are valid, what asking, hearing, giving and returning make of a list, and their texts; nothing of the program stands here. -/
import Derived.Test.YtamihjgfncjdoaaDoorLcP
import Derived.Test.YtamihjgfncjdoaaDoorSfP
import Derived.Test.YtamihjgfncjdoaaDoorNmA
set_option linter.unusedVariables false
set_option linter.unusedSimpArgs false
namespace Go.Proofs.YtamihjgfncjdoaaDoor
open Go Go.RowKit
structure Ce where
  num : Int
  ask : Int
  giv : Int
  st : Int
  lk : List Lk
  deriving DecidableEq
instance : Inhabited Ce := ⟨⟨0, 0, 0, 0, []⟩⟩
def coAt (V : List Dv) (d : Int) : Int := match V[d.toNat]? with
  | some x => x.co
  | none => 0
def strangeB (V : List Dv) (c : Ce) : Bool := c.lk.any fun k => !decide (coAt V k.d = c.giv)
def certE (N : List Nd) (V : List Dv) (c : Ce) : Int :=
  if netE N V ≠ 0 then netE N V
  else if c.num < 1 ∨ 65536 < c.num ∨ compB c.ask = false ∨ compB c.giv = false then 5
  else if c.ask = c.giv then 4
  else if c.st < 1 ∨ 5 < c.st then 42
  else if c.lk = [] then 16
  else if lksE N V c.lk ≠ 0 then lksE N V c.lk
  else if strangeB V c = true then 18 else 0
def ceLt (a b : Ce) : Bool := decide (a.ask < b.ask) || (decide (a.ask = b.ask) && decide (a.num < b.num))
def prevC (q : Option Ce) (c : Ce) : Bool := match q with | none => false | some p => !ceLt p c
def ceGo (N : List Nd) (V : List Dv) : Option Ce → List Ce → Int
  | _, [] => 0
  | q, c :: l => if certE N V c ≠ 0 then certE N V c else if prevC q c = true then 14 else ceGo N V (some c) l
def allE (N : List Nd) (V : List Dv) (L : List Ce) : Int := if ceGo N V none L ≠ 0 then ceGo N V none L else if 16 < L.length then 1 else 0
def isC (a n : Int) (c : Ce) : Bool := decide (c.ask = a) && decide (c.num = n)
def findC (L : List Ce) (a n : Int) : Int := idxG (isC a n) L 0
def putC (L : List Ce) (c : Ce) : List Ce × Int := if L.length = 16 then ([], 1) else (insG ceLt c L, 0)
def askC (N : List Nd) (V : List Dv) (L : List Ce) (a : Int) (c : Ce) : List Ce × Int :=
  if allE N V L ≠ 0 then ([], allE N V L) else if certE N V c ≠ 0 then ([], certE N V c) else if c.ask ≠ a ∨ c.st ≠ 1 then ([], 50) else if 0 ≤ findC L c.ask c.num then ([], 4) else putC L c
def atC (L : List Ce) (i : Int) : Ce := L.getD i.toNat default
def stC (c : Ce) (s : Int) : Ce := ⟨c.num, c.ask, c.giv, s, c.lk⟩
def withC (L : List Ce) (i s : Int) : List Ce := if s = 0 then L.take i.toNat ++ L.drop (i.toNat + 1) else L.set i.toNat (stC (atC L i) s)
structure Tr where
  heard : Int
  before : Int
  behind : Int
  asker : Bool
def rowsC : List Tr := [⟨2, 1, 3, true⟩, ⟨4, 2, 0, false⟩, ⟨5, 4, 0, true⟩]
def mineC (b : Bool) (h : Int) (c : Ce) : Bool := if b then decide (c.ask = h) else decide (c.giv = h)
def fitC (L : List Ce) (i h : Int) (c : Ce) (t : Tr) : Bool := decide (t.heard = c.st) && mineC t.asker h c && decide (0 ≤ i) && decide ((atC L i).st = t.before) && decide ((atC L i).giv = c.giv) && decide ((atC L i).lk = c.lk)
def hearGo (L : List Ce) (i h : Int) (c : Ce) : List Tr → List Ce × Int
  | [] => ([], 50)
  | t :: l => if fitC L i h c t = true then (withC L i t.behind, 0) else hearGo L i h c l
def hearC (N : List Nd) (V : List Dv) (L : List Ce) (h : Int) (c : Ce) : List Ce × Int :=
  if allE N V L ≠ 0 then ([], allE N V L) else if certE N V c ≠ 0 then ([], certE N V c)
  else if c.st = 1 then (if c.giv ≠ h then ([], 50) else if 0 ≤ findC L c.ask c.num then ([], 4) else putC L c)
  else hearGo L (findC L c.ask c.num) h c rowsC
def giveC (N : List Nd) (V : List Dv) (L : List Ce) (g a n : Int) : List Ce × Int :=
  if allE N V L ≠ 0 then ([], allE N V L) else if findC L a n < 0 then ([], 15)
  else if (atC L (findC L a n)).giv ≠ g ∨ (atC L (findC L a n)).st ≠ 1 then ([], 50) else (withC L (findC L a n) 2, 0)
def backC (N : List Nd) (V : List Dv) (L : List Ce) (a n : Int) : List Ce × Int :=
  if allE N V L ≠ 0 then ([], allE N V L) else if findC L a n < 0 then ([], 15)
  else if (atC L (findC L a n)).st ≠ 3 then ([], 50) else (withC L (findC L a n) 4, 0)
def posW (p : Int) : List UInt8 := if p = 1 then [111, 112, 101, 110] else [99, 108, 111, 115, 101, 100]
def nameAt (V : List Dv) (d : Int) : ByteArray := match V[d.toNat]? with
  | some x => x.n
  | none => ⟨#[]⟩
def wLock : List UInt8 := [108, 111, 99, 107]
def wKey : List UInt8 := [107, 101, 121]
def wCert : List UInt8 := [99, 101, 114, 116, 105, 102, 105, 99, 97, 116, 101]
def wGiver : List UInt8 := [103, 105, 118, 101, 114]
def wState : List UInt8 := [115, 116, 97, 116, 101]
def txL (n : Int) : List UInt8 := (txtP n).data.toList
def lkW (V : List Dv) (k : Lk) : List (List UInt8) := [wLock, (nameAt V k.d).data.toList, posW k.p, wKey, txL k.k]
def ceW (V : List Dv) (c : Ce) : List (List UInt8) := [wCert, txL c.ask, txL c.num, wGiver, txL c.giv, wState, txL c.st] ++ c.lk.flatMap (lkW V)
theorem ceLt_iff (a b : Ce) : ceLt a b = true ↔ a.ask < b.ask ∨ a.ask = b.ask ∧ a.num < b.num := by unfold ceLt; simp
theorem ceLt_tr {a b c : Ce} (h1 : ceLt a b = true) (h2 : ceLt b c = true) : ceLt a c = true := by
  rw [ceLt_iff] at *; omega
theorem lkGo_rng {V : List Dv} : ∀ (L P : List Lk), lkGo V P L = 0 → ∀ k ∈ L, faultE V k = 0
  | [], P, _, k, hk => by cases hk
  | x :: l, P, h, k, hk => by
    rw [lkGo] at h
    split at h
    · rename_i c; exact absurd h c
    rename_i c
    rcases List.mem_cons.1 hk with rfl | hk
    · unfold lkE at c
      split at c
      · rename_i c9; omega
      · rename_i c9; omega
    · exact lkGo_rng l _ h k hk
theorem lksE_rng {N : List Nd} {V : List Dv} {L : List Lk} (h : lksE N V L = 0) : ∀ k ∈ L, faultE V k = 0 := by
  unfold lksE at h
  split at h
  · rename_i c; exact absurd h c
  split at h
  · cases h
  · exact lkGo_rng L [] h
theorem faultE_rng {V : List Dv} {k : Lk} (h : faultE V k = 0) : 0 ≤ k.d ∧ k.d < V.length ∧ kindAt V k.d ≠ 5 ∧ (k.p = 1 ∨ k.p = 2) ∧ 0 ≤ k.k ∧ k.k ≤ 65536 := by
  unfold faultE at h
  split at h
  · cases h
  split at h
  · cases h
  split at h
  · cases h
  split at h
  · cases h
  · omega
structure CeOk (N : List Nd) (V : List Dv) (c : Ce) : Prop where
  net : netE N V = 0
  num : 1 ≤ c.num ∧ c.num ≤ 65536
  ask : 0 ≤ c.ask ∧ c.ask ≤ 7
  giv : 0 ≤ c.giv ∧ c.giv ≤ 7
  ne : c.ask ≠ c.giv
  st : 1 ≤ c.st ∧ c.st ≤ 5
  some : c.lk ≠ []
  lk : lksE N V c.lk = 0
  own : strangeB V c = false
theorem compB_iff (n : Int) : compB n = true ↔ 0 ≤ n ∧ n ≤ 7 := by unfold compB; simp
theorem certE_iff {N : List Nd} {V : List Dv} {c : Ce} : certE N V c = 0 ↔ CeOk N V c := by
  unfold certE
  constructor
  · intro h
    split at h
    · rename_i c9; exact absurd h c9
    rename_i h0
    split at h
    · cases h
    rename_i h1
    split at h
    · cases h
    rename_i h2
    split at h
    · cases h
    rename_i h3
    split at h
    · cases h
    rename_i h4
    split at h
    · rename_i c9; exact absurd h c9
    rename_i h5
    split at h
    · cases h
    rename_i h6
    have a := compB_iff c.ask
    have g := compB_iff c.giv
    simp only [not_or, Bool.not_eq_false] at h1
    refine ⟨by omega, by omega, a.1 h1.2.2.1, g.1 h1.2.2.2, h2, by omega, h4, by omega, by simpa using h6⟩
  · intro h
    have a := (compB_iff c.ask).2 h.ask
    have g := (compB_iff c.giv).2 h.giv
    have h1 := h.num
    have h2 := h.st
    rw [if_neg (by rw [h.net]; decide), if_neg (by rw [a, g]; simp; omega), if_neg h.ne, if_neg (by omega), if_neg h.some, if_neg (by rw [h.lk]; decide), if_neg (by rw [h.own]; decide)]
theorem CeOk.state {N : List Nd} {V : List Dv} {c : Ce} (h : CeOk N V c) {s : Int} (h1 : 1 ≤ s) (h2 : s ≤ 5) : CeOk N V (stC c s) := ⟨h.net, h.num, h.ask, h.giv, h.ne, ⟨h1, h2⟩, h.some, h.lk, h.own⟩
def CeLs (N : List Nd) (V : List Dv) (L : List Ce) : Prop := (∀ c ∈ L, CeOk N V c) ∧ AscG ceLt L
theorem ceGo_iff {N : List Nd} {V : List Dv} : ∀ (L : List Ce) (q : Option Ce), ceGo N V q L = 0 ↔ (∀ c ∈ L, CeOk N V c) ∧ (∀ p, q = some p → ∀ c ∈ L, ceLt p c = true) ∧ AscG ceLt L
  | [], q => by simp [ceGo, AscG]
  | c :: l, q => by
    have ih := ceGo_iff (N := N) (V := V) l (some c)
    rw [ceGo]
    constructor
    · intro h
      split at h
      · rename_i c9; exact absurd h c9
      rename_i h0
      split at h
      · cases h
      rename_i h1
      obtain ⟨a1, a2, a3⟩ := ih.1 h
      have hc := certE_iff.1 (show certE N V c = 0 by omega)
      refine ⟨fun x hx => ?_, fun p hp x hx => ?_, ?_⟩
      · rcases List.mem_cons.1 hx with rfl | hx
        · exact hc
        · exact a1 x hx
      · subst hp
        have h2 : ceLt p c = true := by
          cases hq : ceLt p c with
          | true => rfl
          | false => exact absurd (show prevC (some p) c = true by unfold prevC; simp [hq]) h1
        rcases List.mem_cons.1 hx with rfl | hx
        · exact h2
        · exact ceLt_tr h2 (a2 c rfl x hx)
      · exact List.pairwise_cons.2 ⟨fun x hx => a2 c rfl x hx, a3⟩
    · rintro ⟨a1, a2, a3⟩
      have hc := certE_iff.2 (a1 c (by simp))
      have hp : prevC q c = false := by
        cases q with
        | none => rfl
        | some p => unfold prevC; simp [a2 p rfl c (by simp)]
      rw [if_neg (by rw [hc]; decide), if_neg (by rw [hp]; decide)]
      obtain ⟨b1, b2⟩ := List.pairwise_cons.1 a3
      exact ih.2 ⟨fun x hx => a1 x (by simp [hx]), fun p hp x hx => by injection hp with hp; subst hp; exact b1 x hx, b2⟩
theorem allE_iff {N : List Nd} {V : List Dv} {L : List Ce} : allE N V L = 0 ↔ CeLs N V L ∧ L.length ≤ 16 := by
  unfold allE
  have h := ceGo_iff (N := N) (V := V) L none
  constructor
  · intro h0
    split at h0
    · rename_i c9; exact absurd h0 c9
    rename_i h1
    split at h0
    · cases h0
    obtain ⟨a1, -, a3⟩ := h.1 (by omega)
    exact ⟨⟨a1, a3⟩, by omega⟩
  · rintro ⟨⟨a1, a3⟩, h1⟩
    have := h.2 ⟨a1, by simp, a3⟩
    rw [if_neg (by rw [this]; decide), if_neg (by omega)]
end Go.Proofs.YtamihjgfncjdoaaDoor
