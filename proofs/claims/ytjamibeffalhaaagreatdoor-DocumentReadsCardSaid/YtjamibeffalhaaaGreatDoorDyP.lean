/- What the references read a first line and the line of a lock as, against the plain functions; nothing of the program stands here. -/
import Derived.Test.YtjamibeffalhaaaGreatDoorDyA
set_option linter.unusedVariables false
set_option linter.unusedSimpArgs false
namespace Go.Proofs.YtjamibeffalhaaaGreatDoor
open Go Go.RowKit
theorem valR_ne {p w : List UInt8} (h : p ≠ []) (h2 : w ≠ p) (P W A : List (List UInt8)) : valR (p :: P) (w :: W) A = none := by rw [valR, if_neg h, if_neg (fun e => h2 e.symm)]
theorem qr {a : List UInt8} {b : Array UInt8} (h : a = b.toList) : yI (strL a) ⟨b⟩ = true := (jZ a b.toList).2 h
theorem qq {a : List UInt8} {b : Array UInt8} (h : ¬ a = b.toList) : yI (strL a) ⟨b⟩ = false := by
  cases hq : yI (strL a) ⟨b⟩ with
  | false => rfl
  | true => exact absurd ((jZ a b.toList).1 hq) h
/-- What a reader says of a first line, against what another one says. -/
def sX (x : Dc × Bool) (y : Dc × Int) : Prop := (y.2 = 0 → x.2 = true ∧ x.1 = y.1) ∧ (y.2 ≠ 0 → x.2 = false ∧ y.2 = 2)
theorem mK (w : List UInt8) : ∀ (L : List (List UInt8)) (i : Int), 0 < i → (idxL w i L < 1 ∧ idxR w i L = 0) ∨ (0 < idxR w i L ∧ idxL w i L = idxR w i L)
  | [], i, _ => .inl ⟨by rw [idxL]; omega, rfl⟩
  | d :: l, i, h => by
    rw [idxL, idxR]
    by_cases e : w = d
    · rw [if_pos e, if_pos e.symm]; exact .inr ⟨h, rfl⟩
    · rw [if_neg e, if_neg (fun q => e q.symm)]; exact mK w l (i + 1) (by omega)
theorem wP {L : List (List UInt8)} : ∀ (i : Int), [] ∉ L → idxR [] i L = 0 := by
  induction L with
  | nil => intro i _; rfl
  | cons d l ih => intro i h; rw [idxR, if_neg (fun e => h (by simp [e]))]; exact ih _ (fun q => h (by simp [q]))
/-- The place of a word by both ways. -/
theorem rN (w : List UInt8) (L : List (List UInt8)) (h : [] ∉ L) : (idxL w 0 ([] :: L) < 1 ∧ idxR w 1 L = 0) ∨ (0 < idxR w 1 L ∧ idxL w 0 ([] :: L) = idxR w 1 L) := by
  rw [idxL]
  by_cases e : w = []
  · rw [if_pos e, e]; exact .inl ⟨by omega, wP 1 h⟩
  · rw [if_neg e]; exact mK w L 1 (by omega)
theorem sP {i e : Int} : okI i e = 0 ↔ (¬ i < 1 ∧ e = 0) := by unfold okI; split <;> simp_all
theorem fW {q : Option Int} {e : Int} : okN q e = 0 ↔ (q.isSome = true ∧ e = 0) := by unfold okN; split <;> simp_all
theorem sZ {i e : Int} (h : e = 0 ∨ e = 2) : okI i e = 0 ∨ okI i e = 2 := by unfold okI; split <;> simp_all
theorem fD {q : Option Int} {e : Int} (h : e = 0 ∨ e = 2) : okN q e = 0 ∨ okN q e = 2 := by unfold okN; split <;> simp_all
theorem valE_two (A : List (List UInt8)) : valE A = 0 ∨ valE A = 2 := fD (fD (fD (fD (sZ (fD (sZ (.inl rfl)))))))
def bM : List (List UInt8) := [sN, testL, vO]
def qx : List (List UInt8) := [prepL, tD, forceL, suspL, vU]
/-- The document of the reference's words. -/
def docR (A : List (List UInt8)) : Dc := ⟨(numT (wAt A 1)).getD 0, idxR (wAt A 0) 1 bM, idxR (wAt A 2) 1 qx, (numT (wAt A 3)).getD 0, [], (numT (wAt A 4)).getD 0, [], strL (wAt A 5), strL (wAt A 6), (numT (wAt A 7)).getD 0, (numT (wAt A 8)).getD 0, []⟩
def docB (A : List (List UInt8)) : Bool := decide (0 < idxR (wAt A 0) 1 bM) && decide (0 < idxR (wAt A 2) 1 qx) && (numT (wAt A 1)).isSome && (numT (wAt A 3)).isSome && (numT (wAt A 4)).isSome && (numT (wAt A 7)).isSome && (numT (wAt A 8)).isSome
theorem wZ (A : List (List UInt8)) : sX (docR A, docB A) (valD A, valE A) := by
  have k := rN (wAt A 0) bM (by decide)
  have s := rN (wAt A 2) qx (by decide)
  have k' : idxL (wAt A 0) 0 ([] :: bM) = idxL (wAt A 0) 0 yx := rfl
  have s' : idxL (wAt A 2) 0 ([] :: qx) = idxL (wAt A 2) 0 yn := rfl
  rw [k'] at k
  rw [s'] at s
  have hv : valE A = 0 ↔ docB A = true := by
    unfold valE docB
    rw [fW, fW, fW, fW, sP, fW, sP]
    simp only [Bool.and_eq_true, decide_eq_true_eq]
    constructor
    · rintro ⟨h1, h2, h3, h4, h5, h6, h7, _⟩
      exact ⟨⟨⟨⟨⟨⟨by omega, by omega⟩, h6⟩, h4⟩, h3⟩, h2⟩, h1⟩
    · rintro ⟨⟨⟨⟨⟨⟨h1, h2⟩, h3⟩, h4⟩, h5⟩, h6⟩, h7⟩
      exact ⟨h7, h6, h5, h4, by omega, h3, by omega, trivial⟩
  refine ⟨fun h => ?_, fun h => ?_⟩
  · have hb := hv.1 h
    refine ⟨hb, ?_⟩
    unfold docB at hb
    simp only [Bool.and_eq_true, decide_eq_true_eq] at hb
    have e1 : idxR (wAt A 0) 1 bM = idxL (wAt A 0) 0 yx := by omega
    have e2 : idxR (wAt A 2) 1 qx = idxL (wAt A 2) 0 yn := by omega
    unfold docR valD
    rw [e1, e2]
  · refine ⟨?_, ?_⟩
    · cases hb : docB A with
      | false => rfl
      | true => exact absurd (hv.2 hb) h
    · have h' : valE A ≠ 0 := h
      rcases valE_two A with q | q
      · exact absurd q h'
      · exact q
theorem qo {W : List (List UInt8)} (h : (jI W).2 = 2) : sX (Dc.zer, false) (jI W) := by
  refine ⟨fun e => ?_, fun _ => ⟨rfl, h⟩⟩
  rw [h] at e; cases e
theorem uF {W : List (List UInt8)} (h : W.length ≠ 16) : (jI W).2 = 2 := by
  unfold jI eY
  split
  · rfl
  · first | rfl | rw [if_pos h]
theorem qL {W : List (List UInt8)} (h : W.length = 16) : jI W = match valR yS W [] with
  | none => (Dc.zer, 2)
  | some A => (valD A, valE A) := by
  unfold jI eY
  rw [if_neg (by omega), if_neg (by omega)]
  rfl
@[reducible] def ncD (d : Dc) (z l c : AV) : List AV := [.v (.int .i64 d.num), .v (.int .i64 d.kind), .v (.int .i64 d.st), .v (.int .i64 d.rd), z, .v (.int .i64 d.safe), l, .v (.string d.iss), .v (.string d.hol), .v (.int .i64 d.f), .v (.int .i64 d.u), c]
theorem uV {V : List Dv} {K : List Lk} {C : List Int} {W : List (List UInt8)} (h : 0 < W.length) (h0 : wAt W 0 = bC) : jN V K C W = ((jU V K C W).1, C, (jU V K C W).2) := by
  unfold jN
  rw [if_neg (by omega), if_pos h0]
theorem aB {V : List Dv} {K : List Lk} {C : List Int} {W : List (List UInt8)} (hn : ¬ (0 < W.length ∧ wAt W 0 = bC ∧ C = [])) (h : W.length ≠ 2 ∨ wAt W 0 ≠ bI) : (jN V K C W).2.2 = 2 := by
  unfold jN
  split
  · rfl
  rename_i h1
  split
  · rename_i h2
    unfold jU
    rw [if_pos (.inr (.inr fun e => hn ⟨by omega, h2, e⟩))]
  split
  · rename_i h3
    unfold cE
    rcases h with h | h
    · rw [if_pos h]
    · exact absurd h3 h
  · rfl
theorem gF {V : List Dv} {K : List Lk} {C : List Int} {W : List (List UInt8)} (h : W.length = 2) (h0 : wAt W 0 = bI) : jN V K C W = (K, C ++ [(numT (wAt W 1)).getD 0], okN (numT (wAt W 1)) 0) := by
  unfold jN
  rw [if_neg (by omega), if_neg (by rw [h0]; decide), if_pos h0]
  unfold cE
  rw [if_neg (by omega)]
/-- What is said of a lock's line. -/
def xM (K : List Lk) (x : Lk × Bool × Bool) (y : List Lk × Int) : Prop := (x.2.1 = false → y.2 = 2) ∧ (x.2.1 = true → x.2.2 = false → y.2 = 8) ∧ (x.2.1 = true → x.2.2 = true → y = (K ++ [x.1], 0))
def posR (w : List UInt8) : Int := if w = dT then 2 else 1
theorem lI {V : List Dv} {W : List (List UInt8)} {K : List Lk} (h5 : W.length = 5) (h3 : wAt W 3 = keyL) (h2 : wAt W 2 = rA ∨ wAt W 2 = dT) :
    xM K (⟨devI (wAt W 1) 0 V, posR (wAt W 2), (numT (wAt W 4)).getD 0⟩, (numT (wAt W 4)).isSome, decide (0 ≤ devI (wAt W 1) 0 V)) (jU V K [] W) := by
  have hp : idxL (wAt W 2) 0 posL = posR (wAt W 2) ∧ 0 < posR (wAt W 2) := by rcases h2 with e | e <;> rw [e] <;> decide
  unfold jU
  rw [if_neg (by rintro (q | q | q); exact q h5; exact q h3; exact q rfl), hp.1]
  have hi : okI (posR (wAt W 2)) 0 = 0 := by unfold okI; rw [if_neg (by omega)]
  unfold rF
  rw [hi]
  refine ⟨fun h => ?_, fun h h' => ?_, fun h h' => ?_⟩
  · dsimp only at h ⊢
    have e : okN (numT (wAt W 4)) 0 = 2 := by unfold okN; rw [h]; rfl
    rw [e, if_neg (by omega)]
  · dsimp only at h h' ⊢
    have e : okN (numT (wAt W 4)) 0 = 0 := by unfold okN; rw [h]; rfl
    rw [e, if_pos ⟨rfl, by have := of_decide_eq_false h'; omega⟩]
  · dsimp only at h h' ⊢
    have e : okN (numT (wAt W 4)) 0 = 0 := by unfold okN; rw [h]; rfl
    rw [e, if_neg (by have := of_decide_eq_true h'; omega)]
theorem fP {V : List Dv} {W : List (List UInt8)} {K : List Lk} (h : W.length ≠ 5 ∨ wAt W 3 ≠ keyL ∨ (wAt W 2 ≠ rA ∧ wAt W 2 ≠ dT)) (x : Lk) (b : Bool) : xM K (x, false, b) (jU V K [] W) := by
  refine ⟨fun _ => ?_, fun h => (by cases h), fun h => (by cases h)⟩
  unfold jU
  by_cases h1 : W.length ≠ 5 ∨ wAt W 3 ≠ keyL ∨ ([] : List Int) ≠ []
  · rw [if_pos h1]
  rw [if_neg h1]
  have h2 : wAt W 2 ≠ rA ∧ wAt W 2 ≠ dT := by
    rcases h with h | h | h
    · exact absurd (.inl h) h1
    · exact absurd (.inr (.inl h)) h1
    · exact h
  have hp : idxL (wAt W 2) 0 posL < 1 := by
    unfold posL
    rw [idxL]
    split
    · omega
    rw [idxL, if_neg h2.1, idxL, if_neg h2.2, idxL]
    omega
  have hi : okI (idxL (wAt W 2) 0 posL) 0 = 2 := by unfold okI; rw [if_pos hp]
  unfold rF
  rw [hi]
  have e : okN (numT (wAt W 4)) 2 = 2 := by unfold okN; split <;> rfl
  rw [e]
  rfl
end Go.Proofs.YtjamibeffalhaaaGreatDoor
