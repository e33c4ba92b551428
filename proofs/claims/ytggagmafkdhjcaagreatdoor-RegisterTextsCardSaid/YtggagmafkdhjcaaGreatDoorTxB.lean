/- The texts of registers, by plain functions: what is printed, what a text is read as, and that people's lines in any order lead back to the register; nothing of the program stands here but the letters of skills / The reference of Text, by the abstract machine: the numeral of every integer; conditions: none. -/
import Derived.Test.YtggagmafkdhjcaaGreatDoorGnP
import Derived.Test.YtggagmafkdhjcaaGreatDoorCaU
import Derived.Test.YtggagmafkdhjcaaGreatDoorReQ
import Derived.Test.YtggagmafkdhjcaaGreatDoorRtA
import Derived.Test.YtggagmafkdhjcaaGreatDoorTxA
set_option linter.unusedVariables false
set_option linter.unusedSimpArgs false
namespace Go.Proofs.YtggagmafkdhjcaaGreatDoor
open Go Go.RowKit
def cM : List UInt8 := [112, 101, 114, 115, 111, 110]
def aJ : List UInt8 := [99, 111, 109, 112, 97, 110, 121]
def cB : List UInt8 := [115, 107, 105, 108, 108, 115]
def lO : List UInt8 := [102, 114, 111, 109]
def dU : List UInt8 := [117, 110, 116, 105, 108]
def skL (s : Int) : List UInt8 := (qP s).data.toList
def tmL (t : Int) : List UInt8 := (qH t).data.toList
def jk (p : Per) : List (List UInt8) := [cM, p.n.data.toList, aJ, Lib.itoa p.c, cB, skL p.s, lO, tmL p.f, dU, tmL p.u]
def regT (L : List Per) : List UInt8 := jz (L.map fun p => jq (jk p))
def eG (s : ByteArray) : Nat → Nat → Int × Bool
  | 0, _ => (0, false)
  | m + 1, n => if qP (n : Int) = s then ((n : Int), true) else eG s m (n + 1)
def aC (s : ByteArray) : Int × Bool := eG s 32 0
theorem rH : ∀ n : Fin 32, aC (qP (n.val : Int)) = ((n.val : Int), true) := by decide +kernel
theorem wK : ∀ n : Fin 32, skL (n.val : Int) ≠ [] ∧ (∀ c ∈ skL (n.val : Int), c ≠ 32 ∧ 32 ≤ c.toNat ∧ c.toNat ≤ 126) ∧ (skL (n.val : Int)).length ≤ 5 := by decide +kernel
def Per.zer : Per := ⟨⟨#[]⟩, 0, 0, 0, 0⟩
def dI (W : List (List UInt8)) : Prop := W.length = 10 ∧ wAt W 0 = cM ∧ wAt W 2 = aJ ∧ wAt W 4 = cB ∧ wAt W 6 = lO ∧ wAt W 8 = dU
instance (W : List (List UInt8)) : Decidable (dI W) := by unfold dI; infer_instance
def jJ (W : List (List UInt8)) : Per × Bool :=
  if dI W then (⟨strL (wAt W 1), (numP (wAt W 3) 1073741824).getD 0, (aC (strL (wAt W 5))).1, (jj (wAt W 7)).1, (jj (wAt W 9)).1⟩,
    (numP (wAt W 3) 1073741824).isSome && (aC (strL (wAt W 5))).2 && decide ((jj (wAt W 7)).2 = 0) && decide ((jj (wAt W 9)).2 = 0))
  else (Per.zer, false)
/-- Whether a line matters. -/
def matB (W : List (List UInt8)) : Bool := !decide (W.length = 0 ∨ (wAt W 0)[0]? = some 35)
def bK : Nat → List Per → List (List UInt8) → Except (Int × Int) (List Per)
  | _, R, [] => .ok R
  | i, R, l :: ls => if matB (jR l) = false then bK (i + 1) R ls else if (jJ (jR l)).2 = false then .error ((i : Int) + 1, 2)
    else if (addK R (jJ (jR l)).1).2 ≠ 0 then .error ((i : Int) + 1, (addK R (jJ (jR l)).1).2) else bK (i + 1) (addK R (jJ (jR l)).1).1 ls
theorem eS (i : Nat) (R : List Per) (l : List UInt8) (ls : List (List UInt8)) : bK i R (l :: ls) = if matB (jR l) = false then bK (i + 1) R ls else if (jJ (jR l)).2 = false then .error ((i : Int) + 1, 2)
    else if (addK R (jJ (jR l)).1).2 ≠ 0 then .error ((i : Int) + 1, (addK R (jJ (jR l)).1).2) else bK (i + 1) (addK R (jJ (jR l)).1).1 ls := rfl
def endR : Except (Int × Int) (List Per) → List Per × Int × Int
  | .error (i, e) => ([], i, e)
  | .ok R => (R, 0, 0)
def cQ (s : List UInt8) : List Per × Int × Int := match jy s with
  | none => ([], 0, 2)
  | some L => endR (bK 0 [] L)
/-- What a valid person is. -/
structure PvOk (p : Per) : Prop where
  n : ql p.n.data.toList = true
  c : 0 ≤ p.c ∧ p.c ≤ 7
  s : 0 ≤ p.s ∧ p.s ≤ 31
  t : 0 ≤ p.f ∧ p.f < p.u ∧ p.u ≤ 16777216
theorem rX {p : Per} (h : jF p = 0) (hs : I64 p.s) : PvOk p := by
  unfold jF at h
  split at h
  · cases h
  rename_i h1
  split at h
  · cases h
  rename_i h2
  split at h
  · rename_i h3
    have h4 := bH hs (Classical.byContradiction fun e => h2 (.inr (.inr e)))
    unfold dF at h3
    simp only [Bool.and_eq_true, decide_eq_true_eq] at h3
    exact ⟨by simpa using h1, by omega, h4, by omega⟩
  · cases h
theorem mK {t : Int} (h0 : 0 ≤ t) (h1 : t ≤ 16777216) : qN t = true := qo.2 ⟨h0, h1⟩
theorem iL {p : Per} (h : PvOk p) : jJ (jk p) = (p, true) := by
  have ht := h.t
  have hs := h.s
  have hc := h.c
  have w1 : wAt (jk p) 1 = p.n.data.toList := rfl
  have w3 : wAt (jk p) 3 = Lib.itoa p.c := rfl
  have w5 : wAt (jk p) 5 = skL p.s := rfl
  have w7 : wAt (jk p) 7 = tmL p.f := rfl
  have w9 : wAt (jk p) 9 = tmL p.u := rfl
  have e5 : strL (skL p.s) = qP p.s := oG _
  have b5 : aC (qP p.s) = (p.s, true) := by
    have := rH ⟨p.s.toNat, by omega⟩
    dsimp only at this
    rw [Int.toNat_of_nonneg hs.1] at this
    exact this
  have f7 := (aQ (mK ht.1 (by omega))).1
  have f9 := (aQ (t := p.u) (mK (by omega) ht.2.2)).1
  have n3 : numP (Lib.itoa p.c) 1073741824 = some p.c := by rw [fK, if_neg (by omega), if_pos (by omega)]
  unfold jJ
  rw [if_pos (show dI (jk p) from ⟨rfl, rfl, rfl, rfl, rfl, rfl⟩), w1, w3, w5, w7, w9, e5, b5, n3]
  unfold tmL
  rw [f7, f9, oG]
  rfl
theorem cU {n : Int} : ∀ c ∈ (txtP n).data.toList, okC c ∧ c ≠ 32 := fun c hc => by
  have e : (txtP n).data.toList = Lib.itoa n := by unfold txtP; simp
  rw [e] at hc
  exact ⟨lM n c hc, nC n c hc⟩
theorem eE (a b : ByteArray) : (a ++ b).data.toList = a.data.toList ++ b.data.toList := by simp
theorem gC {n : Int} : ∀ c ∈ (twoP n).data.toList, okC c ∧ c ≠ 32 := fun c hc => by
  unfold twoP at hc
  split at hc
  · rw [eE] at hc
    rcases List.mem_append.1 hc with hc | hc
    · have : c = 48 := by simpa [vV] using hc
      subst this; decide
    · exact cU c hc
  · exact cU c hc
theorem tD {t : Int} (h : qN t = true) : ∀ c ∈ tmL t, okC c ∧ c ≠ 32 := fun c hc => by
  unfold tmL qH at hc
  rw [if_pos h, eE, eE, eE, eE] at hc
  rcases List.mem_append.1 hc with hc | hc
  · rcases List.mem_append.1 hc with hc | hc
    · rcases List.mem_append.1 hc with hc | hc
      · rcases List.mem_append.1 hc with hc | hc
        · exact cU c hc
        · have : c = 47 := by simpa [qz] using hc
          subst this; decide
      · exact gC c hc
    · have : c = 58 := by simpa [eI] using hc
      subst this; decide
  · exact gC c hc
theorem dO {p : Per} (h : PvOk p) : ∀ w ∈ jk p, w ≠ [] ∧ (∀ c ∈ w, okC c ∧ c ≠ 32) ∧ w.length ≤ 100 := by
  have ht := h.t
  have hs := h.s
  have hc := h.c
  have lit : ∀ w : List UInt8, w ∈ [cM, aJ, cB, lO, dU] → w ≠ [] ∧ (∀ c ∈ w, okC c ∧ c ≠ 32) ∧ w.length ≤ 100 := by
    intro w hw
    simp only [List.mem_cons, List.not_mem_nil, or_false] at hw
    rcases hw with rfl | rfl | rfl | rfl | rfl <;> exact ⟨by decide, by decide, by decide⟩
  have tm : ∀ t, 0 ≤ t → t ≤ 16777216 → tmL t ≠ [] ∧ (∀ c ∈ tmL t, okC c ∧ c ≠ 32) ∧ (tmL t).length ≤ 100 := fun t h0 h1 => by
    have hb := mK h0 h1
    obtain ⟨-, -, h2, h3⟩ := aQ hb
    have hz : (tmL t).length = (qH t).size := Array.length_toList
    exact ⟨fun e => by rw [e] at hz; simp at hz; omega, tD hb, by omega⟩
  unfold jk
  simp only [List.mem_cons, List.not_mem_nil, or_false]
  rintro w (rfl | rfl | rfl | rfl | rfl | rfl | rfl | rfl | rfl | rfl)
  · exact lit _ (by simp)
  · have hn := uT h.n
    exact ⟨hn.1, fun c hc => ⟨(tC h.n c hc).1, hn.2.1 c hc⟩, by omega⟩
  · exact lit _ (by simp)
  · exact ⟨oJ _, fun c hc => ⟨lM _ c hc, nC _ c hc⟩, by have := fC (n := p.c) (by omega) (by omega); omega⟩
  · exact lit _ (by simp)
  · have hk := wK ⟨p.s.toNat, by omega⟩
    dsimp only at hk
    rw [Int.toNat_of_nonneg hs.1] at hk
    exact ⟨hk.1, fun c hc => ⟨(hk.2.1 c hc).2, (hk.2.1 c hc).1⟩, by omega⟩
  · exact lit _ (by simp)
  · exact tm _ ht.1 (by omega)
  · exact lit _ (by simp)
  · exact tm _ (by omega) ht.2.2
theorem mD {p : Per} (h : PvOk p) : jR (jq (jk p)) = jk p := dV fun w hw => ⟨(dO h w hw).1, fun c hc => ((dO h w hw).2.1 c hc).2⟩
theorem gU {p : Per} (h : PvOk p) : (∀ c ∈ jq (jk p), okC c) ∧ (jq (jk p)).length ≤ 1010 := by
  have h10 : (jk p).length = 10 := rfl
  have := eZ (jk p) 100 (fun w hw => (dO h w hw).2.2)
  exact ⟨lF fun w hw c hc => ((dO h w hw).2.1 c hc).1, by omega⟩
theorem oV (A B : List (List UInt8)) : jz (A ++ B) = jz A ++ jz B := by unfold jz; rw [List.flatMap_append]
theorem iY (A B : List Per) : regT (A ++ B) = regT A ++ regT B := by unfold regT; rw [List.map_append, oV]
theorem aP {M : List Per} (h : ∀ p ∈ M, PvOk p) : (regT M).length ≤ M.length * 1011 := by
  have := nO (L := M.map fun p => jq (jk p)) (b := 1010) (fun l hl => by
    obtain ⟨p, hp, rfl⟩ := List.mem_map.1 hl
    exact (gU (h p hp)).2)
  rw [List.length_map] at this
  exact this
theorem eR {M : List Per} (h : ∀ p ∈ M, PvOk p) (hl : M.length ≤ 64) : jy (regT M) = some (M.map fun p => jq (jk p)) :=
  pK (fun l hm => by
    obtain ⟨p, hp, rfl⟩ := List.mem_map.1 hm
    exact (gU (h p hp)).1) (by have := aP h; unfold regT at this; omega)
theorem tM (p : Per) : matB (jk p) = true := rfl
/-- People whose lines are read one after another are in the register then. -/
theorem kY : ∀ (M R : List Per) (i : Nat), VL R → (∀ p ∈ M, PvOk p ∧ jF p = 0) → NeqN M → (∀ p ∈ M, ∀ x ∈ R, x.n ≠ p.n) → R.length + M.length ≤ 64 →
    ∃ R', bK i R (M.map fun p => jq (jk p)) = .ok R' ∧ VL R' ∧ ∀ x, x ∈ R' ↔ x ∈ R ∨ x ∈ M
  | [], R, i, hR, _, _, _, _ => ⟨R, rfl, hR, fun x => by simp⟩
  | p :: M, R, i, hR, hv, hn, hd, hl => by
    obtain ⟨hp1, hp2⟩ := hv p (by simp)
    obtain ⟨hn1, hn2⟩ := List.pairwise_cons.1 hn
    rw [List.length_cons] at hl
    obtain ⟨e, hX, hXm⟩ := tN hR hp2 (by omega) (hd p (by simp))
    have hXl : (jv ltP (R ++ [p])).length = R.length + 1 := by rw [qR]; simp
    obtain ⟨R', h1, h2, h3⟩ := kY M (jv ltP (R ++ [p])) (i + 1) hX (fun q hq => hv q (by simp [hq])) hn2 (fun q hq x hx => by
      rcases (hXm x).1 hx with h | h
      · exact hd q (by simp [hq]) x h
      · rw [h]; exact hn1 q hq) (by omega)
    refine ⟨R', ?_, h2, fun x => ?_⟩
    · rw [List.map_cons, eS, mD hp1, tM, if_neg (by decide), iL hp1, if_neg (show ¬ true = false by decide)]
      dsimp only
      rw [e]
      dsimp only
      rw [if_neg (by decide)]
      exact h1
    · rw [h3, hXm, List.mem_cons]
      constructor
      · rintro ((h | h) | h) <;> simp [h]
      · rintro (h | h | h) <;> simp [h]
/-- The text of a register's people in any order leads back to it. -/
theorem rZ {L M : List Per} (hL : VL L) (hi : ∀ p ∈ L, I64 p.s) (hp : M.Perm L) : cQ (regT M) = (L, 0, 0) := by
  have hv : ∀ p ∈ M, PvOk p ∧ jF p = 0 := fun p hm => by
    have := hp.mem_iff.1 hm
    exact ⟨rX (hL.2.1 p this) (hi p this), hL.2.1 p this⟩
  have hl : M.length ≤ 64 := by rw [hp.length_eq]; exact hL.1
  obtain ⟨R', h1, h2, h3⟩ := kY M [] 0 rN hv (iJ hp (nJ hL.2.2)) (fun p _ x hx => absurd hx List.not_mem_nil) (by simpa using hl)
  have : R' = L := kI h2.2.2 hL.2.2 (fun x => by rw [h3]; simp [hp.mem_iff])
  unfold cQ
  rw [eR (fun p hm => (hv p hm).1) hl]
  dsimp only
  rw [h1, this]
  rfl
end Go.Proofs.YtggagmafkdhjcaaGreatDoor
namespace Go.Proofs.YtggagmafkdhjcaaGreatDoor
open Go Go.RowKit
set_option maxRecDepth 10000
variable {G : Nat → Option (List Value)}
theorem sJ {s : ByteArray} {l : List UInt8} (h : s.data.toList = l) : s = ⟨l.toArray⟩ := by
  subst h; rfl
end Go.Proofs.YtggagmafkdhjcaaGreatDoor
