/- The texts of documents, by plain functions: what is printed, what a text is read as, and that the text of a valid document leads back to it; nothing of the program stands here / Texts with more spaces, and that different documents have different texts, by plain functions; nothing of the program stands here. -/
import Derived.Test.YtjamibeffalhaaaGreatDoorDcP
import Derived.Test.YtjamibeffalhaaaGreatDoorGnA
set_option linter.unusedVariables false
set_option linter.unusedSimpArgs false
namespace Go.Proofs.YtjamibeffalhaaaGreatDoor
open Go Go.RowKit
def sN : List UInt8 := [112, 101, 114, 109, 105, 116]
def testL : List UInt8 := [116, 101, 115, 116]
def vO : List UInt8 := [108, 105, 109, 105, 116, 97, 116, 105, 111, 110]
def prepL : List UInt8 := [112, 114, 101, 112, 97, 114, 101, 100]
def tD : List UInt8 := [105, 115, 115, 117, 101, 100]
def forceL : List UInt8 := [102, 111, 114, 99, 101]
def suspL : List UInt8 := [115, 117, 115, 112, 101, 110, 100, 101, 100]
def vU : List UInt8 := [99, 108, 101, 97, 114, 101, 100]
def rA : List UInt8 := [111, 112, 101, 110]
def dT : List UInt8 := [99, 108, 111, 115, 101, 100]
def bC : List UInt8 := [108, 111, 99, 107]
def keyL : List UInt8 := [107, 101, 121]
def qW : List UInt8 := [122, 111, 110, 101]
def bI : List UInt8 := [99, 101, 114, 116, 105, 102, 105, 99, 97, 116, 101]
def cN : List UInt8 := [115, 116, 97, 116, 101]
def cV : List UInt8 := [114, 111, 117, 110, 100]
def gV : List UInt8 := [115, 97, 102, 101]
def aU : List UInt8 := [105, 115, 115, 117, 101, 114]
def aW : List UInt8 := [104, 111, 108, 100, 101, 114]
def gZ : List UInt8 := [102, 114, 111, 109]
def cM : List UInt8 := [117, 110, 116, 105, 108]
def yx : List (List UInt8) := [[], sN, testL, vO]
def yn : List (List UInt8) := [[], prepL, tD, forceL, suspL, vU]
def posL : List (List UInt8) := [[], rA, dT]
def yS : List (List UInt8) := [[], [], cN, [], cV, [], gV, [], aU, [], aW, [], gZ, [], cM, []]
def aH (d : Dc) : List (List UInt8) := [wAt yx d.kind.toNat, Lib.itoa d.num, cN, wAt yn d.st.toNat, cV, Lib.itoa d.rd, gV, Lib.itoa d.safe, aU, d.iss.data.toList, aW, d.hol.data.toList, gZ, Lib.itoa d.f, cM, Lib.itoa d.u]
def qv (N : List Nd) (d : Dc) : List (List UInt8) := qW :: d.zone.map (nodN N)
def jw (V : List Dv) (k : Lk) : List (List UInt8) := [bC, devN V k.d, wAt posL k.p.toNat, keyL, Lib.itoa k.k]
def qs (c : Int) : List (List UInt8) := [bI, Lib.itoa c]
def qO (N : List Nd) (V : List Dv) (d : Dc) : List (List UInt8) := yl (aH d) :: yl (qv N d) :: (d.lk.map (fun k => yl (jw V k)) ++ d.ce.map (fun c => yl (qs c)))
def qA (N : List Nd) (V : List Dv) (d : Dc) : ByteArray × Int := if docE N V d ≠ 0 then (⟨#[]⟩, docE N V d) else (strL (jY (qO N V d)), 0)
def Dc.zer : Dc := ⟨0, 0, 0, 0, [], 0, [], ⟨#[]⟩, ⟨#[]⟩, 0, 0, []⟩
def numT (w : List UInt8) : Option Int := numP w 16777216
/-- The words at the open places of a pattern, where the others agree. -/
def valR : List (List UInt8) → List (List UInt8) → List (List UInt8) → Option (List (List UInt8))
  | [], _, A => some A
  | _ :: _, [], _ => none
  | p :: P, w :: W, A => if p = [] then valR P W (A ++ [w]) else if p = w then valR P W A else none
def okI (i : Int) (e : Int) : Int := if i < 1 then 2 else e
def okN (q : Option Int) (e : Int) : Int := if q.isSome then e else 2
/-- The document of nine words, and its error. -/
def valD (A : List (List UInt8)) : Dc := ⟨(numT (wAt A 1)).getD 0, idxL (wAt A 0) 0 yx, idxL (wAt A 2) 0 yn, (numT (wAt A 3)).getD 0, [], (numT (wAt A 4)).getD 0, [], strL (wAt A 5), strL (wAt A 6), (numT (wAt A 7)).getD 0, (numT (wAt A 8)).getD 0, []⟩
def valE (A : List (List UInt8)) : Int := okN (numT (wAt A 8)) (okN (numT (wAt A 7)) (okN (numT (wAt A 4)) (okN (numT (wAt A 3)) (okI (idxL (wAt A 2) 0 yn) (okN (numT (wAt A 1)) (okI (idxL (wAt A 0) 0 yx) 0))))))
def eY (d : Dc) (W : List (List UInt8)) : Dc × Int := if W.length ≠ 16 then (d, 2) else match valR yS W [] with
  | none => (d, 2)
  | some A => (valD A, valE A)
def zGo (N : List Nd) : List (List UInt8) → List Int → List Int × Int
  | [], Z => (Z, 0)
  | w :: l, Z => if nodI w 0 N < 0 then (Z, 7) else zGo N l (Z ++ [nodI w 0 N])
def gY (N : List Nd) (Z : List Int) (W : List (List UInt8)) : List Int × Int := if wAt W 0 ≠ qW then (Z, 2) else zGo N (W.drop 1) Z
def rF (i : Int) (q : Option Int) (v : Int) : Int := if okN q (okI i 0) = 0 ∧ v < 0 then 8 else okN q (okI i 0)
def jU (V : List Dv) (K : List Lk) (C : List Int) (W : List (List UInt8)) : List Lk × Int :=
  if W.length ≠ 5 ∨ wAt W 3 ≠ keyL ∨ C ≠ [] then (K, 2) else (K ++ [⟨devI (wAt W 1) 0 V, idxL (wAt W 2) 0 posL, (numT (wAt W 4)).getD 0⟩], rF (idxL (wAt W 2) 0 posL) (numT (wAt W 4)) (devI (wAt W 1) 0 V))
def cE (C : List Int) (W : List (List UInt8)) : List Int × Int := if W.length ≠ 2 then (C, 2) else (C ++ [(numT (wAt W 1)).getD 0], okN (numT (wAt W 1)) 0)
/-- One more line of locks or certificates. -/
def jN (V : List Dv) (K : List Lk) (C : List Int) (W : List (List UInt8)) : List Lk × List Int × Int :=
  if W.length = 0 then (K, C, 2) else if wAt W 0 = bC then ((jU V K C W).1, C, (jU V K C W).2) else if wAt W 0 = bI then (K, (cE C W).1, (cE C W).2) else (K, C, 2)
/-- The locks and certificates of lines from a number on. -/
def bR (V : List Dv) : Nat → List Lk → List Int → List (List UInt8) → Except (Int × Int) (List Lk × List Int)
  | _, K, C, [] => .ok (K, C)
  | i, K, C, l :: ls => if (jN V K C (yP l)).2.2 ≠ 0 then .error ((i : Int) + 1, (jN V K C (yP l)).2.2) else bR V (i + 1) (jN V K C (yP l)).1 (jN V K C (yP l)).2.1 ls
def jI (W : List (List UInt8)) : Dc × Int := if W.length = 0 then (Dc.zer, 2) else eY Dc.zer W
def qD (N : List Nd) (W : List (List UInt8)) : List Int × Int := if W.length = 0 then ([], 2) else gY N [] W
def goD (N : List Nd) (V : List Dv) : List (List UInt8) → Except (Int × Int) Dc
  | [] => .error (1, 2)
  | a :: l => if (jI (yP a)).2 ≠ 0 then .error (1, (jI (yP a)).2) else match l with
    | [] => .error (2, 2)
    | b :: ls => if (qD N (yP b)).2 ≠ 0 then .error (2, (qD N (yP b)).2) else match bR V 2 [] [] ls with
      | .error e => .error e
      | .ok (K, C) => .ok { (jI (yP a)).1 with zone := (qD N (yP b)).1, lk := K, ce := C }
def endD (N : List Nd) (V : List Dv) : Except (Int × Int) Dc → Dc × Int × Int
  | .error (i, e) => (Dc.zer, i, e)
  | .ok d => if docE N V d ≠ 0 then (Dc.zer, 0, docE N V d) else (d, 0, 0)
def jf (N : List Nd) (V : List Dv) (s : List UInt8) : Dc × Int × Int :=
  if netE N V ≠ 0 then (Dc.zer, 0, netE N V) else match qC s with
  | none => (Dc.zer, 0, 2)
  | some L => endD N V (goD N V L)
theorem cU {n : Int} (h1 : 0 ≤ n) (h2 : n ≤ 16777216) : WdOk (Lib.itoa n) := ⟨sQ n, tE n, oI n, qY (by omega) (by omega)⟩
theorem tB {k : Int} (h : 1 ≤ k ∧ k ≤ 3) : WdOk (wAt yx k.toNat) ∧ idxL (wAt yx k.toNat) 0 yx = k := by
  rcases (by omega : k = 1 ∨ k = 2 ∨ k = 3) with e | e | e <;> subst e <;> exact ⟨by decide, by decide⟩
theorem oQ {k : Int} (h : 1 ≤ k ∧ k ≤ 5) : WdOk (wAt yn k.toNat) ∧ idxL (wAt yn k.toNat) 0 yn = k := by
  rcases (by omega : k = 1 ∨ k = 2 ∨ k = 3 ∨ k = 4 ∨ k = 5) with e | e | e | e | e <;> subst e <;> exact ⟨by decide, by decide⟩
theorem pos_at {k : Int} (h : k = 1 ∨ k = 2) : WdOk (wAt posL k.toNat) ∧ idxL (wAt posL k.toNat) 0 posL = k := by
  rcases h with e | e <;> subst e <;> exact ⟨by decide, by decide⟩
theorem nS {f u : Int} (h : gT f u = true) : 0 ≤ f ∧ f < u ∧ u ≤ 16777216 := by
  unfold gT at h
  simp only [Bool.and_eq_true, decide_eq_true_eq] at h
  omega
section
variable {N : List Nd} {V : List Dv} {d : Dc}
theorem nD (h : DcOk N V d) : ∀ w ∈ aH d, WdOk w := by
  have hk := h.kind
  have hs := nS h.span
  unfold aH
  simp only [List.mem_cons, List.not_mem_nil, or_false]
  rintro w (rfl | rfl | rfl | rfl | rfl | rfl | rfl | rfl | rfl | rfl | rfl | rfl | rfl | rfl | rfl | rfl)
  · exact (tB h.kind).1
  · exact cU (by have := h.num; omega) (by have := h.num; omega)
  · decide
  · exact (oQ h.st).1
  · decide
  · exact cU (by have := h.rd; omega) (by have := h.rd; omega)
  · decide
  · exact cU (by have := h.safe; omega) (by have := h.safe; omega)
  · decide
  · exact iF h.iss
  · decide
  · exact iF h.hol
  · decide
  · exact cU (by omega) (by omega)
  · decide
  · exact cU (by omega) (by omega)
theorem tC (h : DcOk N V d) : ∀ w ∈ qv N d, WdOk w := by
  intro w hw
  unfold qv at hw
  rcases List.mem_cons.1 hw with rfl | hw
  · decide
  · obtain ⟨z, hz, rfl⟩ := List.mem_map.1 hw
    obtain ⟨x, hx, e⟩ := oD ((fL h.zone).2.1 z hz)
    rw [e]
    exact iF ((lV h.net).1 x (List.mem_of_getElem? hx))
theorem mV (h : DcOk N V d) {k : Lk} (hk : k ∈ d.lk) : ∀ w ∈ jw V k, WdOk w := by
  obtain ⟨h1, h2, h3, h4⟩ := (kJ h.lk).2 k hk
  unfold jw
  simp only [List.mem_cons, List.not_mem_nil, or_false]
  rintro w (rfl | rfl | rfl | rfl | rfl)
  · decide
  · obtain ⟨x, hx, e⟩ := nK h1
    rw [e]
    exact iF ((lQ h.net).1 x (List.mem_of_getElem? hx))
  · exact (pos_at h2).1
  · decide
  · exact sU h3 h4
theorem sR (h : DcOk N V d) {c : Int} (hc : c ∈ d.ce) : ∀ w ∈ qs c, WdOk w := by
  have h1 := (iK h.ce).2 c hc
  unfold qs
  simp only [List.mem_cons, List.not_mem_nil, or_false]
  rintro w (rfl | rfl)
  · decide
  · exact sU (by omega) (by omega)
theorem wJ (P W : List (List UInt8)) (w : List UInt8) (A : List (List UInt8)) : valR ([] :: P) (w :: W) A = valR P W (A ++ [w]) := by rw [valR, if_pos rfl]
theorem valR_eq {p : List UInt8} (h : p ≠ []) (P W : List (List UInt8)) (A : List (List UInt8)) : valR (p :: P) (p :: W) A = valR P W A := by rw [valR, if_neg h, if_pos rfl]
theorem gW (i : Nat) (K : List Lk) (C : List Int) (l : List UInt8) (ls : List (List UInt8)) : bR V i K C (l :: ls) = if (jN V K C (yP l)).2.2 ≠ 0 then .error ((i : Int) + 1, (jN V K C (yP l)).2.2) else bR V (i + 1) (jN V K C (yP l)).1 (jN V K C (yP l)).2.1 ls := rfl
theorem dI (A B : List (List UInt8)) : jY (A ++ B) = jY A ++ jY B := by unfold jY; rw [List.flatMap_append]
theorem lU (h : DcOk N V d) : (jY (qO N V d)).length ≤ 16000 := by
  have e : qO N V d = [yl (aH d), yl (qv N d)] ++ (d.lk.map (fun k => yl (jw V k)) ++ d.ce.map (fun c => yl (qs c))) := rfl
  have hn : N.length ≤ 32 := by
    have := h.net
    unfold netE at this
    split at this
    · cases this
    · omega
  have l1 := (qk (nD h)).2
  have l2 := (qk (tC h)).2
  have c1 : (aH d).length = 16 := rfl
  have c2 : (qv N d).length ≤ 33 := by have := (fL h.zone).2.2; unfold qv; simp; omega
  have t1 := iJ (L := [yl (aH d), yl (qv N d)]) (b := 693) (fun l hl => by
    simp only [List.mem_cons, List.not_mem_nil, or_false] at hl
    rcases hl with rfl | rfl <;> omega)
  have t2 := iJ (L := d.lk.map (fun k => yl (jw V k))) (b := 105) (fun l hl => by
    obtain ⟨k, hk, rfl⟩ := List.mem_map.1 hl
    have := (qk (mV h hk)).2
    have e : (jw V k).length = 5 := rfl
    omega)
  have t3 := iJ (L := d.ce.map (fun c => yl (qs c))) (b := 42) (fun l hl => by
    obtain ⟨k, hk, rfl⟩ := List.mem_map.1 hl
    have := (qk (sR h hk)).2
    have e : (qs k).length = 2 := rfl
    omega)
  have h1 := (kJ h.lk).1
  have h2 := (iK h.ce).1
  rw [List.length_map] at t2 t3
  have e3 : ([yl (aH d), yl (qv N d)] : List (List UInt8)).length = 2 := rfl
  rw [e3] at t1
  rw [e, dI, dI, List.length_append, List.length_append]
  omega
end
end Go.Proofs.YtjamibeffalhaaaGreatDoor
namespace Go.Proofs.YtjamibeffalhaaaGreatDoor
open Go Go.RowKit
/-- The second text is the first one with some of its spaces doubled. -/
inductive Wide : List UInt8 → List UInt8 → Prop
  | nil : Wide [] []
  | same (c : UInt8) {a b : List UInt8} : Wide a b → Wide (c :: a) (c :: b)
  | more {a b : List UInt8} : Wide a b → Wide (32 :: a) (32 :: 32 :: b)
theorem Wide.refl : ∀ a : List UInt8, Wide a a
  | [] => .nil
  | c :: a => .same c (Wide.refl a)
theorem Wide.len {a b : List UInt8} (h : Wide a b) : b.length ≤ 2 * a.length := by
  induction h with
  | nil => simp
  | same c _ ih => simp; omega
  | more _ ih => simp; omega
theorem Wide.mem {a b : List UInt8} (h : Wide a b) : ∀ c ∈ b, c ∈ a ∨ c = 32 := by
  induction h with
  | nil => intro c hc; cases hc
  | same x _ ih =>
    intro c hc
    rcases List.mem_cons.1 hc with rfl | hc
    · simp
    · rcases ih c hc with e | e <;> simp [e]
  | more _ ih =>
    intro c hc
    simp only [List.mem_cons] at hc
    rcases hc with rfl | rfl | hc
    · simp
    · simp
    · rcases ih c hc with e | e <;> simp [e]
inductive WideL : List (List UInt8) → List (List UInt8) → Prop
  | nil : WideL [] []
  | cons {a b : List UInt8} {A B : List (List UInt8)} : Wide a b → WideL A B → WideL (a :: A) (b :: B)
theorem WideL.ok {L M : List (List UInt8)} (h : WideL L M) (hl : ∀ l ∈ L, ∀ c ∈ l, okC c) : ∀ l ∈ M, ∀ c ∈ l, okC c := by
  induction h with
  | nil => intro l h; cases h
  | cons h1 h2 ih =>
    intro l hm c hc
    rcases List.mem_cons.1 hm with rfl | hm
    · rcases h1.mem c hc with e | e
      · exact hl _ (by simp) c e
      · rw [e]; decide
    · exact ih (fun x hx => hl x (by simp [hx])) l hm c hc
variable {N : List Nd} {V : List Dv} {d : Dc}
end Go.Proofs.YtjamibeffalhaaaGreatDoor
