/- Locks, by plain functions: which lists are valid, and which devices they hold; nothing of the program stands here. -/
import Derived.Test.YtaoegbmgombhdaaDoorPtP
set_option linter.unusedVariables false
set_option linter.unusedSimpArgs false
namespace Go.Proofs.YtaoegbmgombhdaaDoor
open Go Go.RowKit
def kindAt (V : List Dv) (d : Int) : Int := match V[d.toNat]? with
  | some x => x.k
  | none => 0
def faultE (V : List Dv) (k : Lk) : Int := if k.d < 0 ∨ (V.length : Int) ≤ k.d then 8 else if kindAt V k.d = 5 then 6 else if k.p ≠ 1 ∧ k.p ≠ 2 then 10 else if k.k < 0 ∨ 65536 < k.k then 5 else 0
def befB (a b : Lk) : Bool := decide (a.d < b.d) || (decide (a.d = b.d) && decide (a.k < b.k))
def prevB (P : List Lk) (k : Lk) : Bool := match P.getLast? with
  | some q => befB q k
  | none => true
def otherB (P : List Lk) (k : Lk) : Bool := P.any fun x => decide (x.d = k.d) && !decide (x.p = k.p)
def keyB (P : List Lk) (k : Int) : Bool := P.any fun x => decide (x.k = k)
def lkE (V : List Dv) (P : List Lk) (k : Lk) : Int := if faultE V k ≠ 0 then faultE V k else if prevB P k = false then 14 else if otherB P k = true then 18 else if keyB P k.k = true then 4 else 0
def lkGo (V : List Dv) : List Lk → List Lk → Int
  | _, [] => 0
  | P, k :: l => if lkE V P k ≠ 0 then lkE V P k else lkGo V (P ++ [k]) l
def lksE (N : List Nd) (V : List Dv) (L : List Lk) : Int := if netE N V ≠ 0 then netE N V else if 128 < L.length then 1 else lkGo V [] L
def lockedP (L : List Lk) (d : Int) : Int × Bool := match L.find? fun x => decide (x.d = d) with
  | some x => (x.p, true)
  | none => (0, false)
def gapB (k : Int) : Bool := decide (k = 1) || decide (k = 3) || decide (k = 6)
def holdsB (L : List Lk) (pos : Int) (earths : Bool) (i : Nat) (x : Dv) : Bool := (lockedP L i).2 && decide ((lockedP L i).1 = pos) && (if earths then decide (x.k = 4) else gapB x.k)
def someGo (L : List Lk) (pos : Int) (earths : Bool) : Nat → List Dv → List Int
  | _, [] => []
  | i, x :: l => if holdsB L pos earths i x = true then (i : Int) :: someGo L pos earths (i + 1) l else someGo L pos earths (i + 1) l
def someP (V : List Dv) (L : List Lk) (pos : Int) (earths : Bool) : List Int := someGo L pos earths 0 V
def earthsP (N : List Nd) (V : List Dv) (L : List Lk) : List Int × Int := if lksE N V L ≠ 0 then ([], lksE N V L) else (someP V L 2 true, 0)
theorem take_last {L : List Lk} {i : Nat} (hi : 0 < i) {q : Lk} (h : L[i - 1]? = some q) : (L.take i).getLast? = some q := by
  have := lt_at h
  rw [List.getLast?_eq_getElem?, List.length_take, List.getElem?_take, show min i L.length - 1 = i - 1 by omega, if_pos (by omega), h]
theorem lkGo_at {V : List Dv} {L : List Lk} {i : Nat} {k : Lk} (h : L[i]? = some k) : lkGo V (L.take i) (L.drop i) = if lkE V (L.take i) k ≠ 0 then lkE V (L.take i) k else lkGo V (L.take (i + 1)) (L.drop (i + 1)) := by
  rw [drop_at h, take_at h]; rfl
theorem otherB_next {L : List Lk} {j : Nat} {x k : Lk} (h : L[j]? = some x) : otherB (L.take (j + 1)) k = (otherB (L.take j) k || (decide (x.d = k.d) && !decide (x.p = k.p))) := by
  rw [take_at h]; unfold otherB; rw [List.any_append]; simp
theorem keyB_next {L : List Lk} {j : Nat} {x : Lk} {k : Int} (h : L[j]? = some x) : keyB (L.take (j + 1)) k = (keyB (L.take j) k || decide (x.k = k)) := by
  rw [take_at h]; unfold keyB; rw [List.any_append]; simp
theorem otherB_mem {L : List Lk} {i j : Nat} {x k : Lk} (h : L[j]? = some x) (hj : j < i) (h1 : x.d = k.d) (h2 : ¬ x.p = k.p) : otherB (L.take i) k = true := by
  unfold otherB
  rw [List.any_eq_true]
  exact ⟨x, List.mem_of_getElem? (show (L.take i)[j]? = some x by rw [List.getElem?_take, if_pos hj]; exact h), by simp [h1, h2]⟩
theorem keyB_mem {L : List Lk} {i j : Nat} {x : Lk} {k : Int} (h : L[j]? = some x) (hj : j < i) (h1 : x.k = k) : keyB (L.take i) k = true := by
  unfold keyB
  rw [List.any_eq_true]
  exact ⟨x, List.mem_of_getElem? (show (L.take i)[j]? = some x by rw [List.getElem?_take, if_pos hj]; exact h), by simp [h1]⟩
theorem lkE_f {V : List Dv} {P : List Lk} {k : Lk} (h : faultE V k ≠ 0) : lkE V P k = faultE V k := by unfold lkE; rw [if_pos h]
theorem lkE_14 {V : List Dv} {P : List Lk} {k : Lk} (h : faultE V k = 0) (h1 : prevB P k = false) : lkE V P k = 14 := by unfold lkE; rw [if_neg (by omega), if_pos h1]
theorem lkE_18 {V : List Dv} {P : List Lk} {k : Lk} (h : faultE V k = 0) (h1 : prevB P k = true) (h2 : otherB P k = true) : lkE V P k = 18 := by unfold lkE; rw [if_neg (by omega), if_neg (by rw [h1]; decide), if_pos h2]
theorem lkE_4 {V : List Dv} {P : List Lk} {k : Lk} (h : faultE V k = 0) (h1 : prevB P k = true) (h2 : otherB P k = false) (h3 : keyB P k.k = true) : lkE V P k = 4 := by unfold lkE; rw [if_neg (by omega), if_neg (by rw [h1]; decide), if_neg (by rw [h2]; decide), if_pos h3]
theorem lkE_0 {V : List Dv} {P : List Lk} {k : Lk} (h : faultE V k = 0) (h1 : prevB P k = true) (h2 : otherB P k = false) (h3 : keyB P k.k = false) : lkE V P k = 0 := by unfold lkE; rw [if_neg (by omega), if_neg (by rw [h1]; decide), if_neg (by rw [h2]; decide), if_neg (by rw [h3]; decide)]
end Go.Proofs.YtaoegbmgombhdaaDoor
