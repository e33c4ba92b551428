/- Portable earths, by plain functions: where they are, what applying, removing and locking return; nothing of the program stands here. -/
import Derived.Test.YtaoegbmgombhdaaDoorKyC
import Derived.Test.YtaoegbmgombhdaaDoorNetP
set_option linter.unusedVariables false
set_option linter.unusedSimpArgs false
namespace Go.Proofs.YtaoegbmgombhdaaDoor
open Go Go.RowKit
structure Lk where
  d : Int
  p : Int
  k : Int
  deriving DecidableEq
def lk0 : Lk := ⟨0, 0, 0⟩
def earthE (V : List Dv) (d : Int) : Int := if d < 0 ∨ (V.length : Int) ≤ d then 8 else match V[d.toNat]? with
  | some x => if x.k ≠ 4 then 6 else 0
  | none => 8
def lockP (N : List Nd) (V : List Dv) (n d : Int) : Lk × Int :=
  if netE N V ≠ 0 then (lk0, netE N V) else if earthE V d ≠ 0 then (lk0, earthE V d) else if n < 0 ∨ 65536 < n then (lk0, 5) else (⟨d, 2, n⟩, 0)
def startP (N : List Nd) (V : List Dv) (L : List Rw) (d : Int) : Int := if netE N V ≠ 0 then netE N V else if chk L ≠ 0 then chk L else earthE V d
def mark1 (M : List Bool) (r : Rw) : List Bool := if r.h.k = 4 then M.set r.h.i.toNat true else M
def mark0 : List Bool := List.replicate 64 false
def markL (L : List Rw) : List Bool := L.foldl mark1 mark0
theorem mark1_len (M : List Bool) (r : Rw) : (mark1 M r).length = M.length := by unfold mark1; split <;> simp
theorem fold_len : ∀ (L : List Rw) (M : List Bool), (L.foldl mark1 M).length = M.length
  | [], _ => rfl
  | r :: L, M => (fold_len L (mark1 M r)).trans (mark1_len M r)
theorem markL_len (L : List Rw) : (markL L).length = 64 := fold_len L mark0
def persH (n : ByteArray) : Hol := ⟨2, 0, n⟩
def devH (i : Int) : Hol := ⟨4, i, emptyS⟩
def applyP (N : List Nd) (V : List Dv) (L : List Rw) (n : Int) (s : ByteArray) (d : Int) : List Rw × Int :=
  if startP N V L d ≠ 0 then ([], startP N V L d) else if (markL L)[d.toNat]? = some true then ([], 4) else giveP L n (persH s) (devH d)
def removeP (N : List Nd) (V : List Dv) (L : List Rw) (n : Int) (s : ByteArray) (d : Int) : List Rw × Int :=
  if startP N V L d ≠ 0 then ([], startP N V L d) else giveP L n (devH d) (persH s)
def placeP (L : List Rw) (n : Int) : Int × Bool := if (findP L n).2 = false ∨ (findP L n).1.k ≠ 4 then (0, false) else ((findP L n).1.i, true)
theorem earthE_rng {V : List Dv} {d : Int} (h : earthE V d = 0) : 0 ≤ d ∧ d < V.length := by
  unfold earthE at h
  split at h
  · cases h
  · omega
theorem netE_len {N : List Nd} {V : List Dv} (h : netE N V = 0) : N.length ≤ 32 ∧ V.length ≤ 64 := by
  unfold netE at h
  split at h
  · cases h
  · omega
end Go.Proofs.YtaoegbmgombhdaaDoor
