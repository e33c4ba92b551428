/- Networks, by plain functions: what network.Check says; nothing of the program stands here. -/
import Derived.Test.YtggngllfnboehaaGreatDoorLexP
set_option linter.unusedVariables false
set_option linter.unusedSimpArgs false
namespace Go.Proofs.YtggngllfnboehaaGreatDoor
open Go Go.RowKit
structure Nd where
  n : ByteArray
  cu : Int
  co : Int
  deriving DecidableEq
structure Dv where
  n : ByteArray
  k : Int
  a : Int
  b : Int
  co : Int
  deriving DecidableEq
def qA (n : Int) : Bool := decide (0 ≤ n) && decide (n ≤ 7)
def qo (k : Int) : Bool := decide (1 ≤ k) && decide (k ≤ 3)
def qK (d : Dv) (m : Int) : Bool := if d.a < 0 ∨ m ≤ d.a then false else if qo d.k = false then decide (d.b = -1) else decide (0 ≤ d.b) && decide (d.b < m) && decide (d.b ≠ d.a)
def jg (U : List ByteArray) (s : ByteArray) : Bool := U.any fun u => decide (s = u)
/-- The nodes: the first error, or 0; the names that were used stand in U. -/
def ndGo (U : List ByteArray) : List Nd → Int
  | [] => 0
  | x :: l => if je x.n.data.toList = false then 3 else if jg U x.n = true then 4 else if x.cu < 0 ∨ 1048576 < x.cu ∨ qA x.co = false then 5 else ndGo (U ++ [x.n]) l
def dvGo (m : Int) (U : List ByteArray) : List Dv → Int
  | [] => 0
  | d :: l => if je d.n.data.toList = false then 3 else if jg U d.n = true then 4 else if d.k < 1 ∨ 6 < d.k then 6 else if qK d m = false then 7 else if qA d.co = false then 5 else dvGo m (U ++ [d.n]) l
def netE (N : List Nd) (V : List Dv) : Int :=
  if 32 < N.length ∨ 64 < V.length then 1 else if ndGo [] N ≠ 0 then ndGo [] N else dvGo N.length (N.map Nd.n) V
/-- The used names as a map's entries. -/
def usedL (U : List ByteArray) : List (Value × Value) := U.map fun n => (.string n, .bool true)
end Go.Proofs.YtggngllfnboehaaGreatDoor
