/- Closed facts that the cards of this seat share, and from a row's condition on the listed tables to what the walks ask: the tables of classes and of powers; conditions: none / A slice of numbers of any kind that came in, as an immutable slice of the abstract machine; nothing of the program stands here / Networks, by plain functions: what network.Check says; nothing of the program stands here. -/
import Derived.Test.YtamihjgfncjdoaaDoorCards
import Derived.Test.YtamihjgfncjdoaaDoorTie
import Derived.Test.YtamihjgfncjdoaaDoorRows
import Derived.Test.YtamihjgfncjdoaaDoorTxA
import Derived.Test.YtamihjgfncjdoaaDoorFin
import Derived.Test.YtamihjgfncjdoaaDoorFinA
import Derived.ProofKit
import Derived.LaidMore
import Derived.OpenShut
import Derived.Stop.Joined
import Derived.Stop.LaidErr
import Derived.Deep.Strs
import Derived.Lib.LaidTab
import Derived.MakeChecks
import Derived.SevenTiedAt
import Derived.Test.YtamihjgfncjdoaaDoorLexP
set_option linter.unusedVariables false
set_option linter.unusedSimpArgs false
namespace Go.Proofs.YtamihjgfncjdoaaDoor
open Go Go.ChangeShapes Go.WideShapes Go.ChangeAt Go.RowKit
theorem ownD : ownKnob Tryd.prog.godebug = none := by kernel_rfl
theorem laidOutD : laidOutB Tryd.prog = true := by kernel_rfl
theorem cellsIntD : Tryd.prog.cellsOf 3 = 1 := by kernel_rfl
def Pow (w : World) : Prop := ∃ t fr, w.heap[1]? = some (.cells ⟨powL⟩ t fr)
theorem pow_of_tab {W : World} (h : Lib.TabIs Tryd.prog W "internal/strconv.uint64pow10" .u64 Lib.pow10Tab) : Pow W := by
  unfold Lib.TabIs World.var? at h
  rw [gPowN] at h
  simp only [Option.bind_some] at h
  split at h
  · rename_i c t fr hh
    injection h with h
    refine ⟨t, fr, ?_⟩
    rw [hh, h]
    rfl
  · cases h
theorem pow_of_head {rest : List (String × DataW Unit)} {W : World} (h : laidMet Tryd.prog (("internal/strconv.uint64pow10", Rows.laid_internal_strconv_uint64pow10) :: rest) W) : Pow W :=
  pow_of_tab (Lib.tabIs_of_head (t := 136) (e := 57) (n := 20) gPowN (by kernel_rfl) Tryd.underlying136 Tryd.underlying57 (by kernel_rfl) (by kernel_rfl) h)
def GOf2 : Nat → Option (List Value) := fun g => if g = 0 then some clsL else if g = 1 then some powL else none
theorem GOf2_cls : GCls GOf2 := rfl
theorem GOf2_pow : GPow GOf2 := rfl
theorem GOf2_at {W : World} (hc : Cls W) (hp : Pow W) : ∀ g us, GOf2 g = some us → ∃ t fr, W.heap[g]? = some (.cells ⟨us⟩ t fr) := fun g us e => by
  unfold GOf2 at e
  split at e
  · rename_i hg
    injection e with e
    subst hg; subst e
    exact hc
  · split at e
    · rename_i hg
      injection e with e
      subst hg; subst e
      exact hp
    · cases e
end Go.Proofs.YtamihjgfncjdoaaDoor
namespace Go.Proofs.YtamihjgfncjdoaaDoor
open Go Go.ChangeShapes Go.WideShapes Go.ChangeAt Go.RowKit
section
variable {H : Type} {enc : TypeId × Value → H} {P : Program}
theorem open_slk {t e : TypeId} {k : IntKind} {W : World} {v : Value} {d : DataW H} {p : List MemPlace} {base : Nat} {ρ : Nat → Nat → Option Value} (ht : P.underlying t = some (.slice e)) (he : P.underlying e = some (.int k)) (hc : P.cellsOf e = 1)
    (hv : Value.okWide P W .any base t v) (h : DataW.Trod enc P W 0 (fun _ => true) true t v d p) : ∃ l : List Int, Rep (memM W) ρ (.sl 1 (l.map fun n => .v (.int k n))) v ∧ ∀ n ∈ l, (Lit.int k n).wf = true := by
  obtain ⟨a0, len, cap, rfl⟩ := okWide_slice ht hv
  obtain ⟨fuel, hf⟩ := h
  rcases open_ints ht he hc hf with ⟨hcs, hx⟩ | ⟨a, len', cap', zs, hcs, _, hl, hm, hz, hx, hcell, hwz⟩
  · simp [Value.cells] at hcs
    obtain ⟨rfl, rfl, rfl⟩ := hcs
    exact ⟨[], rd_sl (f := fun n : Int => [.int k n]) (fun _ => rfl) (fun _ => rfl) (by decide) (Rd.nil W (· < W.heap.size) none 1 _) (by simp) (by simp), by simp⟩
  · simp [Value.cells] at hcs
    obtain ⟨rfl, rfl, rfl⟩ := hcs
    simp only [if_true] at hz
    have hlen : (zs.take len).length = len := by rw [List.length_take, Nat.min_eq_left (by omega)]
    refine ⟨zs.take len, ?_, fun n hn => hwz n (List.mem_of_mem_take hn)⟩
    have key := rd_sl (ρ := ρ) (c := cap) (f := fun n : Int => [.int k n]) (av := fun n : Int => .v (.int k n)) (W := W) (S := (· < W.heap.size)) (A := some a) (sz := 1) (L := zs.take len) (fun _ => rfl) (fun _ => rfl) (by decide) (fun hl0 => by
      obtain ⟨b, o, rfl, hc'⟩ := Go.ints_at hcell (by rw [List.length_take] at hl0; omega)
      have hlt : b < W.heap.size := World.block_lt_of_cell? W ⟨b, o + 0, none⟩ (hc' 0 (by rw [List.length_take] at hl0; omega))
      refine ⟨b, o, rfl, hlt, fun k j x u hx hu => ?_⟩
      have hk := lt_at hx
      rw [List.length_take] at hk
      obtain rfl : j = 0 := by
        cases j with
        | zero => rfl
        | succ j => simp at hu
      simp at hu
      subst hu
      have h1 := hc' k (by omega)
      rw [Nat.mul_one, Nat.add_zero]
      rw [h1]
      rw [List.getElem?_take_of_lt (by omega)] at hx
      rw [List.getD_eq_getElem?_getD, hx]
      rfl) (by omega) hm
    rw [hlen] at key
    exact key
end
theorem bounds_u16 {n : Int} (h : (Lit.int .u16 n).wf = true) : 0 ≤ n ∧ n ≤ 65535 := by
  simp [Lit.wf, IntKind.min, IntKind.max, IntKind.signed, IntKind.bits] at h
  omega
end Go.Proofs.YtamihjgfncjdoaaDoor
namespace Go.Proofs.YtamihjgfncjdoaaDoor
open Go Go.RowKit
structure Nd where
  n : ByteArray
  cu : Int
  co : Int
  deriving DecidableEq
structure Dv where
  n : ByteArray
  k : Int
  a : Int
  b : Int
  co : Int
  deriving DecidableEq
def compB (n : Int) : Bool := decide (0 ≤ n) && decide (n ≤ 7)
def joinsB (k : Int) : Bool := decide (1 ≤ k) && decide (k ≤ 3)
def endsB (d : Dv) (m : Int) : Bool := if d.a < 0 ∨ m ≤ d.a then false else if joinsB d.k = false then decide (d.b = -1) else decide (0 ≤ d.b) && decide (d.b < m) && decide (d.b ≠ d.a)
def usedB (U : List ByteArray) (s : ByteArray) : Bool := U.any fun u => decide (s = u)
/-- The nodes: the first error, or 0; the names that were used stand in U. -/
def ndGo (U : List ByteArray) : List Nd → Int
  | [] => 0
  | x :: l => if nameB x.n.data.toList = false then 3 else if usedB U x.n = true then 4 else if x.cu < 0 ∨ 1048576 < x.cu ∨ compB x.co = false then 5 else ndGo (U ++ [x.n]) l
def dvGo (m : Int) (U : List ByteArray) : List Dv → Int
  | [] => 0
  | d :: l => if nameB d.n.data.toList = false then 3 else if usedB U d.n = true then 4 else if d.k < 1 ∨ 6 < d.k then 6 else if endsB d m = false then 7 else if compB d.co = false then 5 else dvGo m (U ++ [d.n]) l
def netE (N : List Nd) (V : List Dv) : Int :=
  if 32 < N.length ∨ 64 < V.length then 1 else if ndGo [] N ≠ 0 then ndGo [] N else dvGo N.length (N.map Nd.n) V
/-- The used names as a map's entries. -/
def usedL (U : List ByteArray) : List (Value × Value) := U.map fun n => (.string n, .bool true)
end Go.Proofs.YtamihjgfncjdoaaDoor
