/- From a contract of the abstract machine to a law's row: the memory that stands, slices that came in, and the call's outcome; nothing of the program stands here / Closed facts that the cards of this seat share, and from a row's condition on the listed tables to what the walks ask: the tables of classes and of powers, and a cell of the library; conditions: none / How a slice of structs that came in reads as a list; nothing of the program stands here / Arguments of any shape (numbers, strings, structs, slices, slices of structs that hold slices) as values of the abstract machine; nothing of the program stands here / A slice of numbers of any kind that came in, as an immutable slice of the abstract machine; nothing of the program stands here / Networks, by plain functions: what network.Check says; nothing of the program stands here. -/
import Derived.Test.YtamihjgfncjdoaaGreatDoorAbsP
import Derived.Test.YtamihjgfncjdoaaGreatDoorFin
import Derived.Test.YtamihjgfncjdoaaGreatDoorCards
import Derived.Test.YtamihjgfncjdoaaGreatDoorTie
import Derived.Test.YtamihjgfncjdoaaGreatDoorRows
import Derived.Test.YtamihjgfncjdoaaGreatDoorTxA
import Derived.Test.YtamihjgfncjdoaaGreatDoorLexP
import Derived.ProofKit
import Derived.LaidMore
import Derived.OpenShut
import Derived.Stop.Joined
import Derived.Stop.LaidErr
import Derived.Deep.Strs
import Derived.Lib.LaidTab
import Derived.MakeChecks
import Derived.SevenTiedAt
import Derived.Lay
import Derived.Handed
import Derived.Test.YtamihjgfncjdoaaGreatDoorLib
import Derived.Deep.Slices
set_option linter.unusedVariables false
set_option linter.unusedSimpArgs false
namespace Go.Proofs.YtamihjgfncjdoaaGreatDoor
open Go Go.ChangeShapes Go.WideShapes Go.ChangeAt Go.RowKit
def memM (W : World) : Nat → Option (Array Value) := fun g => match W.heap[g]? with
  | some (.cells arr _ _) => some arr
  | _ => none
theorem memM_of {W : World} {g : Nat} {arr : Array Value} {t : TypeId} {fr : Nat × Nat} (h : W.heap[g]? = some (.cells arr t fr)) : memM W g = some arr := by
  unfold memM; rw [h]
theorem memM_inv {W : World} {g : Nat} {arr : Array Value} (h : memM W g = some arr) : ∃ t fr, W.heap[g]? = some (.cells arr t fr) := by
  unfold memM at h
  split at h
  · rename_i a t fr e
    injection h with h; subst h
    exact ⟨t, fr, e⟩
  · cases h
theorem memM_cell {W : World} {b o : Nat} {u : Value} (h : W.cell? ⟨b, o, none⟩ = some u) : ∃ arr, memM W b = some arr ∧ arr[o]? = some u := by
  unfold World.cell? at h
  unfold memM
  split at h
  · rename_i c t fr e
    simp only at e
    rw [e]
    exact ⟨c, rfl, by simpa using h⟩
  · cases h
theorem acalls_row {P : Program} {G : Nat → Option (List Value)} {f : FuncId} {args : List AV} {u : Value} {vs : List Value} {W : World} (h : ACalls P G f args [] (.v u) []) (hG : ∀ g us, G g = some us → ∃ t fr, W.heap[g]? = some (.cells ⟨us⟩ t fr)) (hl : vs.length = args.length)
    (ha : ∀ (j : Nat) (x : AV) (v : Value), args[j]? = some x → vs[j]? = some v → Rep (memM W) (refρ []) x v) : Calls P f ⟨vs⟩ W (fun e W' => e = .returned u ∧ Below W.heap.size W W') := by
  refine (h.2 (memM W) W [] vs (fun g arr e => memM_inv e) (fun g us e => ?_) (by simp) ⟨rfl, by simp⟩ hl ha).mono fun e W' hp => ?_
  · obtain ⟨t, fr, hh⟩ := hG g us e
    exact memM_of hh
  · obtain ⟨v, M', gs', he, -, -, p1, p2, p3, p4, p5, -, -, -, -, hr⟩ := hp
    cases hr
    exact ⟨he, p1, p2, p3, p4, fun g hg => p5 g hg (by simp)⟩
theorem rd_sl {α : Type} {f : α → List Value} {av : α → AV} {W : World} {S : Nat → Prop} {A : Option Addr} {sz c : Nat} {L : List α} {ρ : Nat → Nat → Option Value} (hav : ∀ x, (av x).cells = (f x).map .v) (hsz : ∀ x, (f x).length = sz) (hpos : 0 < sz) (h : Rd W S A sz f L) (hc : L.length ≤ c) (hm : c ≤ maxLen) : Rep (memM W) ρ (.sl sz (L.map av)) (.slice A L.length c) := by
  have hu : ∀ (k : Nat) (x : AV), (L.map av)[k]? = some x → ∃ x0, L[k]? = some x0 ∧ x = av x0 := fun k x e => by
    rw [List.getElem?_map] at e
    cases hx : L[k]? with
    | none => rw [hx] at e; cases e
    | some x0 => rw [hx] at e; injection e with e; exact ⟨x0, rfl, e.symm⟩
  have key := Rep.sl (M := memM W) ρ sz (L.map av) A c (fun k j => ((L[k]?).bind fun x => (f x)[j]?).getD undef) (by simpa using hc) hm (fun k x j y hx hy => by
    obtain ⟨x0, h0, rfl⟩ := hu k x hx
    rw [hav, List.getElem?_map] at hy
    simp only [h0, Option.bind_some]
    cases hz : (f x0)[j]? with
    | none => rw [hz] at hy; cases hy
    | some u => rw [hz] at hy; injection hy with hy; subst hy; exact .v _ _) (fun k x hx => by
    obtain ⟨x0, h0, rfl⟩ := hu k x hx
    refine ⟨by rw [hav, List.length_map, hsz], ?_⟩
    obtain ⟨b, o, e, -, hcell⟩ := h (by have := lt_at h0; omega)
    have at_ : ∀ j, j < sz → ∃ arr, memM W b = some arr ∧ arr[o + k * sz + j]? = some (((L[k]?).bind fun x => (f x)[j]?).getD undef) := fun j hj => by
      obtain ⟨u, hu⟩ := some_at (L := f x0) (k := j) (by rw [hsz]; exact hj)
      obtain ⟨arr, a1, a2⟩ := memM_cell (hcell k j x0 u h0 hu)
      refine ⟨arr, a1, ?_⟩
      rw [a2, h0]
      simp [hu]
    obtain ⟨arr, a1, -⟩ := at_ 0 hpos
    refine ⟨b, o, arr, e, a1, fun j hj => ?_⟩
    obtain ⟨arr', b1, b2⟩ := at_ j hj
    rw [a1] at b1; injection b1 with b1; subst b1
    exact b2)
  rw [List.length_map] at key
  exact key
section
variable {H : Type} {enc : TypeId × Value → H} {P : Program}
/-- A list of integers that came in, as an immutable slice. -/
theorem open_sl {t e : TypeId} {W : World} {v : Value} {d : DataW H} {p : List MemPlace} {base : Nat} {ρ : Nat → Nat → Option Value} (ht : P.underlying t = some (.slice e)) (he : P.underlying e = some (.int .i64)) (hc : P.cellsOf e = 1)
    (hv : Value.okWide P W .any base t v) (h : DataW.Trod enc P W 0 (fun _ => true) true t v d p) : ∃ l : List Int, Rep (memM W) ρ (.sl 1 (l.map fun n => .v (.int .i64 n))) v ∧ ∀ n ∈ l, -9223372036854775808 ≤ n ∧ n ≤ 9223372036854775807 := by
  obtain ⟨A, c, l, hv', hn, hrd, hm, hb⟩ := open_il ht he hc hv h
  have hcap : l.length ≤ c ∧ c ≤ maxLen := by
    obtain ⟨fuel, hf⟩ := h
    rcases open_ints ht he hc hf with ⟨hcs, hx⟩ | ⟨a, len', cap', zs, hcs, _, hl, hm', hz, hx, hcell, hwz⟩
    · rw [hv'] at hcs
      simp [Value.cells] at hcs
      obtain ⟨rfl, rfl, rfl⟩ := hcs
      exact ⟨by simp, by simp⟩
    · rw [hv'] at hcs
      simp [Value.cells] at hcs
      obtain ⟨rfl, rfl, rfl⟩ := hcs
      exact ⟨hl, hm'⟩
  subst hv'
  exact ⟨l, rd_sl (fun _ => rfl) (fun _ => rfl) (by decide) hrd hcap.1 hcap.2, hb⟩
end
end Go.Proofs.YtamihjgfncjdoaaGreatDoor
namespace Go.Proofs.YtamihjgfncjdoaaGreatDoor
open Go Go.ChangeShapes Go.WideShapes Go.ChangeAt Go.RowKit
theorem ownD : ownKnob Tryz.prog.godebug = none := by kernel_rfl
theorem laidOutD : laidOutB Tryz.prog = true := by kernel_rfl
theorem cellsIntD : Tryz.prog.cellsOf 3 = 1 := by kernel_rfl
def Pow (w : World) : Prop := ∃ t fr, w.heap[2]? = some (.cells ⟨powL⟩ t fr)
theorem pow_of_tab {W : World} (h : Lib.TabIs Tryz.prog W "internal/strconv.uint64pow10" .u64 Lib.pow10Tab) : Pow W := by
  unfold Lib.TabIs World.var? at h
  rw [gPowN] at h
  simp only [Option.bind_some] at h
  split at h
  · rename_i c t fr hh
    injection h with h
    refine ⟨t, fr, ?_⟩
    rw [hh, h]
    rfl
  · cases h
theorem pow_of_head {rest : List (String × DataW Unit)} {W : World} (h : laidMet Tryz.prog (("internal/strconv.uint64pow10", Rows.laid_internal_strconv_uint64pow10) :: rest) W) : Pow W :=
  pow_of_tab (Lib.tabIs_of_head (t := 153) (e := 57) (n := 20) gPowN (by kernel_rfl) Tryz.underlying153 Tryz.underlying57 (by kernel_rfl) (by kernel_rfl) h)
def MaxAt (m : Int) (us : List Value) (W : World) : Prop := ∃ t fr, W.heap[1]? = some (.cells ⟨.int .i64 m :: us⟩ t fr)
theorem max_of_shape {W : World} (h : W.ShapedOpen Tryz.prog) : ∃ m us, MaxAt m us W := by
  obtain ⟨m, hm⟩ := Tryz.laysM146.s1_3 W h
  have hm : W.cell? ⟨1, 0, none⟩ = some (.int .i64 m) := hm
  unfold World.cell? at hm
  simp only at hm
  split at hm
  · rename_i c t fr hh
    obtain ⟨l⟩ := c
    match l, hm with
    | u :: us, hm =>
      have : u = .int .i64 m := by simpa using hm
      subst this
      exact ⟨m, us, t, fr, hh⟩
    | [], hm => simp at hm
  · cases hm
def GOfF (m : Int) (us : List Value) : Nat → Option (List Value) := fun g => if g = 0 then some clsL else if g = 2 then some powL else if g = 1 then some (.int .i64 m :: us) else none
theorem GOfF_cls {m : Int} {us : List Value} : GCls (GOfF m us) := rfl
theorem GOfF_pow {m : Int} {us : List Value} : GPow (GOfF m us) := rfl
theorem GOfF_max {m : Int} {us : List Value} : GMax (GOfF m us) := ⟨m, us, rfl⟩
theorem GOfF_at {m : Int} {us : List Value} {W : World} (hc : Cls W) (hp : Pow W) (hm : MaxAt m us W) : ∀ g vs, GOfF m us g = some vs → ∃ t fr, W.heap[g]? = some (.cells ⟨vs⟩ t fr) := fun g vs e => by
  unfold GOfF at e
  split at e
  · rename_i hg
    injection e with e
    subst hg; subst e
    exact hc
  · split at e
    · rename_i hg
      injection e with e
      subst hg; subst e
      exact hp
    · split at e
      · rename_i hg
        injection e with e
        subst hg; subst e
        exact hm
      · cases e
section
variable {H : Type} {enc : TypeId × Value → H}
theorem returns_and_shaped {a : Assume} {C : Checked} {os : Os} {f : FuncId} {fn : Func} {s : ChangeSpec} {conds : List PathCond} {apart fresh handsOn again : Bool} {X : World → Array Value → Prop}
    (hX : ∀ (w w' : World) (args : Array Value), w.heap = w'.heap → X w args → X w' args)
    (own : ownKnob C.prog.godebug = none) (started : os.Started) (noInit : C.prog.inits.idxOf? f = none) (hfn : C.prog.funcs[f]? = some fn)
    (witness : ∃ (w : World) (tape : Tape) (i : Input), w.os = os ∧ (w.forCall tape i).Shaped C.prog ∧ i.vars = [] ∧ Input.okWide C.prog (w.forCall tape i) .any w.heap.size f i ∧
      ((s.pre enc C.prog fn conds apart (w.forCall tape i).memory i.args ∧ X (w.forCall tape i).memory i.args) ∧ sizedMet enc C.prog fn (OpenSpec.ofChange s) apart (w.forCall tape i).memory i.args) ∧ a.holds C.prog (lone (Frame.enter C.prog f i.args .normal) [] (w.forCall tape i)))
    (contract : ∀ (W : World) (base : Nat) (args : Array Value) (ds gs : List (DataW H)) (before : List MemPlace),
      (∀ (j : Nat) t v, fn.params[j]? = some t → args[j]? = some v → Value.okWide C.prog W .any base t v) →
      DataW.Whole enc C.prog fn.params.toList s.vars apart W args.toList ds gs before →
      conds.all (PathCond.test C.prog ⟨fn.params.toList, ds, s.plain.varTypes C.prog, gs⟩) = true →
      (DataW.weightsEach C.prog (fn.params.toList ++ s.plain.varTypes C.prog) (ds ++ gs)).all (· ≤ reachBytes) = true → X W args → W.ShapedOpen C.prog →
      a.holds C.prog (lone (Frame.enter C.prog f args .normal) [] W) →
      Calls C.prog f args W fun e W' => ∃ v, e = .returned v ∧ s.post enc C.prog fn apart fresh handsOn again W args v W') :
    ReturnsInHanded a C os f .any (fun w args => (s.pre enc C.prog fn conds apart w args ∧ X w args) ∧ sizedMet enc C.prog fn (OpenSpec.ofChange s) apart w args) (s.post enc C.prog fn apart fresh handsOn again) := by
  refine returnsInHanded_of_calls own started noInit witness ?_
  intro w tape i _ hsh _ hok hpre hholds
  obtain ⟨_, _, _, fn', hfn', _, _, _, _, hval⟩ := hok
  have e : fn' = fn := Option.some.inj (hfn'.symm.trans hfn)
  subst e
  obtain ⟨⟨⟨ds, gs, before, hw, hc⟩, hx⟩, hz⟩ := hpre
  have hw' := DataW.Whole.of_heap (w' := w.forCall tape i) (by rfl) hw
  refine (contract (w.forCall tape i) w.heap.size i.args ds gs before hval hw' hc (hz.weights hw) (hX _ _ _ (by rfl) hx) hsh hholds).mono fun e W' ⟨v, he, hp⟩ => ?_
  subst he
  exact ChangeSpec.post_blind hp
end
end Go.Proofs.YtamihjgfncjdoaaGreatDoor
namespace Go.Proofs.YtamihjgfncjdoaaGreatDoor
open Go Go.ChangeShapes Go.WideShapes Go.ChangeAt Go.RowKit Go.Deep
section
variable {H : Type} {enc : TypeId × Value → H} {P : Program}
end
end Go.Proofs.YtamihjgfncjdoaaGreatDoor
namespace Go.Proofs.YtamihjgfncjdoaaGreatDoor
open Go Go.ChangeShapes Go.WideShapes Go.ChangeAt Go.RowKit Go.Deep
section
variable {H : Type} (enc : TypeId × Value → H) (P : Program) (W : World)
variable {enc P W}
end
end Go.Proofs.YtamihjgfncjdoaaGreatDoor
namespace Go.Proofs.YtamihjgfncjdoaaGreatDoor
open Go Go.ChangeShapes Go.WideShapes Go.ChangeAt Go.RowKit
section
variable {H : Type} {enc : TypeId × Value → H} {P : Program}
end
theorem bounds_u8 {n : Int} (h : (Lit.int .u8 n).wf = true) : 0 ≤ n ∧ n ≤ 255 := by
  simp [Lit.wf, IntKind.min, IntKind.max, IntKind.signed, IntKind.bits] at h
  omega
end Go.Proofs.YtamihjgfncjdoaaGreatDoor
namespace Go.Proofs.YtamihjgfncjdoaaGreatDoor
open Go Go.RowKit
structure Nd where
  n : ByteArray
  cu : Int
  co : Int
  deriving DecidableEq
structure Dv where
  n : ByteArray
  k : Int
  a : Int
  b : Int
  co : Int
  deriving DecidableEq
def compB (n : Int) : Bool := decide (0 ≤ n) && decide (n ≤ 7)
def joinsB (k : Int) : Bool := decide (1 ≤ k) && decide (k ≤ 3)
def endsB (d : Dv) (m : Int) : Bool := if d.a < 0 ∨ m ≤ d.a then false else if joinsB d.k = false then decide (d.b = -1) else decide (0 ≤ d.b) && decide (d.b < m) && decide (d.b ≠ d.a)
def usedB (U : List ByteArray) (s : ByteArray) : Bool := U.any fun u => decide (s = u)
/-- The nodes: the first error, or 0; the names that were used stand in U. -/
def ndGo (U : List ByteArray) : List Nd → Int
  | [] => 0
  | x :: l => if nameB x.n.data.toList = false then 3 else if usedB U x.n = true then 4 else if x.cu < 0 ∨ 1048576 < x.cu ∨ compB x.co = false then 5 else ndGo (U ++ [x.n]) l
def dvGo (m : Int) (U : List ByteArray) : List Dv → Int
  | [] => 0
  | d :: l => if nameB d.n.data.toList = false then 3 else if usedB U d.n = true then 4 else if d.k < 1 ∨ 6 < d.k then 6 else if endsB d m = false then 7 else if compB d.co = false then 5 else dvGo m (U ++ [d.n]) l
def netE (N : List Nd) (V : List Dv) : Int :=
  if 32 < N.length ∨ 64 < V.length then 1 else if ndGo [] N ≠ 0 then ndGo [] N else dvGo N.length (N.map Nd.n) V
/-- The used names as a map's entries. -/
def usedL (U : List ByteArray) : List (Value × Value) := U.map fun n => (.string n, .bool true)
end Go.Proofs.YtamihjgfncjdoaaGreatDoor
