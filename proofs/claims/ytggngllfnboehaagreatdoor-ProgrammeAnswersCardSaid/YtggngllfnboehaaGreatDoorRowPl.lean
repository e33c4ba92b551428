/- Closed facts that the cards of this seat share, and from a row's condition on the listed tables to what the walks ask: the tables of classes, of powers and of places, and a cell of the library; conditions: none. -/
import Derived.Test.YtggngllfnboehaaGreatDoorCards
import Derived.Test.YtggngllfnboehaaGreatDoorTie
import Derived.Test.YtggngllfnboehaaGreatDoorRows
import Derived.Test.YtggngllfnboehaaGreatDoorTxA
import Derived.Test.YtggngllfnboehaaGreatDoorTkA
import Derived.Test.YtggngllfnboehaaGreatDoorPgE
import Derived.Test.YtggngllfnboehaaGreatDoorLexR
import Derived.Test.YtggngllfnboehaaGreatDoorFinA
import Derived.ProofKit
import Derived.LaidMore
import Derived.OpenShut
import Derived.Stop.Joined
import Derived.Stop.LaidErr
import Derived.Deep.Strs
import Derived.Lib.LaidTab
import Derived.MakeChecks
import Derived.SevenTiedAt
import Derived.Lay
import Derived.Handed
set_option linter.unusedVariables false
set_option linter.unusedSimpArgs false
namespace Go.Proofs.YtggngllfnboehaaGreatDoor
open Go Go.ChangeShapes Go.WideShapes Go.ChangeAt Go.RowKit
theorem ownD : ownKnob Tryz.prog.godebug = none := by kernel_rfl
theorem laidOutD : laidOutB Tryz.prog = true := by kernel_rfl
theorem cellsIntD : Tryz.prog.cellsOf 3 = 1 := by kernel_rfl
def Pow (w : World) : Prop := ∃ t fr, w.heap[3]? = some (.cells ⟨powL⟩ t fr)
theorem pow_of_tab {W : World} (h : Lib.TabIs Tryz.prog W "internal/strconv.uint64pow10" .u64 Lib.pow10Tab) : Pow W := by
  unfold Lib.TabIs World.var? at h
  rw [gPowN] at h
  simp only [Option.bind_some] at h
  split at h
  · rename_i c t fr hh
    injection h with h
    refine ⟨t, fr, ?_⟩
    rw [hh, h]
    rfl
  · cases h
theorem pow_of_head {rest : List (String × DataW Unit)} {W : World} (h : laidMet Tryz.prog (("internal/strconv.uint64pow10", Rows.laid_internal_strconv_uint64pow10) :: rest) W) : Pow W :=
  pow_of_tab (Lib.tabIs_of_head (t := 145) (e := 60) (n := 20) gPowN (by kernel_rfl) Tryz.underlying145 Tryz.underlying60 (by kernel_rfl) (by kernel_rfl) h)
def MaxAt (m : Int) (us : List Value) (W : World) : Prop := ∃ t fr, W.heap[2]? = some (.cells ⟨.int .i64 m :: us⟩ t fr)
theorem max_of_shape {W : World} (h : W.ShapedOpen Tryz.prog) : ∃ m us, MaxAt m us W := by
  obtain ⟨m, hm⟩ := Tryz.laysM146.s1_3 W h
  have hm : W.cell? ⟨2, 0, none⟩ = some (.int .i64 m) := hm
  unfold World.cell? at hm
  simp only at hm
  split at hm
  · rename_i c t fr hh
    obtain ⟨l⟩ := c
    match l, hm with
    | u :: us, hm =>
      have : u = .int .i64 m := by simpa using hm
      subst this
      exact ⟨m, us, t, fr, hh⟩
    | [], hm => simp at hm
  · cases hm
theorem cellsStr0 : Tryz.prog.cellsOf 9 = 1 := by kernel_rfl
set_option maxRecDepth 100000 in
/-- A table of strings, as it is laid. -/
theorem strs_of_head {gn : String} {g t n : Nat} {rest : List (String × DataW Unit)} {W : World} {ss : List ByteArray} (hg : Tryz.prog.globalNamed gn = some g) (ht : (Tryz.prog.globals[g]?).map (·.type) = some t) (hu : Tryz.prog.underlying t = some (.array n 9)) (hc : Tryz.prog.cellsOf t = n) (hn : ss.length = n)
    (h : laidMet Tryz.prog ((gn, .agg (ss.map fun s => .lit (.string s.data.toList))) :: rest) W) : ∃ t fr, W.heap[g]? = some (.cells ⟨ss.map .string⟩ t fr) := by
  obtain ⟨ps, ⟨g', t', cs, fuel, p, q, hg', ht', hvar, hd, _, _⟩, _⟩ := h
  obtain rfl := Option.some.inj (hg.symm.trans hg')
  obtain rfl := Option.some.inj (ht.symm.trans ht')
  obtain ⟨xs, m1, rfl, hx1, hlen, hnx, hel⟩ := DataW.trod_array hu hd
  rw [hc] at hlen
  simp only [cellsStr0] at hel
  obtain ⟨l⟩ := cs
  simp only [Prod.mk.injEq, DataW.agg.injEq] at hx1
  have hll : l.length = n := hlen
  have hcs : l = ss.map Value.string := by
    refine List.ext_getElem? fun i => ?_
    by_cases hi : i < n
    · have h1 := hel i hi
      obtain ⟨v, hv⟩ := zl (L := l) (k := i) (by omega)
      obtain ⟨x, hx⟩ := zl (L := xs) (k := i) (by omega)
      obtain ⟨s, hs⟩ := zl (L := ss) (k := i) (by omega)
      have e1 : (l.drop (i * 1)).take 1 = [v] := by rw [Nat.mul_one, jE hv]; rfl
      have h1' : DataW.trod _ Tryz.prog W _ _ _ _ 9 ((l.drop (i * 1)).take 1) = some x := h1.trans hx
      rw [e1] at h1'
      obtain ⟨z, z1, z2, z3⟩ := DataW.trod_string Tryz.underlying9 h1'
      have z1 := (List.cons.inj z1).1
      have e2 := congrArg (fun q => q[i]?) hx1.1
      simp only [List.getElem?_map, hs, hx, Option.map_some, Option.some.injEq, z2, DataW.lit.injEq, Lit.string.injEq] at e2
      rw [hv, List.getElem?_map, hs, z1]
      have : z = s := qy e2.symm
      rw [this]; rfl
    · rw [List.getElem?_eq_none (by omega), List.getElem?_eq_none (by simp; omega)]
  unfold World.var? at hvar
  rw [hg] at hvar
  simp only [Option.bind_some] at hvar
  split at hvar
  · rename_i c t fr hh
    injection hvar with hvar
    refine ⟨t, fr, ?_⟩
    rw [hh, hvar, hcs]
  · cases hvar
def Plc (W : World) : Prop := ∃ t fr, W.heap[0]? = some (.cells ⟨plcL⟩ t fr)
theorem plc_of_head {rest : List (String × DataW Unit)} {W : World} (h : laidMet Tryz.prog (("permitoffice/programme.places", Rows.laid_permitoffice_programme_places) :: rest) W) : Plc W :=
  strs_of_head (ss := [⟨#[]⟩, ⟨#[111, 112, 101, 110]⟩, ⟨#[99, 108, 111, 115, 101, 100]⟩]) (t := 98) (by kernel_rfl) (by kernel_rfl) Tryz.underlying98 (by kernel_rfl) rfl h
def GOfQ (m : Int) (us : List Value) : Nat → Option (List Value) := fun g => if g = 1 then some clsL else if g = 3 then some powL else if g = 2 then some (.int .i64 m :: us) else if g = 0 then some plcL else none
theorem GOfQ_cls {m : Int} {us : List Value} : GCls (GOfQ m us) := rfl
theorem GOfQ_pow {m : Int} {us : List Value} : GPow (GOfQ m us) := rfl
theorem GOfQ_max {m : Int} {us : List Value} : GMax (GOfQ m us) := ⟨m, us, rfl⟩
theorem GOfQ_plc {m : Int} {us : List Value} : GPlc (GOfQ m us) := rfl
theorem GOfQ_at {m : Int} {us : List Value} {W : World} (hc : Cls W) (hp : Pow W) (hm : MaxAt m us W) (hq : Plc W) : ∀ g vs, GOfQ m us g = some vs → ∃ t fr, W.heap[g]? = some (.cells ⟨vs⟩ t fr) := fun g vs e => by
  unfold GOfQ at e
  split at e
  · rename_i hg
    injection e with e
    subst hg; subst e
    exact hc
  · split at e
    · rename_i hg
      injection e with e
      subst hg; subst e
      exact hp
    · split at e
      · rename_i hg
        injection e with e
        subst hg; subst e
        exact hm
      · split at e
        · rename_i hg
          injection e with e
          subst hg; subst e
          exact hq
        · cases e
section
variable {H : Type} {enc : TypeId × Value → H}
theorem returns_and_shaped {a : Assume} {C : Checked} {os : Os} {f : FuncId} {fn : Func} {s : ChangeSpec} {conds : List PathCond} {apart fresh handsOn again : Bool} {X : World → Array Value → Prop}
    (hX : ∀ (w w' : World) (args : Array Value), w.heap = w'.heap → X w args → X w' args)
    (own : ownKnob C.prog.godebug = none) (started : os.Started) (noInit : C.prog.inits.idxOf? f = none) (hfn : C.prog.funcs[f]? = some fn)
    (witness : ∃ (w : World) (tape : Tape) (i : Input), w.os = os ∧ (w.forCall tape i).Shaped C.prog ∧ i.vars = [] ∧ Input.okWide C.prog (w.forCall tape i) .any w.heap.size f i ∧
      ((s.pre enc C.prog fn conds apart (w.forCall tape i).memory i.args ∧ X (w.forCall tape i).memory i.args) ∧ sizedMet enc C.prog fn (OpenSpec.ofChange s) apart (w.forCall tape i).memory i.args) ∧ a.holds C.prog (lone (Frame.enter C.prog f i.args .normal) [] (w.forCall tape i)))
    (contract : ∀ (W : World) (base : Nat) (args : Array Value) (ds gs : List (DataW H)) (before : List MemPlace),
      (∀ (j : Nat) t v, fn.params[j]? = some t → args[j]? = some v → Value.okWide C.prog W .any base t v) →
      DataW.Whole enc C.prog fn.params.toList s.vars apart W args.toList ds gs before →
      conds.all (PathCond.test C.prog ⟨fn.params.toList, ds, s.plain.varTypes C.prog, gs⟩) = true →
      (DataW.weightsEach C.prog (fn.params.toList ++ s.plain.varTypes C.prog) (ds ++ gs)).all (· ≤ reachBytes) = true → X W args → W.ShapedOpen C.prog →
      a.holds C.prog (lone (Frame.enter C.prog f args .normal) [] W) →
      Calls C.prog f args W fun e W' => ∃ v, e = .returned v ∧ s.post enc C.prog fn apart fresh handsOn again W args v W') :
    ReturnsInHanded a C os f .any (fun w args => (s.pre enc C.prog fn conds apart w args ∧ X w args) ∧ sizedMet enc C.prog fn (OpenSpec.ofChange s) apart w args) (s.post enc C.prog fn apart fresh handsOn again) := by
  refine returnsInHanded_of_calls own started noInit witness ?_
  intro w tape i _ hsh _ hok hpre hholds
  obtain ⟨_, _, _, fn', hfn', _, _, _, _, hval⟩ := hok
  have e : fn' = fn := Option.some.inj (hfn'.symm.trans hfn)
  subst e
  obtain ⟨⟨⟨ds, gs, before, hw, hc⟩, hx⟩, hz⟩ := hpre
  have hw' := DataW.Whole.of_heap (w' := w.forCall tape i) (by rfl) hw
  refine (contract (w.forCall tape i) w.heap.size i.args ds gs before hval hw' hc (hz.weights hw) (hX _ _ _ (by rfl) hx) hsh hholds).mono fun e W' ⟨v, he, hp⟩ => ?_
  subst he
  exact ChangeSpec.post_blind hp
end
end Go.Proofs.YtggngllfnboehaaGreatDoor
