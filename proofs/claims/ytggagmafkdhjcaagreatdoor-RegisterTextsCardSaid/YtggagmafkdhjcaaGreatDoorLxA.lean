/- Closed facts that the cards of this seat share, and from a row's condition on the listed tables to what the walks ask: the tables of classes and of powers, and a cell of the library; conditions: none / Networks, by plain functions: what network.Check says; nothing of the program stands here / lexeme.Words, Join, Lines, their references, and the comparison of lists, by the abstract machine; conditions: a cell of the library stands. -/
import Derived.Test.YtggagmafkdhjcaaGreatDoorCards
import Derived.Test.YtggagmafkdhjcaaGreatDoorTie
import Derived.Test.YtggagmafkdhjcaaGreatDoorRows
import Derived.Test.YtggagmafkdhjcaaGreatDoorTxA
import Derived.Test.YtggagmafkdhjcaaGreatDoorTkA
import Derived.Test.YtggagmafkdhjcaaGreatDoorFin
import Derived.Test.YtggagmafkdhjcaaGreatDoorFinA
import Derived.ProofKit
import Derived.LaidMore
import Derived.OpenShut
import Derived.Stop.Joined
import Derived.Stop.LaidErr
import Derived.Deep.Strs
import Derived.Lib.LaidTab
import Derived.MakeChecks
import Derived.SevenTiedAt
import Derived.Lay
import Derived.Handed
import Derived.Test.YtggagmafkdhjcaaGreatDoorLexP
import Derived.Test.YtggagmafkdhjcaaGreatDoorNmA
set_option linter.unusedVariables false
set_option linter.unusedSimpArgs false
namespace Go.Proofs.YtggagmafkdhjcaaGreatDoor
open Go Go.ChangeShapes Go.WideShapes Go.ChangeAt Go.RowKit
theorem ownD : ownKnob Tryz.prog.godebug = none := by kernel_rfl
theorem rP : laidOutB Tryz.prog = true := by kernel_rfl
theorem oW : Tryz.prog.cellsOf 3 = 1 := by kernel_rfl
def Pow (w : World) : Prop := ∃ t fr, w.heap[2]? = some (.cells ⟨powL⟩ t fr)
theorem mW {W : World} (h : Lib.TabIs Tryz.prog W "internal/strconv.uint64pow10" .u64 Lib.pow10Tab) : Pow W := by
  unfold Lib.TabIs World.var? at h
  rw [sN] at h
  simp only [Option.bind_some] at h
  split at h
  · rename_i c t fr hh
    injection h with h
    refine ⟨t, fr, ?_⟩
    rw [hh, h]
    rfl
  · cases h
theorem iU {rest : List (String × DataW Unit)} {W : World} (h : laidMet Tryz.prog (("internal/strconv.uint64pow10", Rows.laid_internal_strconv_uint64pow10) :: rest) W) : Pow W :=
  mW (Lib.tabIs_of_head (t := 146) (e := 50) (n := 20) sN (by kernel_rfl) Tryz.underlying146 Tryz.underlying50 (by kernel_rfl) (by kernel_rfl) h)
def vS (m : Int) (us : List Value) (W : World) : Prop := ∃ t fr, W.heap[1]? = some (.cells ⟨.int .i64 m :: us⟩ t fr)
theorem gT {W : World} (h : W.ShapedOpen Tryz.prog) : ∃ m us, vS m us W := by
  obtain ⟨m, hm⟩ := Tryz.laysM146.s1_3 W h
  have hm : W.cell? ⟨1, 0, none⟩ = some (.int .i64 m) := hm
  unfold World.cell? at hm
  simp only at hm
  split at hm
  · rename_i c t fr hh
    obtain ⟨l⟩ := c
    match l, hm with
    | u :: us, hm =>
      have : u = .int .i64 m := by simpa using hm
      subst this
      exact ⟨m, us, t, fr, hh⟩
    | [], hm => simp at hm
  · cases hm
def GOfF (m : Int) (us : List Value) : Nat → Option (List Value) := fun g => if g = 0 then some clsL else if g = 2 then some powL else if g = 1 then some (.int .i64 m :: us) else none
theorem tH {m : Int} {us : List Value} : GCls (GOfF m us) := rfl
theorem sS {m : Int} {us : List Value} : GPow (GOfF m us) := rfl
theorem rU {m : Int} {us : List Value} : GMax (GOfF m us) := ⟨m, us, rfl⟩
theorem uP {m : Int} {us : List Value} {W : World} (hc : Cls W) (hp : Pow W) (hm : vS m us W) : ∀ g vs, GOfF m us g = some vs → ∃ t fr, W.heap[g]? = some (.cells ⟨vs⟩ t fr) := fun g vs e => by
  unfold GOfF at e
  split at e
  · rename_i hg
    injection e with e
    subst hg; subst e
    exact hc
  · split at e
    · rename_i hg
      injection e with e
      subst hg; subst e
      exact hp
    · split at e
      · rename_i hg
        injection e with e
        subst hg; subst e
        exact hm
      · cases e
section
variable {H : Type} {enc : TypeId × Value → H}
theorem bP {a : Assume} {C : Checked} {os : Os} {f : FuncId} {fn : Func} {s : ChangeSpec} {conds : List PathCond} {apart fresh handsOn again : Bool} {X : World → Array Value → Prop}
    (hX : ∀ (w w' : World) (args : Array Value), w.heap = w'.heap → X w args → X w' args)
    (own : ownKnob C.prog.godebug = none) (started : os.Started) (noInit : C.prog.inits.idxOf? f = none) (hfn : C.prog.funcs[f]? = some fn)
    (witness : ∃ (w : World) (tape : Tape) (i : Input), w.os = os ∧ (w.forCall tape i).Shaped C.prog ∧ i.vars = [] ∧ Input.okWide C.prog (w.forCall tape i) .any w.heap.size f i ∧
      ((s.pre enc C.prog fn conds apart (w.forCall tape i).memory i.args ∧ X (w.forCall tape i).memory i.args) ∧ sizedMet enc C.prog fn (OpenSpec.ofChange s) apart (w.forCall tape i).memory i.args) ∧ a.holds C.prog (lone (Frame.enter C.prog f i.args .normal) [] (w.forCall tape i)))
    (contract : ∀ (W : World) (base : Nat) (args : Array Value) (ds gs : List (DataW H)) (before : List MemPlace),
      (∀ (j : Nat) t v, fn.params[j]? = some t → args[j]? = some v → Value.okWide C.prog W .any base t v) →
      DataW.Whole enc C.prog fn.params.toList s.vars apart W args.toList ds gs before →
      conds.all (PathCond.test C.prog ⟨fn.params.toList, ds, s.plain.varTypes C.prog, gs⟩) = true →
      (DataW.weightsEach C.prog (fn.params.toList ++ s.plain.varTypes C.prog) (ds ++ gs)).all (· ≤ reachBytes) = true → X W args → W.ShapedOpen C.prog →
      a.holds C.prog (lone (Frame.enter C.prog f args .normal) [] W) →
      Calls C.prog f args W fun e W' => ∃ v, e = .returned v ∧ s.post enc C.prog fn apart fresh handsOn again W args v W') :
    ReturnsInHanded a C os f .any (fun w args => (s.pre enc C.prog fn conds apart w args ∧ X w args) ∧ sizedMet enc C.prog fn (OpenSpec.ofChange s) apart w args) (s.post enc C.prog fn apart fresh handsOn again) := by
  refine returnsInHanded_of_calls own started noInit witness ?_
  intro w tape i _ hsh _ hok hpre hholds
  obtain ⟨_, _, _, fn', hfn', _, _, _, _, hval⟩ := hok
  have e : fn' = fn := Option.some.inj (hfn'.symm.trans hfn)
  subst e
  obtain ⟨⟨⟨ds, gs, before, hw, hc⟩, hx⟩, hz⟩ := hpre
  have hw' := DataW.Whole.of_heap (w' := w.forCall tape i) (by rfl) hw
  refine (contract (w.forCall tape i) w.heap.size i.args ds gs before hval hw' hc (hz.weights hw) (hX _ _ _ (by rfl) hx) hsh hholds).mono fun e W' ⟨v, he, hp⟩ => ?_
  subst he
  exact ChangeSpec.post_blind hp
end
end Go.Proofs.YtggagmafkdhjcaaGreatDoor
namespace Go.Proofs.YtggagmafkdhjcaaGreatDoor
open Go Go.RowKit
end Go.Proofs.YtggagmafkdhjcaaGreatDoor
namespace Go.Proofs.YtggagmafkdhjcaaGreatDoor
open Go Go.RowKit
set_option maxRecDepth 10000
variable {G : Nat → Option (List Value)}
theorem uY (s : ByteArray) (hs : s.size ≤ 4294967296) : jD Tryz.prog G 57 [.v (.string s)] [] (.sl 1 ((jR s.data.toList).map svL)) [] := by
  refine yi tbOk (yj Tryz.func57 (by kernel_rfl) rfl) Tryz.func57 rfl _ Tryz.ntmps57 (Nat.le_of_ble_eq_true rfl) fun X hX => ?_
  subst hX
  repeat (first | ((with_reducible refine zm ?_); refine zl rfl ?_) | ((with_reducible refine zL ?_); refine zM rfl ?_)  | refine yA ?_ | refine zS rfl ?_ | with_reducible (first | refine zY ?_ | refine zR ?_) | ((with_reducible refine zJ ?_ ?_); kernel_rfl))
  refine zC (pQ s hs) ?_
  repeat (first | ((with_reducible refine zL ?_); refine zM rfl ?_)  | refine yA ?_ | refine zS rfl ?_ | with_reducible (first | refine zY ?_ | refine zv ?_) )
  refine wZ (by first | exact .inr rfl | exact .inl rfl) rfl rfl ?_
  repeat' (first | exact trivial | exact Ren.v _ | exact Ren.sl _ _ | exact Ren.ep _ | exact Ren.ptr _ _ _ _ rfl | exact Ren.bs _ _ _ _ _ rfl | exact Ren.nil _ | exact Ren.own _ _ _ _ ⟨_, rfl⟩ | refine yz ?_ | refine jA ?_ | refine jB ?_ | refine ⟨?_, ?_⟩)
theorem uQ {s : ByteArray} {l : List UInt8} (h : s.data.toList = l) : s = strL l := by
  subst h; rfl
theorem tF (s : ByteArray) (a b : Nat) : s.extract a b = strL (extL s (a, b)) := by
  refine uQ ?_
  rw [ByteArray.data_extract, Array.toList_extract, List.extract_eq_take_drop, extL, List.drop_take]
theorem jn_A (L : List (List UInt8)) (hn : L.length ≤ 140737488355328) (hs : (jq L).length ≤ 140737488355328) : jD Tryz.prog G 28 [.sl 1 (L.map svL)] [] (svL (jq L)) [] := by
  refine yi tbOk (yj Tryz.func28 (by kernel_rfl) rfl) Tryz.func28 rfl _ Tryz.ntmps28 (Nat.le_of_ble_eq_true rfl) fun X hX => ?_
  subst hX
  repeat (first | ((with_reducible refine zm ?_); refine zl rfl ?_) | ((with_reducible refine zL ?_); refine zM rfl ?_)  | refine yA ?_ | refine zS rfl ?_ | with_reducible (first | refine zY ?_ | refine zR ?_) | ((with_reducible refine zJ ?_ ?_); kernel_rfl))
  refine zC (wN L 32 hn hs) ?_
  repeat (first | ((with_reducible refine zL ?_); refine zM rfl ?_)  | refine yA ?_ | refine zS rfl ?_ | with_reducible (first | refine zY ?_ | refine zv ?_) )
  refine jK (by first | exact .inr rfl | exact .inl rfl) rfl rfl ?_
  rfl
end Go.Proofs.YtggagmafkdhjcaaGreatDoor
