/- From a contract of the abstract machine to a law's row: the memory that stands, slices that came in, and the call's outcome; nothing of the program stands here / Closed facts that the cards of this seat share, and from a row's condition on the listed tables to what the walks ask: the tables of classes and of powers, and a cell of the library; conditions: none / A slice of numbers of any kind that came in, as an immutable slice of the abstract machine; nothing of the program stands here / How a slice of structs that came in reads as a list; nothing of the program stands here / Arguments of any shape (numbers, strings, structs, slices, slices of structs that hold slices) as values of the abstract machine; nothing of the program stands here. -/
import Derived.Test.YtjamibeffalhaaaGreatDoorAbsP
import Derived.Test.YtjamibeffalhaaaGreatDoorFin
import Derived.Test.YtjamibeffalhaaaGreatDoorCards
import Derived.Test.YtjamibeffalhaaaGreatDoorTie
import Derived.Test.YtjamibeffalhaaaGreatDoorRows
import Derived.Test.YtjamibeffalhaaaGreatDoorLnP
import Derived.Test.YtjamibeffalhaaaGreatDoorLexP
import Derived.ProofKit
import Derived.LaidMore
import Derived.OpenShut
import Derived.Stop.Joined
import Derived.Stop.LaidErr
import Derived.Deep.Strs
import Derived.Lib.LaidTab
import Derived.MakeChecks
import Derived.SevenTiedAt
import Derived.Lay
import Derived.Handed
import Derived.Test.YtjamibeffalhaaaGreatDoorLib
import Derived.Deep.Slices
set_option linter.unusedVariables false
set_option linter.unusedSimpArgs false
namespace Go.Proofs.YtjamibeffalhaaaGreatDoor
open Go Go.ChangeShapes Go.WideShapes Go.ChangeAt Go.RowKit
def memM (W : World) : Nat → Option (Array Value) := fun g => match W.heap[g]? with
  | some (.cells arr _ _) => some arr
  | _ => none
theorem memM_of {W : World} {g : Nat} {arr : Array Value} {t : TypeId} {fr : Nat × Nat} (h : W.heap[g]? = some (.cells arr t fr)) : memM W g = some arr := by
  unfold memM; rw [h]
theorem wJ {W : World} {g : Nat} {arr : Array Value} (h : memM W g = some arr) : ∃ t fr, W.heap[g]? = some (.cells arr t fr) := by
  unfold memM at h
  split at h
  · rename_i a t fr e
    injection h with h; subst h
    exact ⟨t, fr, e⟩
  · cases h
theorem kL {W : World} {b o : Nat} {u : Value} (h : W.cell? ⟨b, o, none⟩ = some u) : ∃ arr, memM W b = some arr ∧ arr[o]? = some u := by
  unfold World.cell? at h
  unfold memM
  split at h
  · rename_i c t fr e
    simp only at e
    rw [e]
    exact ⟨c, rfl, by simpa using h⟩
  · cases h
theorem acalls_row {P : Program} {G : Nat → Option (List Value)} {f : FuncId} {args : List AV} {u : Value} {vs : List Value} {W : World} (h : zy P G f args [] (.v u) []) (hG : ∀ g us, G g = some us → ∃ t fr, W.heap[g]? = some (.cells ⟨us⟩ t fr)) (hl : vs.length = args.length)
    (ha : ∀ (j : Nat) (x : AV) (v : Value), args[j]? = some x → vs[j]? = some v → Rep (memM W) (refρ []) x v) : Calls P f ⟨vs⟩ W (fun e W' => e = .returned u ∧ Below W.heap.size W W') := by
  refine (h.2 (memM W) W [] vs (fun g arr e => wJ e) (fun g us e => ?_) (by simp) ⟨rfl, by simp⟩ hl ha).mono fun e W' hp => ?_
  · obtain ⟨t, fr, hh⟩ := hG g us e
    exact memM_of hh
  · obtain ⟨v, M', gs', he, -, -, p1, p2, p3, p4, p5, -, -, -, -, hr⟩ := hp
    cases hr
    exact ⟨he, p1, p2, p3, p4, fun g hg => p5 g hg (by simp)⟩
theorem rd_sl {α : Type} {f : α → List Value} {av : α → AV} {W : World} {S : Nat → Prop} {A : Option Addr} {sz c : Nat} {L : List α} {ρ : Nat → Nat → Option Value} (hav : ∀ x, (av x).cells = (f x).map .v) (hsz : ∀ x, (f x).length = sz) (hpos : 0 < sz) (h : Rd W S A sz f L) (hc : L.length ≤ c) (hm : c ≤ maxLen) : Rep (memM W) ρ (.sl sz (L.map av)) (.slice A L.length c) := by
  have hu : ∀ (k : Nat) (x : AV), (L.map av)[k]? = some x → ∃ x0, L[k]? = some x0 ∧ x = av x0 := fun k x e => by
    rw [List.getElem?_map] at e
    cases hx : L[k]? with
    | none => rw [hx] at e; cases e
    | some x0 => rw [hx] at e; injection e with e; exact ⟨x0, rfl, e.symm⟩
  have key := Rep.sl (M := memM W) ρ sz (L.map av) A c (fun k j => ((L[k]?).bind fun x => (f x)[j]?).getD undef) (by simpa using hc) hm (fun k x j y hx hy => by
    obtain ⟨x0, h0, rfl⟩ := hu k x hx
    rw [hav, List.getElem?_map] at hy
    simp only [h0, Option.bind_some]
    cases hz : (f x0)[j]? with
    | none => rw [hz] at hy; cases hy
    | some u => rw [hz] at hy; injection hy with hy; subst hy; exact .v _ _) (fun k x hx => by
    obtain ⟨x0, h0, rfl⟩ := hu k x hx
    refine ⟨by rw [hav, List.length_map, hsz], ?_⟩
    obtain ⟨b, o, e, -, hcell⟩ := h (by have := yL h0; omega)
    have at_ : ∀ j, j < sz → ∃ arr, memM W b = some arr ∧ arr[o + k * sz + j]? = some (((L[k]?).bind fun x => (f x)[j]?).getD undef) := fun j hj => by
      obtain ⟨u, hu⟩ := zc (L := f x0) (k := j) (by rw [hsz]; exact hj)
      obtain ⟨arr, a1, a2⟩ := kL (hcell k j x0 u h0 hu)
      refine ⟨arr, a1, ?_⟩
      rw [a2, h0]
      simp [hu]
    obtain ⟨arr, a1, -⟩ := at_ 0 hpos
    refine ⟨b, o, arr, e, a1, fun j hj => ?_⟩
    obtain ⟨arr', b1, b2⟩ := at_ j hj
    rw [a1] at b1; injection b1 with b1; subst b1
    exact b2)
  rw [List.length_map] at key
  exact key
section
variable {H : Type} {enc : TypeId × Value → H} {P : Program}
/-- A list of integers that came in, as an immutable slice. -/
theorem sM {t e : TypeId} {W : World} {v : Value} {d : DataW H} {p : List MemPlace} {base : Nat} {ρ : Nat → Nat → Option Value} (ht : P.underlying t = some (.slice e)) (he : P.underlying e = some (.int .i64)) (hc : P.cellsOf e = 1)
    (hv : Value.okWide P W .any base t v) (h : DataW.Trod enc P W 0 (fun _ => true) true t v d p) : ∃ l : List Int, Rep (memM W) ρ (.sl 1 (l.map fun n => .v (.int .i64 n))) v ∧ ∀ n ∈ l, -9223372036854775808 ≤ n ∧ n ≤ 9223372036854775807 := by
  obtain ⟨A, c, l, hv', hn, hrd, hm, hb⟩ := open_il ht he hc hv h
  have hcap : l.length ≤ c ∧ c ≤ maxLen := by
    obtain ⟨fuel, hf⟩ := h
    rcases open_ints ht he hc hf with ⟨hcs, hx⟩ | ⟨a, len', cap', zs, hcs, _, hl, hm', hz, hx, hcell, hwz⟩
    · rw [hv'] at hcs
      simp [Value.cells] at hcs
      obtain ⟨rfl, rfl, rfl⟩ := hcs
      exact ⟨by simp, by simp⟩
    · rw [hv'] at hcs
      simp [Value.cells] at hcs
      obtain ⟨rfl, rfl, rfl⟩ := hcs
      exact ⟨hl, hm'⟩
  subst hv'
  exact ⟨l, rd_sl (fun _ => rfl) (fun _ => rfl) (by decide) hrd hcap.1 hcap.2, hb⟩
end
end Go.Proofs.YtjamibeffalhaaaGreatDoor
namespace Go.Proofs.YtjamibeffalhaaaGreatDoor
open Go Go.ChangeShapes Go.WideShapes Go.ChangeAt Go.RowKit
theorem ownD : ownKnob Tryz.prog.godebug = none := by kernel_rfl
theorem oR : laidOutB Tryz.prog = true := by kernel_rfl
theorem kM : Tryz.prog.cellsOf 3 = 1 := by kernel_rfl
def Pow (w : World) : Prop := ∃ t fr, w.heap[2]? = some (.cells ⟨powL⟩ t fr)
theorem rY {W : World} (h : Lib.TabIs Tryz.prog W "internal/strconv.uint64pow10" .u64 Lib.pow10Tab) : Pow W := by
  unfold Lib.TabIs World.var? at h
  rw [wW] at h
  simp only [Option.bind_some] at h
  split at h
  · rename_i c t fr hh
    injection h with h
    refine ⟨t, fr, ?_⟩
    rw [hh, h]
    rfl
  · cases h
theorem gB {rest : List (String × DataW Unit)} {W : World} (h : laidMet Tryz.prog (("internal/strconv.uint64pow10", Rows.laid_internal_strconv_uint64pow10) :: rest) W) : Pow W :=
  rY (Lib.tabIs_of_head (t := 165) (e := 66) (n := 20) wW (by kernel_rfl) Tryz.underlying165 Tryz.underlying66 (by kernel_rfl) (by kernel_rfl) h)
def MaxAt (m : Int) (us : List Value) (W : World) : Prop := ∃ t fr, W.heap[1]? = some (.cells ⟨.int .i64 m :: us⟩ t fr)
theorem fB {W : World} (h : W.ShapedOpen Tryz.prog) : ∃ m us, MaxAt m us W := by
  obtain ⟨m, hm⟩ := Tryz.laysM146.s1_3 W h
  have hm : W.cell? ⟨1, 0, none⟩ = some (.int .i64 m) := hm
  unfold World.cell? at hm
  simp only at hm
  split at hm
  · rename_i c t fr hh
    obtain ⟨l⟩ := c
    match l, hm with
    | u :: us, hm =>
      have : u = .int .i64 m := by simpa using hm
      subst this
      exact ⟨m, us, t, fr, hh⟩
    | [], hm => simp at hm
  · cases hm
def GOfF (m : Int) (us : List Value) : Nat → Option (List Value) := fun g => if g = 0 then some clsL else if g = 2 then some powL else if g = 1 then some (.int .i64 m :: us) else none
theorem oQ {m : Int} {us : List Value} : GCls (GOfF m us) := rfl
theorem pI {m : Int} {us : List Value} : GPow (GOfF m us) := rfl
theorem oD {m : Int} {us : List Value} : GMax (GOfF m us) := ⟨m, us, rfl⟩
theorem tP {m : Int} {us : List Value} {W : World} (hc : Cls W) (hp : Pow W) (hm : MaxAt m us W) : ∀ g vs, GOfF m us g = some vs → ∃ t fr, W.heap[g]? = some (.cells ⟨vs⟩ t fr) := fun g vs e => by
  unfold GOfF at e
  split at e
  · rename_i hg
    injection e with e
    subst hg; subst e
    exact hc
  · split at e
    · rename_i hg
      injection e with e
      subst hg; subst e
      exact hp
    · split at e
      · rename_i hg
        injection e with e
        subst hg; subst e
        exact hm
      · cases e
section
variable {H : Type} {enc : TypeId × Value → H}
theorem aH {a : Assume} {C : Checked} {os : Os} {f : FuncId} {fn : Func} {s : ChangeSpec} {conds : List PathCond} {apart fresh handsOn again : Bool} {X : World → Array Value → Prop}
    (hX : ∀ (w w' : World) (args : Array Value), w.heap = w'.heap → X w args → X w' args)
    (own : ownKnob C.prog.godebug = none) (started : os.Started) (noInit : C.prog.inits.idxOf? f = none) (hfn : C.prog.funcs[f]? = some fn)
    (witness : ∃ (w : World) (tape : Tape) (i : Input), w.os = os ∧ (w.forCall tape i).Shaped C.prog ∧ i.vars = [] ∧ Input.okWide C.prog (w.forCall tape i) .any w.heap.size f i ∧
      ((s.pre enc C.prog fn conds apart (w.forCall tape i).memory i.args ∧ X (w.forCall tape i).memory i.args) ∧ sizedMet enc C.prog fn (OpenSpec.ofChange s) apart (w.forCall tape i).memory i.args) ∧ a.holds C.prog (lone (Frame.enter C.prog f i.args .normal) [] (w.forCall tape i)))
    (contract : ∀ (W : World) (base : Nat) (args : Array Value) (ds gs : List (DataW H)) (before : List MemPlace),
      (∀ (j : Nat) t v, fn.params[j]? = some t → args[j]? = some v → Value.okWide C.prog W .any base t v) →
      DataW.Whole enc C.prog fn.params.toList s.vars apart W args.toList ds gs before →
      conds.all (PathCond.test C.prog ⟨fn.params.toList, ds, s.plain.varTypes C.prog, gs⟩) = true →
      (DataW.weightsEach C.prog (fn.params.toList ++ s.plain.varTypes C.prog) (ds ++ gs)).all (· ≤ reachBytes) = true → X W args → W.ShapedOpen C.prog →
      a.holds C.prog (lone (Frame.enter C.prog f args .normal) [] W) →
      Calls C.prog f args W fun e W' => ∃ v, e = .returned v ∧ s.post enc C.prog fn apart fresh handsOn again W args v W') :
    ReturnsInHanded a C os f .any (fun w args => (s.pre enc C.prog fn conds apart w args ∧ X w args) ∧ sizedMet enc C.prog fn (OpenSpec.ofChange s) apart w args) (s.post enc C.prog fn apart fresh handsOn again) := by
  refine returnsInHanded_of_calls own started noInit witness ?_
  intro w tape i _ hsh _ hok hpre hholds
  obtain ⟨_, _, _, fn', hfn', _, _, _, _, hval⟩ := hok
  have e : fn' = fn := Option.some.inj (hfn'.symm.trans hfn)
  subst e
  obtain ⟨⟨⟨ds, gs, before, hw, hc⟩, hx⟩, hz⟩ := hpre
  have hw' := DataW.Whole.of_heap (w' := w.forCall tape i) (by rfl) hw
  refine (contract (w.forCall tape i) w.heap.size i.args ds gs before hval hw' hc (hz.weights hw) (hX _ _ _ (by rfl) hx) hsh hholds).mono fun e W' ⟨v, he, hp⟩ => ?_
  subst he
  exact ChangeSpec.post_blind hp
end
end Go.Proofs.YtjamibeffalhaaaGreatDoor
namespace Go.Proofs.YtjamibeffalhaaaGreatDoor
open Go Go.ChangeShapes Go.WideShapes Go.ChangeAt Go.RowKit
section
variable {H : Type} {enc : TypeId × Value → H} {P : Program}
end
end Go.Proofs.YtjamibeffalhaaaGreatDoor
namespace Go.Proofs.YtjamibeffalhaaaGreatDoor
open Go Go.ChangeShapes Go.WideShapes Go.ChangeAt Go.RowKit Go.Deep
section
variable {H : Type} {enc : TypeId × Value → H} {P : Program}
end
end Go.Proofs.YtjamibeffalhaaaGreatDoor
namespace Go.Proofs.YtjamibeffalhaaaGreatDoor
open Go Go.ChangeShapes Go.WideShapes Go.ChangeAt Go.RowKit Go.Deep
section
variable {H : Type} (enc : TypeId × Value → H) (P : Program) (W : World)
/-- Whatever came in at this type reads as some value of the abstract machine. -/
def jv (t : TypeId) {α : Type} (av : α → AV) (size : Nat) (Q : α → Prop) : Prop :=
  P.cellsOf t = size ∧ ∀ (n : Nat) (cs : List Value) (x : DataW H × List MemPlace), DataW.trod enc P W 0 (fun _ => true) true n t cs = some x →
    ∃ a, Q a ∧ cs.length = size ∧ (av a).cells.length = size ∧ ∀ (j : Nat) (y : AV) (u : Value), (av a).cells[j]? = some y → cs[j]? = some u → ∀ ρ, Rep (memM W) ρ y u
def mM (fs : List Field) (off : Nat) {α : Type} (cl : α → List AV) (size : Nat) (Q : α → Prop) : Prop :=
  ∀ (n : Nat) (cs : List Value), cs.length = off + size → (∀ f ∈ fs, ∃ x, DataW.trod enc P W 0 (fun _ => true) true n f.type ((cs.drop f.offset).take (P.cellsOf f.type)) = some x) →
    ∃ a, Q a ∧ (cl a).length = size ∧ ∀ (j : Nat) (y : AV) (u : Value), (cl a)[j]? = some y → cs[off + j]? = some u → ∀ ρ, Rep (memM W) ρ y u
variable {enc P W}
theorem tW {t : TypeId} {k : IntKind} (ht : P.underlying t = some (.int k)) (hc : P.cellsOf t = 1) : jv enc P W t (fun z : Int => .v (.int k z)) 1 (fun z => (Lit.int k z).wf = true) :=
  ⟨hc, fun n cs x h => by
    obtain ⟨z, rfl, -, hw⟩ := DataW.trod_int ht h
    exact ⟨z, hw, rfl, rfl, fun j y u hy hu ρ => by
      match j, hy, hu with
      | 0, hy, hu => cases hy; cases hu; exact .v _ _⟩⟩
theorem uS {t : TypeId} (ht : P.underlying t = some .string) (hc : P.cellsOf t = 1) : jv enc P W t (fun z : ByteArray => .v (.string z)) 1 (fun z => z.size ≤ maxLen) :=
  ⟨hc, fun n cs x h => by
    obtain ⟨z, rfl, -, hw⟩ := DataW.trod_string ht h
    exact ⟨z, hw, rfl, rfl, fun j y u hy hu ρ => by
      match j, hy, hu with
      | 0, hy, hu => cases hy; cases hu; exact .v _ _⟩⟩
theorem qy {t : TypeId} {α β : Type} {av : α → AV} {av' : β → AV} {size : Nat} {Q : α → Prop} {Q' : β → Prop} (g : α → β) (h : jv enc P W t av size Q) (hav : ∀ a, av' (g a) = av a) (hQ : ∀ a, Q a → Q' (g a)) : jv enc P W t av' size Q' :=
  ⟨h.1, fun n cs x hx => by
    obtain ⟨a, q, h1, h2, h3⟩ := h.2 n cs x hx
    exact ⟨g a, hQ a q, h1, by rw [hav]; exact h2, fun j y u hy hu ρ => h3 j y u (by rw [← hav]; exact hy) hu ρ⟩⟩
theorem qX (off : Nat) : mM enc P W [] off (fun _ : Unit => []) 0 (fun _ => True) := fun n cs hl hf => ⟨(), trivial, rfl, fun j y u hy => by simp at hy⟩
theorem yM {f : Field} {fs : List Field} {t : TypeId} {off s0 s1 : Nat} {α β : Type} {av : α → AV} {cl : β → List AV} {Q0 : α → Prop} {Q1 : β → Prop} (h0 : jv enc P W t av s0 Q0) (hft : f.type = t) (hfo : f.offset = off) (h1 : mM enc P W fs (off + s0) cl s1 Q1) :
    mM enc P W (f :: fs) off (fun x : α × β => (av x.1).cells ++ cl x.2) (s0 + s1) (fun x => Q0 x.1 ∧ Q1 x.2) := fun n cs hl hf => by
  obtain ⟨x, hx⟩ := hf f (by simp)
  rw [hft, hfo, h0.1] at hx
  obtain ⟨a, qa, l1, l2, r1⟩ := h0.2 n _ x hx
  obtain ⟨b, qb, l3, r2⟩ := h1 n cs (by omega) fun f' hm => hf f' (by simp [hm])
  refine ⟨(a, b), ⟨qa, qb⟩, by simp [l2, l3], fun j y u hy hu ρ => ?_⟩
  by_cases hj : j < s0
  · dsimp only at hy
    rw [List.getElem?_append_left (by rw [l2]; exact hj)] at hy
    exact r1 j y u hy (by rw [List.getElem?_take_of_lt hj, List.getElem?_drop]; exact hu) ρ
  · dsimp only at hy
    rw [List.getElem?_append_right (by rw [l2]; omega), l2] at hy
    exact r2 (j - s0) y u hy (by rw [show off + s0 + (j - s0) = off + j by omega]; exact hu) ρ
theorem jp {t : TypeId} {fs : Array Field} {α : Type} {cl : α → List AV} {size : Nat} {Q : α → Prop} (ht : P.underlying t = some (.struct fs)) (hc : P.cellsOf t = size) (h : mM enc P W fs.toList 0 cl size Q) : jv enc P W t (fun a => .ag (cl a)) size Q :=
  ⟨hc, fun n cs x hx => by
    obtain ⟨xs, n', _, rfl, hl, hlen, hf⟩ := DataW.trod_struct ht hx
    obtain ⟨a, q, l, r⟩ := h n' cs (by rw [Nat.zero_add, ← hc]; exact hl) fun f hm => by
      obtain ⟨i, hi⟩ := List.getElem?_of_mem hm
      have hlt := yL hi
      have := hf i f (by rw [← Array.getElem?_toList]; exact hi)
      have hx : i < xs.length := by rw [hlen]; simpa using hlt
      rw [List.getElem?_eq_getElem hx] at this
      exact ⟨_, this⟩
    exact ⟨a, q, by rw [← hc]; exact hl, l, fun j y u hy hu => r j y u hy (by rw [Nat.zero_add]; exact hu)⟩⟩
theorem aS {t e : TypeId} {α : Type} [Inhabited α] {av : α → AV} {size : Nat} {Q : α → Prop} (ht : P.underlying t = some (.slice e)) (hc : P.cellsOf t = 1) (hs : 0 < size) (h : jv enc P W e av size Q) : jv enc P W t (fun L : List α => .sl size (L.map av)) 1 (fun L => L.length ≤ maxLen ∧ ∀ a ∈ L, Q a) :=
  ⟨hc, fun fuel cs x hx => by
    have fin : ∀ (L : List α) (v : Value), (L.length ≤ maxLen ∧ ∀ a ∈ L, Q a) → (∀ ρ, Rep (memM W) ρ (.sl size (L.map av)) v) → ∃ a : List α, (a.length ≤ maxLen ∧ ∀ x ∈ a, Q x) ∧ [v].length = 1 ∧ (AV.sl size (a.map av)).cells.length = 1 ∧ ∀ (j : Nat) (y : AV) (u : Value), (AV.sl size (a.map av)).cells[j]? = some y → [v][j]? = some u → ∀ ρ, Rep (memM W) ρ y u := fun L v hq hR =>
      ⟨L, hq, rfl, rfl, fun j y u hy hu ρ => by
        match j, hy, hu with
        | 0, hy, hu => cases hy; cases hu; exact hR ρ⟩
    rcases open_slice ht hx with ⟨rfl, hx⟩ | ⟨a, len, cap, m, n, D, Pl, rfl, _, hl, hm, hmm, hx, hi⟩
    · exact fin [] _ ⟨by simp, by simp⟩ fun ρ => .sl ρ size [] none 0 (fun _ _ => undef) (by simp) (by simp) (fun k x j y hx => by simp at hx) (fun k x hx => by simp at hx)
    · simp only [if_true] at hmm
      subst hmm
      obtain ⟨g, hg⟩ := choose_lt (α := α × List Value) (n := len) (p := fun i q => W.cells? 0 (a.add (i * size)) size = some q.2 ∧ Q q.1 ∧ (av q.1).cells.length = size ∧ ∀ (j : Nat) (y : AV) (u : Value), (av q.1).cells[j]? = some y → q.2[j]? = some u → ∀ ρ, Rep (memM W) ρ y u) (fun i hil => by
        obtain ⟨cs', h1, h2⟩ := hi i (by omega)
        obtain ⟨b, q, l1, l2, r⟩ := h.2 _ _ _ h2
        rw [h.1] at h1
        exact ⟨(b, cs'), h1, q, l2, r⟩)
      have hlen : ((List.range len).map fun i => (g i).1).length = len := by simp
      have hat : ∀ (k : Nat) (x : AV), (((List.range len).map fun i => (g i).1).map av)[k]? = some x → k < len ∧ x = av (g k).1 := fun k x e => by
        have hk := yL e
        rw [List.length_map, hlen] at hk
        rw [List.getElem?_map, List.getElem?_map, List.getElem?_range hk] at e
        simp at e
        exact ⟨hk, e.symm⟩
      refine fin ((List.range len).map fun i => (g i).1) _ ⟨by rw [hlen]; omega, fun x hx => ?_⟩ fun ρ => ?_
      · rw [List.mem_map] at hx
        obtain ⟨i, hi', rfl⟩ := hx
        exact (hg i (List.mem_range.1 hi')).2.1
      · have key := Rep.sl (M := memM W) ρ size (((List.range len).map fun i => (g i).1).map av) (some a) m (fun k j => ((g k).2[j]?).getD undef) (by rw [List.length_map, hlen]; exact hl) hm (fun k x j y hx hy => by
          obtain ⟨hk, rfl⟩ := hat k x hx
          obtain ⟨c1, c2, c3, c4⟩ := hg k hk
          obtain ⟨_, c5, _⟩ := World.cells?_some c1
          have hj : j < size := by rw [← c3]; exact yL hy
          obtain ⟨u, hu⟩ := zc (L := (g k).2) (k := j) (by rw [(World.cells?_some c1).2.1]; exact hj)
          simp only [hu, Option.getD_some]
          exact c4 j y u hy hu noρ) (fun k x hx => by
          obtain ⟨hk, rfl⟩ := hat k x hx
          obtain ⟨c1, c2, c3, c4⟩ := hg k hk
          refine ⟨c3, ?_⟩
          obtain ⟨b, o, s⟩ := a
          obtain ⟨_, _, hc0⟩ := World.cells?_some c1
          have hat2 : ∀ j, j < size → ∃ u, (g k).2[j]? = some u ∧ W.cell? ((Addr.mk b o s).add (k * size) |>.add j) = some u := fun j hj => by
            obtain ⟨u, hu⟩ := zc (L := (g k).2) (k := j) (by rw [(World.cells?_some c1).2.1]; exact hj)
            exact ⟨u, hu, (hc0 j hj).trans hu⟩
          have c10 := (hg 0 (by omega)).1
          obtain ⟨_, c11, hc00⟩ := World.cells?_some c10
          obtain ⟨u0, hu0⟩ := zc (L := (g 0).2) (k := 0) (by rw [c11]; exact hs)
          have h00 := (hc00 0 hs).trans hu0
          have hspot : s = none := by simpa [Addr.add] using World.cell?_spot h00
          subst hspot
          have hat3 : ∀ j, j < size → ∃ arr, memM W b = some arr ∧ arr[o + k * size + j]? = some (((g k).2[j]?).getD undef) := fun j hj => by
            obtain ⟨u, hu, hcu⟩ := hat2 j hj
            rw [add_plain, add_plain] at hcu
            obtain ⟨arr, a1, a2⟩ := kL hcu
            exact ⟨arr, a1, by rw [a2, hu]; rfl⟩
          obtain ⟨arr, a1, -⟩ := hat3 0 hs
          refine ⟨b, o, arr, rfl, a1, fun j hj => ?_⟩
          obtain ⟨arr', b1, b2⟩ := hat3 j hj
          rw [a1] at b1; injection b1 with b1; subst b1
          exact b2)
        rw [List.length_map, hlen] at key
        exact key⟩
theorem fT {t : TypeId} {fs : Array Field} {α : Type} {cl : α → List AV} {size : Nat} {Q : α → Prop} {base : Nat} {v : Value} {d : DataW H} {p : List MemPlace} (ht : P.underlying t = some (.struct fs)) (h : jv enc P W t (fun a => .ag (cl a)) size Q) (hv : Value.okWide P W .any base t v) (hx : DataW.Trod enc P W 0 (fun _ => true) true t v d p) :
    ∃ a, Q a ∧ ∀ ρ, Rep (memM W) ρ (.ag (cl a)) v := by
  obtain ⟨cs, rfl, -⟩ := okWide_struct ht hv
  obtain ⟨fuel, hf⟩ := hx
  obtain ⟨a, q, l1, l2, r⟩ := h.2 fuel _ _ hf
  refine ⟨a, q, fun ρ => ?_⟩
  have := Rep.ag (M := memM W) ρ (cl a) cs.toList (l1.trans l2.symm) fun j x u hx hu => r j x u hx hu ρ
  exact this
end
end Go.Proofs.YtjamibeffalhaaaGreatDoor
