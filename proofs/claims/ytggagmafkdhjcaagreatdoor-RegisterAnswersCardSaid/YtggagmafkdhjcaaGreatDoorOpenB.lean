/- Arguments of any shape (numbers, strings, structs, slices, slices of structs that hold slices) as values of the abstract machine; nothing of the program stands here. -/
import Derived.Test.YtggagmafkdhjcaaGreatDoorOpen
set_option linter.unusedVariables false
set_option linter.unusedSimpArgs false
namespace Go.Proofs.YtggagmafkdhjcaaGreatDoor
open Go Go.ChangeShapes Go.WideShapes Go.ChangeAt Go.RowKit Go.Deep
section
variable {H : Type} (enc : TypeId × Value → H) (P : Program) (W : World)
/-- Whatever came in at this type reads as some value of the abstract machine. -/
def Opens (t : TypeId) {α : Type} (av : α → AV) (size : Nat) (Q : α → Prop) : Prop :=
  P.cellsOf t = size ∧ ∀ (n : Nat) (cs : List Value) (x : DataW H × List MemPlace), DataW.trod enc P W 0 (fun _ => true) true n t cs = some x →
    ∃ a, Q a ∧ cs.length = size ∧ (av a).cells.length = size ∧ ∀ (j : Nat) (y : AV) (u : Value), (av a).cells[j]? = some y → cs[j]? = some u → ∀ ρ, Rep (memM W) ρ y u
def FOpens (fs : List Field) (off : Nat) {α : Type} (cl : α → List AV) (size : Nat) (Q : α → Prop) : Prop :=
  ∀ (n : Nat) (cs : List Value), cs.length = off + size → (∀ f ∈ fs, ∃ x, DataW.trod enc P W 0 (fun _ => true) true n f.type ((cs.drop f.offset).take (P.cellsOf f.type)) = some x) →
    ∃ a, Q a ∧ (cl a).length = size ∧ ∀ (j : Nat) (y : AV) (u : Value), (cl a)[j]? = some y → cs[off + j]? = some u → ∀ ρ, Rep (memM W) ρ y u
variable {enc P W}
theorem opens_int {t : TypeId} {k : IntKind} (ht : P.underlying t = some (.int k)) (hc : P.cellsOf t = 1) : Opens enc P W t (fun z : Int => .v (.int k z)) 1 (fun z => (Lit.int k z).wf = true) :=
  ⟨hc, fun n cs x h => by
    obtain ⟨z, rfl, -, hw⟩ := DataW.trod_int ht h
    exact ⟨z, hw, rfl, rfl, fun j y u hy hu ρ => by
      match j, hy, hu with
      | 0, hy, hu => cases hy; cases hu; exact .v _ _⟩⟩
theorem opens_str {t : TypeId} (ht : P.underlying t = some .string) (hc : P.cellsOf t = 1) : Opens enc P W t (fun z : ByteArray => .v (.string z)) 1 (fun z => z.size ≤ maxLen) :=
  ⟨hc, fun n cs x h => by
    obtain ⟨z, rfl, -, hw⟩ := DataW.trod_string ht h
    exact ⟨z, hw, rfl, rfl, fun j y u hy hu ρ => by
      match j, hy, hu with
      | 0, hy, hu => cases hy; cases hu; exact .v _ _⟩⟩
theorem opens_map {t : TypeId} {α β : Type} {av : α → AV} {av' : β → AV} {size : Nat} {Q : α → Prop} {Q' : β → Prop} (g : α → β) (h : Opens enc P W t av size Q) (hav : ∀ a, av' (g a) = av a) (hQ : ∀ a, Q a → Q' (g a)) : Opens enc P W t av' size Q' :=
  ⟨h.1, fun n cs x hx => by
    obtain ⟨a, q, h1, h2, h3⟩ := h.2 n cs x hx
    exact ⟨g a, hQ a q, h1, by rw [hav]; exact h2, fun j y u hy hu ρ => h3 j y u (by rw [← hav]; exact hy) hu ρ⟩⟩
theorem fopens_nil (off : Nat) : FOpens enc P W [] off (fun _ : Unit => []) 0 (fun _ => True) := fun n cs hl hf => ⟨(), trivial, rfl, fun j y u hy => by simp at hy⟩
theorem fopens_cons {f : Field} {fs : List Field} {t : TypeId} {off s0 s1 : Nat} {α β : Type} {av : α → AV} {cl : β → List AV} {Q0 : α → Prop} {Q1 : β → Prop} (h0 : Opens enc P W t av s0 Q0) (hft : f.type = t) (hfo : f.offset = off) (h1 : FOpens enc P W fs (off + s0) cl s1 Q1) :
    FOpens enc P W (f :: fs) off (fun x : α × β => (av x.1).cells ++ cl x.2) (s0 + s1) (fun x => Q0 x.1 ∧ Q1 x.2) := fun n cs hl hf => by
  obtain ⟨x, hx⟩ := hf f (by simp)
  rw [hft, hfo, h0.1] at hx
  obtain ⟨a, qa, l1, l2, r1⟩ := h0.2 n _ x hx
  obtain ⟨b, qb, l3, r2⟩ := h1 n cs (by omega) fun f' hm => hf f' (by simp [hm])
  refine ⟨(a, b), ⟨qa, qb⟩, by simp [l2, l3], fun j y u hy hu ρ => ?_⟩
  by_cases hj : j < s0
  · dsimp only at hy
    rw [List.getElem?_append_left (by rw [l2]; exact hj)] at hy
    exact r1 j y u hy (by rw [List.getElem?_take_of_lt hj, List.getElem?_drop]; exact hu) ρ
  · dsimp only at hy
    rw [List.getElem?_append_right (by rw [l2]; omega), l2] at hy
    exact r2 (j - s0) y u hy (by rw [show off + s0 + (j - s0) = off + j by omega]; exact hu) ρ
theorem opens_struct {t : TypeId} {fs : Array Field} {α : Type} {cl : α → List AV} {size : Nat} {Q : α → Prop} (ht : P.underlying t = some (.struct fs)) (hc : P.cellsOf t = size) (h : FOpens enc P W fs.toList 0 cl size Q) : Opens enc P W t (fun a => .ag (cl a)) size Q :=
  ⟨hc, fun n cs x hx => by
    obtain ⟨xs, n', _, rfl, hl, hlen, hf⟩ := DataW.trod_struct ht hx
    obtain ⟨a, q, l, r⟩ := h n' cs (by rw [Nat.zero_add, ← hc]; exact hl) fun f hm => by
      obtain ⟨i, hi⟩ := List.getElem?_of_mem hm
      have hlt := lt_at hi
      have := hf i f (by rw [← Array.getElem?_toList]; exact hi)
      have hx : i < xs.length := by rw [hlen]; simpa using hlt
      rw [List.getElem?_eq_getElem hx] at this
      exact ⟨_, this⟩
    exact ⟨a, q, by rw [← hc]; exact hl, l, fun j y u hy hu => r j y u hy (by rw [Nat.zero_add]; exact hu)⟩⟩
theorem opens_slice {t e : TypeId} {α : Type} [Inhabited α] {av : α → AV} {size : Nat} {Q : α → Prop} (ht : P.underlying t = some (.slice e)) (hc : P.cellsOf t = 1) (hs : 0 < size) (h : Opens enc P W e av size Q) : Opens enc P W t (fun L : List α => .sl size (L.map av)) 1 (fun L => L.length ≤ maxLen ∧ ∀ a ∈ L, Q a) :=
  ⟨hc, fun fuel cs x hx => by
    have fin : ∀ (L : List α) (v : Value), (L.length ≤ maxLen ∧ ∀ a ∈ L, Q a) → (∀ ρ, Rep (memM W) ρ (.sl size (L.map av)) v) → ∃ a : List α, (a.length ≤ maxLen ∧ ∀ x ∈ a, Q x) ∧ [v].length = 1 ∧ (AV.sl size (a.map av)).cells.length = 1 ∧ ∀ (j : Nat) (y : AV) (u : Value), (AV.sl size (a.map av)).cells[j]? = some y → [v][j]? = some u → ∀ ρ, Rep (memM W) ρ y u := fun L v hq hR =>
      ⟨L, hq, rfl, rfl, fun j y u hy hu ρ => by
        match j, hy, hu with
        | 0, hy, hu => cases hy; cases hu; exact hR ρ⟩
    rcases open_slice ht hx with ⟨rfl, hx⟩ | ⟨a, len, cap, m, n, D, Pl, rfl, _, hl, hm, hmm, hx, hi⟩
    · exact fin [] _ ⟨by simp, by simp⟩ fun ρ => .sl ρ size [] none 0 (fun _ _ => undef) (by simp) (by simp) (fun k x j y hx => by simp at hx) (fun k x hx => by simp at hx)
    · simp only [if_true] at hmm
      subst hmm
      obtain ⟨g, hg⟩ := choose_lt (α := α × List Value) (n := len) (p := fun i q => W.cells? 0 (a.add (i * size)) size = some q.2 ∧ Q q.1 ∧ (av q.1).cells.length = size ∧ ∀ (j : Nat) (y : AV) (u : Value), (av q.1).cells[j]? = some y → q.2[j]? = some u → ∀ ρ, Rep (memM W) ρ y u) (fun i hil => by
        obtain ⟨cs', h1, h2⟩ := hi i (by omega)
        obtain ⟨b, q, l1, l2, r⟩ := h.2 _ _ _ h2
        rw [h.1] at h1
        exact ⟨(b, cs'), h1, q, l2, r⟩)
      have hlen : ((List.range len).map fun i => (g i).1).length = len := by simp
      have hat : ∀ (k : Nat) (x : AV), (((List.range len).map fun i => (g i).1).map av)[k]? = some x → k < len ∧ x = av (g k).1 := fun k x e => by
        have hk := lt_at e
        rw [List.length_map, hlen] at hk
        rw [List.getElem?_map, List.getElem?_map, List.getElem?_range hk] at e
        simp at e
        exact ⟨hk, e.symm⟩
      refine fin ((List.range len).map fun i => (g i).1) _ ⟨by rw [hlen]; omega, fun x hx => ?_⟩ fun ρ => ?_
      · rw [List.mem_map] at hx
        obtain ⟨i, hi', rfl⟩ := hx
        exact (hg i (List.mem_range.1 hi')).2.1
      · have key := Rep.sl (M := memM W) ρ size (((List.range len).map fun i => (g i).1).map av) (some a) m (fun k j => ((g k).2[j]?).getD undef) (by rw [List.length_map, hlen]; exact hl) hm (fun k x j y hx hy => by
          obtain ⟨hk, rfl⟩ := hat k x hx
          obtain ⟨c1, c2, c3, c4⟩ := hg k hk
          obtain ⟨_, c5, _⟩ := World.cells?_some c1
          have hj : j < size := by rw [← c3]; exact lt_at hy
          obtain ⟨u, hu⟩ := some_at (L := (g k).2) (k := j) (by rw [(World.cells?_some c1).2.1]; exact hj)
          simp only [hu, Option.getD_some]
          exact c4 j y u hy hu noρ) (fun k x hx => by
          obtain ⟨hk, rfl⟩ := hat k x hx
          obtain ⟨c1, c2, c3, c4⟩ := hg k hk
          refine ⟨c3, ?_⟩
          obtain ⟨b, o, s⟩ := a
          obtain ⟨_, _, hc0⟩ := World.cells?_some c1
          have hat2 : ∀ j, j < size → ∃ u, (g k).2[j]? = some u ∧ W.cell? ((Addr.mk b o s).add (k * size) |>.add j) = some u := fun j hj => by
            obtain ⟨u, hu⟩ := some_at (L := (g k).2) (k := j) (by rw [(World.cells?_some c1).2.1]; exact hj)
            exact ⟨u, hu, (hc0 j hj).trans hu⟩
          have c10 := (hg 0 (by omega)).1
          obtain ⟨_, c11, hc00⟩ := World.cells?_some c10
          obtain ⟨u0, hu0⟩ := some_at (L := (g 0).2) (k := 0) (by rw [c11]; exact hs)
          have h00 := (hc00 0 hs).trans hu0
          have hspot : s = none := by simpa [Addr.add] using World.cell?_spot h00
          subst hspot
          have hat3 : ∀ j, j < size → ∃ arr, memM W b = some arr ∧ arr[o + k * size + j]? = some (((g k).2[j]?).getD undef) := fun j hj => by
            obtain ⟨u, hu, hcu⟩ := hat2 j hj
            rw [add_plain, add_plain] at hcu
            obtain ⟨arr, a1, a2⟩ := memM_cell hcu
            exact ⟨arr, a1, by rw [a2, hu]; rfl⟩
          obtain ⟨arr, a1, -⟩ := hat3 0 hs
          refine ⟨b, o, arr, rfl, a1, fun j hj => ?_⟩
          obtain ⟨arr', b1, b2⟩ := hat3 j hj
          rw [a1] at b1; injection b1 with b1; subst b1
          exact b2)
        rw [List.length_map, hlen] at key
        exact key⟩
theorem open_struct {t : TypeId} {fs : Array Field} {α : Type} {cl : α → List AV} {size : Nat} {Q : α → Prop} {base : Nat} {v : Value} {d : DataW H} {p : List MemPlace} (ht : P.underlying t = some (.struct fs)) (h : Opens enc P W t (fun a => .ag (cl a)) size Q) (hv : Value.okWide P W .any base t v) (hx : DataW.Trod enc P W 0 (fun _ => true) true t v d p) :
    ∃ a, Q a ∧ ∀ ρ, Rep (memM W) ρ (.ag (cl a)) v := by
  obtain ⟨cs, rfl, -⟩ := okWide_struct ht hv
  obtain ⟨fuel, hf⟩ := hx
  obtain ⟨a, q, l1, l2, r⟩ := h.2 fuel _ _ hf
  refine ⟨a, q, fun ρ => ?_⟩
  have := Rep.ag (M := memM W) ρ (cl a) cs.toList (l1.trans l2.symm) fun j x u hx hu => r j x u hx hu ρ
  exact this
theorem open_strv {t : TypeId} {base : Nat} {v : Value} {d : DataW H} {p : List MemPlace} (ht : P.underlying t = some .string) (hv : Value.okWide P W .any base t v) (hx : DataW.Trod enc P W 0 (fun _ => true) true t v d p) : ∃ s, v = .string s ∧ s.size ≤ maxLen := by
  obtain ⟨s, rfl⟩ := okWide_string ht hv
  obtain ⟨fuel, hf⟩ := hx
  obtain ⟨z, e, -, hw⟩ := DataW.trod_string ht hf
  simp [Value.cells] at e
  subst e
  exact ⟨_, rfl, hw⟩
end
end Go.Proofs.YtggagmafkdhjcaaGreatDoor
