/- An abstract machine for the walks: values without addresses, boxes by their site, and what of memory they stand for; nothing of the program stands here; conditions: none. | A region that draws its order, walked once in the text's order, where operations that are not ordered do not meet; nothing of the program stands here; conditions: none. | A region that draws its order: its walk in the text's order is sound for each order; loops; nothing of the program stands here; conditions: none. | The steps of the abstract machine in memory: a value laid, a box made, a block made that stays, a cell stored; nothing of the program stands here; conditions: none. -/
import Derived.Test.YtnafokinifbfhaaGreatDoorLib
import Derived.Orders
import Derived.LoopN
set_option linter.unusedVariables false
set_option linter.unusedSimpArgs false
namespace Go.Proofs.YtnafokinifbfhaaGreatDoor
open Go Go.RowKit
inductive AV where
  | v (x : Value)
  | ag (cs : List AV)
  | tu (xs : List AV)
  | sl (sz : Nat) (L : List AV)
  | ptr (s k off : Nat)
  | ep (cs : List AV)
  | own (s k : Nat)
  | fn (f : FuncId) (cap : List AV)
  | junk
  | po (s k off : Nat)
  | os (s k sz lo hi : Nat)
  | bs (s k sz len : Nat)
  | qp (s k off : Nat)
def AV.cells : AV → List AV
  | .ag cs => cs
  | x => [x]
def noρ : Nat → Nat → Option Value := fun _ _ => none
inductive Rep (M : Nat → Option (Array Value)) : (Nat → Nat → Option Value) → AV → Value → Prop where
  | v (ρ) (x : Value) : Rep M ρ (.v x) x
  | ag (ρ) (cs : List AV) (vs : List Value) (hl : vs.length = cs.length) (h : ∀ (j : Nat) (x : AV) (u : Value), cs[j]? = some x → vs[j]? = some u → Rep M ρ x u) : Rep M ρ (.ag cs) (.agg ⟨vs⟩)
  | tu (ρ) (cs : List AV) (vs : List Value) (hl : vs.length = cs.length) (h : ∀ (j : Nat) (x : AV) (u : Value), cs[j]? = some x → vs[j]? = some u → Rep M ρ x u) : Rep M ρ (.tu cs) (.tuple ⟨vs⟩)
  | sl (ρ) (sz : Nat) (L : List AV) (A : Option Addr) (c : Nat) (us : Nat → Nat → Value) (hc : L.length ≤ c) (hm : c ≤ maxLen)
      (h : ∀ (k : Nat) (x : AV) (j : Nat) (y : AV), L[k]? = some x → x.cells[j]? = some y → Rep M noρ y (us k j))
      (hM : ∀ (k : Nat) (x : AV), L[k]? = some x → x.cells.length = sz ∧ ∃ b o arr, A = some ⟨b, o, none⟩ ∧ M b = some arr ∧ ∀ j, j < sz → arr[o + k * sz + j]? = some (us k j)) : Rep M ρ (.sl sz L) (.slice A L.length c)
  | ptr (ρ) (s k off g : Nat) (h : ρ s k = some (.pointer (some ⟨g, 0, none⟩))) : Rep M ρ (.ptr s k off) (.pointer (some ⟨g, off, none⟩))
  | ep (ρ) (cs : List AV) (b o : Nat) (arr : Array Value) (us : Nat → Value) (hM : M b = some arr) (ha : ∀ j, j < cs.length → arr[o + j]? = some (us j)) (h : ∀ (j : Nat) (x : AV), cs[j]? = some x → Rep M noρ x (us j)) : Rep M ρ (.ep cs) (.pointer (some ⟨b, o, none⟩))
  | own (ρ) (s k : Nat) (u : Value) (h : ρ s k = some u) (h1 : u.oneCell' = true) : Rep M ρ (.own s k) u
  | fn (ρ) (f : FuncId) (cs : List AV) (vs : List Value) (hl : vs.length = cs.length) (h : ∀ (j : Nat) (x : AV) (u : Value), cs[j]? = some x → vs[j]? = some u → Rep M ρ x u) : Rep M ρ (.fn f cs) (.func (.func f) #[] ⟨vs⟩)
  | junk (ρ) (u : Value) : Rep M ρ .junk u
  | po (ρ) (s k off g l c : Nat) (h : ρ s k = some (.slice (some ⟨g, 0, none⟩) l c)) : Rep M ρ (.po s k off) (.pointer (some ⟨g, off, none⟩))
  | os (ρ) (s k sz lo hi g l c : Nat) (A : Option Addr) (h : ρ s k = some (.slice (some ⟨g, 0, none⟩) l c)) (hA : lo < hi → A = some ⟨g, lo * sz, none⟩) (h0 : lo = 0 → A = some ⟨g, 0, none⟩) : Rep M ρ (.os s k sz lo hi) (.slice A (hi - lo) (c - lo))
  | bs (ρ) (s k sz len g c : Nat) (h : ρ s k = some (.pointer (some ⟨g, 0, none⟩))) (hc : len ≤ c) (hm : c ≤ maxLen) : Rep M ρ (.bs s k sz len) (.slice (some ⟨g, 0, none⟩) len c)
  | qp (ρ) (s k off g o l c : Nat) (h : ρ s k = some (.slice (some ⟨g, o, none⟩) l c)) : Rep M ρ (.qp s k off) (.pointer (some ⟨g, o + off, none⟩))
section
variable {M M' : Nat → Option (Array Value)} {ρ : Nat → Nat → Option Value}
theorem Rep.mono {x : AV} {u : Value} (h : Rep M ρ x u) (hM : ∀ g a, M g = some a → M' g = some a) : ∀ {ρ' : Nat → Nat → Option Value}, (∀ s k y, ρ s k = some y → ρ' s k = some y) → Rep M' ρ' x u := by
  induction h with
  | v ρ x => exact fun _ => .v _ x
  | ag ρ cs vs hl h ih => exact fun hr => .ag _ cs vs hl fun j x u a b => ih j x u a b hr
  | tu ρ cs vs hl h ih => exact fun hr => .tu _ cs vs hl fun j x u a b => ih j x u a b hr
  | sl ρ sz L A c us hc hm h hA ih => exact fun hr => .sl _ sz L A c us hc hm (fun k x j y a b => ih k x j y a b (fun _ _ _ e => e)) (fun k x a => match hA k x a with
      | ⟨h1, b, o, arr, h2, h3, h4⟩ => ⟨h1, b, o, arr, h2, hM _ _ h3, h4⟩)
  | ptr ρ s k off g h => exact fun hr => .ptr _ s k off g (hr _ _ _ h)
  | ep ρ cs b o arr us h1 h2 h3 ih => exact fun hr => .ep _ cs b o arr us (hM _ _ h1) h2 fun j x a => ih j x a (fun _ _ _ e => e)
  | po ρ s k off g l c h => exact fun hr => .po _ s k off g l c (hr _ _ _ h)
  | os ρ s k sz lo hi g l c A h hA h0 => exact fun hr => .os _ s k sz lo hi g l c A (hr _ _ _ h) hA h0
  | bs ρ s k sz len g c h hc hm => exact fun hr => .bs _ s k sz len g c (hr _ _ _ h) hc hm
  | qp ρ s k off g o l c h => exact fun hr => .qp _ s k off g o l c (hr _ _ _ h)
  | own ρ s k u h h1 => exact fun hr => .own _ s k u (hr _ _ _ h) h1
  | fn ρ f cs vs hl h ih => exact fun hr => .fn _ f cs vs hl fun j x u a b => ih j x u a b hr
  | junk ρ u => exact fun _ => .junk _ u
theorem Rep.v_inv {x u : Value} (h : Rep M ρ (.v x) u) : u = x := by cases h; rfl
theorem Rep.mono' {x : AV} {u : Value} (h : Rep M ρ x u) (hM : ∀ g a, M g = some a → M' g = some a) {ρ' : Nat → Nat → Option Value} (hr : ∀ s k y, ρ s k = some y → ρ' s k = some y) : Rep M' ρ' x u := h.mono hM hr
end
/-- What a block holds that is no row of cells: a map's entries, in the order in which they came; a walk through a map; a walk through a string. -/
inductive AO where
  | mp (L : List (Value × Value))
  | it (s k since : Nat) (seen : List Nat) (last : Nat)
  | si (t : ByteArray) (pos : Nat)
  | by_ (L : List Int)
  | bd (t : TypeId) (s k : Nat)
  | mq (L : List (Value × Nat × Nat × Nat))
  | qu (e sz : Nat) (Q : List AV)
inductive Cont where
  | dead
  | box (cs : List AV)
  | buf (e : TypeId) (sz : Nat) (L : List AV)
  | ob (o : AO)
@[reducible] def Cont.mp (L : List (Value × Value)) : Cont := .ob (.mp L)
structure HC where
  k : Nat
  c : Cont
structure AS where
  T : Nat → AV
  H : Nat → HC
def AS.put (σ : AS) : Option Nat → AV → AS
  | none, _ => σ
  | some i, y => ⟨fun n => bif Nat.beq n i then y else σ.T n, σ.H⟩
def AS.hup (σ : AS) (s : Nat) (h : HC) : AS := ⟨σ.T, fun n => bif Nat.beq n s then h else σ.H n⟩
theorem zV {a b : Nat} (h : a ≠ b) : Nat.beq a b = false := by
  cases hb : Nat.beq a b
  · rfl
  · exact absurd (Nat.eq_of_beq_eq_true hb) h
structure Ctx where
  w0 : World
  gs : List Nat
  rv : List Value
  G : Nat → Option (List Value)
  M0 : Nat → Option (Array Value)
def vblk : Value → Option Nat
  | .pointer (some a) => some a.block
  | .slice (some a) _ _ => some a.block
  | .map (some g) => some g
  | _ => none
/-- A value whose block is the frame's to write: new in it, or handed to it. -/
def Ctx.mine (X : Ctx) (u : Value) : Prop := ∀ g, vblk u = some g → X.w0.heap.size ≤ g ∨ g ∈ X.gs
def nY (X : Ctx) (w : World) (e : TypeId) (sz : Nat) (u : Value) (m : Nat) (us : List Value) : Prop := w.ownsRow 0 e sz u m us ∧ X.mine u
def zI (ρ : Nat → Nat → Option Value) (s : Nat) (h : HC) : Option Nat := match h.c with
  | .dead => none
  | _ => (ρ s h.k).bind vblk
def wJ (X : Ctx) (M : Nat → Option (Array Value)) (ρ : Nat → Nat → Option Value) (w : World) (s k : Nat) (cs : List AV) : Prop :=
  ∃ g t us, ρ s k = some (.pointer (some ⟨g, 0, none⟩)) ∧ w.heap[g]? = some (.cells ⟨us⟩ t (0, 0)) ∧ M g = none ∧ (X.w0.heap.size ≤ g ∨ g ∈ X.gs) ∧ us.length = cs.length ∧
    (∀ (j : Nat) (x : AV) (u : Value), cs[j]? = some x → us[j]? = some u → Rep M ρ x u)
def eP (X : Ctx) (M : Nat → Option (Array Value)) (ρ : Nat → Nat → Option Value) (w : World) (s k : Nat) (e sz : Nat) (L : List AV) : Prop :=
  ∃ u us, ρ s k = some u ∧ nY X w e sz u L.length us ∧ (∀ g, vblk u = some g → M g = none) ∧ us.length = (L.flatMap AV.cells).length ∧ (∀ x ∈ L, x.cells.length = sz) ∧
    (∀ (j : Nat) (x : AV) (y : Value), (L.flatMap AV.cells)[j]? = some x → us[j]? = some y → Rep M noρ x y ∧ y.oneCell' = true)
/-- A map of the frame's own: its entries, in the order in which they came; each one bears its place as its stamp. -/
def ObIn (M : Nat → Option (Array Value)) (ρ : Nat → Nat → Option Value) (w : World) (v : Value) (g : Nat) : AO → Prop
  | .mp L => v = .map (some g) ∧ ∃ es : Array MapEntry, w.heap[g]? = some (.map es es.size) ∧ es.toList.map (fun e => (e.key, e.val)) = L ∧ ∀ (i : Nat) (e : MapEntry), es[i]? = some e → e.born = i
  | .it s' k' since seen last => v = .pointer (some ⟨g, 0, none⟩) ∧ ∃ gm, ρ s' k' = some (.map (some gm)) ∧ w.heap[g]? = some (.mapIter (some gm) since ⟨seen⟩ last)
  | .si t pos => v = .pointer (some ⟨g, 0, none⟩) ∧ w.heap[g]? = some (.stringIter t pos)
  | .by_ L => ∃ cap cur t fz, v = .slice (some ⟨g, 0, none⟩) L.length cap ∧ w.heap[g]? = some (.cells ⟨cur⟩ t fz) ∧ L.length ≤ cap ∧ cur.length = cap ∧ (fz = (0, 0) ∨ cap ≤ fz.1) ∧ ∀ (j : Nat) (z : Int), L[j]? = some z → cur[j]? = some (.int .u8 z)
  | .bd t s' k' => v = .pointer (some ⟨g, 0, none⟩) ∧ ∃ p u, ρ s' k' = some u ∧ w.heap[g]? = some (.cells ⟨[p, u]⟩ t (0, 0)) ∧ (p = .pointer none ∨ p = .pointer (some ⟨g, 0, none⟩))
  | .mq L => v = .map (some g) ∧ ∃ es : Array MapEntry, w.heap[g]? = some (.map es es.size) ∧ es.size = L.length ∧ (∀ (i : Nat) (e : MapEntry), es[i]? = some e → e.born = i) ∧
      ∀ (i : Nat) (e : MapEntry) (p : Value × Nat × Nat × Nat), es[i]? = some e → L[i]? = some p → e.key = p.1 ∧ ∃ gp, ρ p.2.1 p.2.2.1 = some (.pointer (some ⟨gp, 0, none⟩)) ∧ e.val = .pointer (some ⟨gp, p.2.2.2, none⟩)
  | .qu e sz Q => ∃ o c cur, v = .slice (some ⟨g, o, none⟩) Q.length c ∧ w.heap[g]? = some (.cells ⟨cur⟩ e (0, 0)) ∧ Q.length ≤ c ∧ c ≤ maxLen ∧ o + c * sz ≤ cur.length ∧ (∀ x ∈ Q, x.cells.length = sz) ∧
      ∀ (j : Nat) (x : AV), (Q.flatMap AV.cells)[j]? = some x → ∃ u, cur[o + j]? = some u ∧ Rep M noρ x u ∧ u.oneCell' = true
def ObAt (X : Ctx) (M : Nat → Option (Array Value)) (ρ : Nat → Nat → Option Value) (w : World) (s k : Nat) (o : AO) : Prop :=
  ∃ v g, M g = none ∧ ρ s k = some v ∧ vblk v = some g ∧ X.w0.heap.size ≤ g ∧ ObIn M ρ w v g o
def refB : Nat := 1000000
structure Rel (X : Ctx) (n : Nat) (M : Nat → Option (Array Value)) (ρ : Nat → Nat → Option Value) (σ : AS) (a : Act) (w : World) : Prop where
  live : ∀ g arr, M g = some arr → ∃ t fr, w.heap[g]? = some (.cells arr t fr)
  sz : a.tmps.size = n
  tm : ∀ i, Rep M ρ (σ.T i) (a.tmps.getD i undef)
  box : ∀ s k cs, σ.H s = ⟨k, .box cs⟩ → wJ X M ρ w s k cs
  buf : ∀ s k e sz L, σ.H s = ⟨k, .buf e sz L⟩ → eP X M ρ w s k e sz L
  sep : ∀ s s' g, zI ρ s (σ.H s) = some g → zI ρ s' (σ.H s') = some g → s = s'
  fresh : ∀ s k, (σ.H s).k < k → ρ s k = none
  glob : ∀ g vs, X.G g = some vs → M g = some ⟨vs⟩
  base : ∀ g, g < X.w0.heap.size → g ∉ X.gs → M g = X.M0 g
  root : ∀ i v, X.rv[i]? = some v → ρ (refB + i) 0 = some v
  os : w.os = X.w0.os
  tape : w.tape = X.w0.tape
  output : w.output = X.w0.output
  size : X.w0.heap.size ≤ w.heap.size
  frame : ∀ g, g < X.w0.heap.size → g ∉ X.gs → w.heap[g]? = X.w0.heap[g]?
  df : a.defers = []
  mp : ∀ s k o, σ.H s = ⟨k, .ob o⟩ → ObAt X M ρ w s k o
structure Rule where
  tr : List (Nat × AV)
  hr : List (Nat × HC)
  dst : Option Nat
  y : AV
  hw : List (Nat × HC)
def Rule.fires (r : Rule) (σ : AS) : Prop := (∀ p ∈ r.tr, σ.T p.1 = p.2) ∧ (∀ p ∈ r.hr, σ.H p.1 = p.2)
def hups : List (Nat × HC) → AS → AS
  | [], σ => σ
  | p :: l, σ => hups l (σ.hup p.1 p.2)
def Rule.apply (r : Rule) (σ : AS) : AS := (hups r.hw σ).put r.dst r.y
def qi (P : Program) (X : Ctx) (n : Nat) (ops : Array Oper) (o : Oper) (r : Rule) : Prop :=
  (∀ d, o.dst = some d → d < n) → ∀ M ρ σ a w, r.fires σ → Rel X n M ρ σ a w → ∀ K Q, (∀ M' ρ' a' w', Rel X n M' ρ' (r.apply σ) a' w' → K a' w') →
    (if Region.wanted o (yielded ops a.tmps) = true then Oper.wp P o a w K Q else K (a.put o.dst undef) w)
def aU (P : Program) (X : Ctx) (n : Nat) (ops : Array Oper) : List Oper → List Rule → AS → (List Rule → AS → Prop) → Prop
  | [], acc, σ, K => K acc.reverse σ
  | o :: os, acc, σ, K => ∃ r, qi P X n ops o r ∧ r.fires σ ∧ aU P X n ops os (r :: acc) (r.apply σ) K
structure Exec (P : Program) (X : Ctx) (n : Nat) (ops : Array Oper) (os : List Oper) (acc : List Rule) (σ : AS) (K : List Rule → AS → Prop) : Prop where
  run : aU P X n ops os acc σ K
def runR : List Rule → AS → AS
  | [], σ => σ
  | r :: rs, σ => runR rs (r.apply σ)
theorem jk : ∀ (rs : List Rule) (r : Rule) (σ : AS), runR (rs ++ [r]) σ = r.apply (runR rs σ)
  | [], _, _ => rfl
  | x :: rs, r, σ => jk rs r (x.apply σ)
theorem aU.rules {P : Program} {X : Ctx} {n : Nat} {ops : Array Oper} {K : List Rule → AS → Prop} : ∀ (os : List Oper) (acc : List Rule) (σ0 : AS), aU P X n ops os acc (runR acc.reverse σ0) K →
    ∃ rs : List Rule, rs.length = acc.length + os.length ∧ (∃ ts, rs = acc.reverse ++ ts) ∧ (∀ i o, os[i]? = some o → ∃ r, rs[acc.length + i]? = some r ∧ qi P X n ops o r ∧ r.fires (runR (rs.take (acc.length + i)) σ0)) ∧ K rs (runR rs σ0)
  | [], acc, σ0, h => ⟨acc.reverse, by simp, ⟨[], by simp⟩, by simp, h⟩
  | o :: os, acc, σ0, h => by
    obtain ⟨r, h1, h2, h3⟩ := h
    have e : r.apply (runR acc.reverse σ0) = runR (r :: acc).reverse σ0 := by rw [List.reverse_cons, jk]
    rw [e] at h3
    obtain ⟨rs, hl, ⟨ts, ht⟩, hr, hK⟩ := aU.rules os (r :: acc) σ0 h3
    rw [List.reverse_cons, List.append_assoc] at ht
    refine ⟨rs, by simp at hl ⊢; omega, ⟨_, ht⟩, fun i o' ho => ?_, hK⟩
    cases i with
    | zero =>
      simp at ho
      subst ho
      refine ⟨r, by rw [ht, List.getElem?_append_right (by simp)]; simp, h1, ?_⟩
      rw [ht, List.take_append_of_le_length (by simp), List.take_of_length_le (by simp)]
      exact h2
    | succ i =>
      have := hr i o' (by simpa using ho)
      rw [show (r :: acc).length + i = acc.length + (i + 1) by simp; omega] at this
      exact this
def qI (n : Nat) (ops : List Oper) : Bool := ops.all fun o => match o.dst with | none => true | some d => Nat.blt d n
theorem aN {n : Nat} {ops : Array Oper} (h : qI n ops.toList = true) {i : Nat} {o : Oper} (ho : ops[i]? = some o) : ∀ d, o.dst = some d → d < n := by
  intro d hd
  have hm : o ∈ ops.toList := by simpa using Array.mem_of_getElem? ho
  have := List.all_eq_true.1 h o hm
  rw [hd] at this
  exact Nat.le_of_ble_eq_true this
/-- A region in the text's order. -/
theorem oL {P : Program} {X : Ctx} {n : Nat} {ops : Array Oper} {rs : List Rule} {σ : AS} {Q : Exit → Act → World → Prop} (hl : rs.length = ops.size) (hd : qI n ops.toList = true)
    (hr : ∀ i o, ops[i]? = some o → ∃ r, rs[i]? = some r ∧ qi P X n ops o r ∧ r.fires (runR (rs.take i) σ))
    (hQ : ∀ M ρ a w, Rel X n M ρ (runR rs σ) a w → Q .normal a w) :
    ∀ (m i : Nat), i + m = ops.size → ∀ M ρ a w, Rel X n M ρ (runR (rs.take i) σ) a w → wpOps P ops Q (List.range' i m) a w := by
  intro m
  induction m with
  | zero =>
    intro i hi M ρ a w h
    rw [List.take_of_length_le (by omega)] at h
    exact hQ M ρ a w h
  | succ m ih =>
    intro i hi M ρ a w h
    have hlt : i < ops.size := by omega
    have ho : ops[i]? = some ops[i] := Array.getElem?_eq_getElem hlt
    obtain ⟨r, h1, h2, h3⟩ := hr i _ ho
    rw [List.range'_succ]
    unfold wpOps
    rw [ho]
    simp only
    have e : runR (rs.take (i + 1)) σ = r.apply (runR (rs.take i) σ) := by
      rw [yr h1, jk]
    have := h2 (aN hd ho) M ρ _ a w h3 h (wpOps P ops Q (List.range' (i + 1) m)) Q (fun M' ρ' a' w' hh => ih (i + 1) (by omega) M' ρ' a' w' (by rw [e]; exact hh))
    split
    · rename_i hw; rw [if_pos hw] at this; exact .inl this
    · rename_i hw; rw [if_neg hw] at this; exact this
structure AWp (P : Program) (X : Ctx) (n : Nat) (c : Code) (Q : Exit → AS → Prop) (σ : AS) : Prop where
  run : ∀ M ρ a w, Rel X n M ρ σ a w → c.wp P (fun e a' w' => ∃ M' ρ' σ', Rel X n M' ρ' σ' a' w' ∧ Q e σ') a w
section
variable {P : Program} {X : Ctx} {n : Nat} {σ : AS} {Q : Exit → AS → Prop}
theorem pQ {id : Nat} {ops : Array Oper} (hd : qI n ops.toList = true) (h : Exec P X n ops ops.toList [] σ (fun _ τ => Q .normal τ)) : AWp P X n (.region id ops false) Q σ := by
  refine ⟨?_⟩
  intro M ρ a w hR
  obtain ⟨rs, hl, _, hr, hK⟩ := aU.rules ops.toList [] σ h.run
  simp at hl hr
  refine wp_region ?_
  rw [List.range_eq_range']
  exact oL (X := X) (rs := rs) (σ := σ) hl hd (fun i o ho => hr i o ho) (fun M' ρ' a' w' hh => ⟨M', ρ', _, hh, hK⟩) ops.size 0 (by omega) M ρ a w (by simpa [runR] using hR)
def mH (K : AS → Prop) (Q : Exit → AS → Prop) : Exit → AS → Prop
  | .normal, τ => K τ
  | e, τ => Q e τ
def qk (id : Nat) (Q : Exit → AS → Prop) : Exit → AS → Prop
  | .exit id', τ => bif Nat.beq id' id then Q .normal τ else Q (.exit id') τ
  | e, τ => Q e τ
theorem zp {x y : Code} (h : AWp P X n x (mH (AWp P X n y Q) Q) σ) : AWp P X n (.seq x y) Q σ := by
  refine ⟨?_⟩
  intro M ρ a w hR
  refine wp_seq (wp_mono (h.run M ρ a w hR) ?_)
  rintro e a' w' ⟨M', ρ', σ', hR', hQ⟩
  cases e <;> first | exact hQ.run M' ρ' a' w' hR' | exact ⟨M', ρ', σ', hR', hQ⟩
theorem yT (h : Q .normal σ) : AWp P X n .skip Q σ := ⟨fun M ρ a w hR => wp_skip ⟨M, ρ, σ, hR, h⟩⟩
theorem aT {id : Nat} (h : Q (.exit id) σ) : AWp P X n (.exit id) Q σ := ⟨fun M ρ a w hR => wp_exit ⟨M, ρ, σ, hR, h⟩⟩
theorem yF (h : Q .ret σ) : AWp P X n .ret Q σ := ⟨fun M ρ a w hR => wp_ret ⟨M, ρ, σ, hR, h⟩⟩
theorem yi {id : Nat} {c : Code} (h : AWp P X n c (qk id Q) σ) : AWp P X n (.block id c) Q σ := by
  refine ⟨?_⟩
  intro M ρ a w hR
  refine wp_block (wp_mono (h.run M ρ a w hR) ?_)
  rintro e a' w' ⟨M', ρ', σ', hR', hQ⟩
  cases e with
  | exit id' =>
    unfold qk at hQ
    show if id' = id then _ else _
    by_cases he : id' = id
    · subst he
      rw [if_pos rfl]
      exact ⟨M', ρ', σ', hR', by simpa using hQ⟩
    · rw [if_neg he]
      have hb : Nat.beq id' id = false := zV he
      change bif Nat.beq id' id then _ else _ at hQ
      rw [hb] at hQ
      exact ⟨M', ρ', σ', hR', hQ⟩
  | _ => exact ⟨M', ρ', σ', hR', hQ⟩
theorem kJ {t : Nat} {x y : Code} {b : Bool} (hc : σ.T t = .v (.bool b)) (h1 : b = true → AWp P X n x Q σ) (h2 : b = false → AWp P X n y Q σ) : AWp P X n (.cond (.tmp t) x y) Q σ := by
  refine ⟨?_⟩
  intro M ρ a w hR
  have h0 := hR.tm t
  rw [hc] at h0
  have he : a.eval (.tmp t) = .bool b := by
    show a.tmps.getD t undef = _
    exact h0.v_inv
  exact wp_cond_split he (fun e => (h1 e).run M ρ a w hR) (fun e => (h2 e).run M ρ a w hR)
end
end Go.Proofs.YtnafokinifbfhaaGreatDoor
namespace Go.Proofs.YtnafokinifbfhaaGreatDoor
open Go Go.RowKit
def Rule.wT (r : Rule) (t : Nat) : Option AV := match r.dst with
  | some d => bif Nat.beq t d then some r.y else none
  | none => none
def yC : List (Nat × HC) → Nat → Option HC
  | [], _ => none
  | p :: l, s => match yC l s with
    | some h => some h
    | none => bif Nat.beq s p.1 then some p.2 else none
theorem qt : ∀ (l : List (Nat × HC)) (σ : AS), (hups l σ).T = σ.T
  | [], _ => rfl
  | p :: l, σ => qt l _
theorem mA : ∀ (l : List (Nat × HC)) (σ : AS) (s : Nat), (hups l σ).H s = (yC l s).getD (σ.H s)
  | [], _, _ => rfl
  | p :: l, σ, s => by
    unfold hups yC
    rw [mA l]
    cases h : yC l s with
    | some x => rfl
    | none =>
      simp only [AS.hup]
      cases Nat.beq s p.1 <;> rfl
theorem dJ (r : Rule) (σ : AS) (t : Nat) : (r.apply σ).T t = (r.wT t).getD (σ.T t) := by
  unfold Rule.apply Rule.wT
  cases r.dst with
  | none => simp [AS.put, qt]
  | some d =>
    simp only [AS.put, qt]
    cases Nat.beq t d <;> rfl
theorem bD (r : Rule) (σ : AS) (s : Nat) : (r.apply σ).H s = (yC r.hw s).getD (σ.H s) := by
  unfold Rule.apply
  rw [← mA]
  cases r.dst <;> rfl
def valN {α : Type} (f : Nat → Option α) (d : α) : Nat → α
  | 0 => d
  | m + 1 => (f m).getD (valN f d m)
theorem yo {α : Type} {f g : Nat → Option α} {d : α} : ∀ {m : Nat}, (∀ j, j < m → f j = g j) → valN f d m = valN g d m
  | 0, _ => rfl
  | m + 1, h => by rw [valN, valN, h m (by omega), yo fun j hj => h j (by omega)]
theorem jo {α : Type} {f : Nat → Option α} {d : α} {i : Nat} : ∀ {m : Nat}, i ≤ m → (∀ j, i ≤ j → j < m → f j = none) → valN f d m = valN f d i
  | 0, h, _ => by obtain rfl : i = 0 := by omega
                  rfl
  | m + 1, h, hn => by
    by_cases he : i = m + 1
    · rw [he]
    · rw [valN, hn m (by omega) (by omega)]
      exact jo (by omega) fun j h1 h2 => hn j h1 (by omega)
theorem cN {α : Type} {f : Nat → Option α} {d y : α} {i m : Nat} (hi : i < m) (hf : f i = some y) (hn : ∀ j, i < j → j < m → f j = none) : valN f d m = y := by
  rw [jo (i := i + 1) (by omega) fun j h1 h2 => hn j (by omega) h2, valN, hf]; rfl
def runN (rs : List Rule) (p : Nat → Bool) (σ : AS) : Nat → AS
  | 0 => σ
  | m + 1 => match rs[m]? with
    | some r => bif p m then r.apply (runN rs p σ m) else runN rs p σ m
    | none => runN rs p σ m
theorem cP (rs : List Rule) (p : Nat → Bool) (σ : AS) (t : Nat) : ∀ m, (runN rs p σ m).T t = valN (fun j => bif p j then (rs[j]?).bind (·.wT t) else none) (σ.T t) m
  | 0 => rfl
  | m + 1 => by
    rw [runN, valN, ← cP rs p σ t m]
    cases h : rs[m]? with
    | none => cases p m <;> rfl
    | some r =>
      cases p m
      · rfl
      · simp only [cond_true, Option.bind_some]; exact dJ r _ t
theorem cS (rs : List Rule) (p : Nat → Bool) (σ : AS) (s : Nat) : ∀ m, (runN rs p σ m).H s = valN (fun j => bif p j then (rs[j]?).bind (fun r => yC r.hw s) else none) (σ.H s) m
  | 0 => rfl
  | m + 1 => by
    rw [runN, valN, ← cS rs p σ s m]
    cases h : rs[m]? with
    | none => cases p m <;> rfl
    | some r =>
      cases p m
      · rfl
      · simp only [cond_true, Option.bind_some]; exact bD r _ s
theorem qQ (rs : List Rule) (p : Nat → Bool) (σ : AS) : ∀ m, (∀ j, j < m → p j = true) → runN rs p σ m = runR (rs.take m) σ
  | 0, _ => rfl
  | m + 1, h => by
    rw [runN, qQ rs p σ m fun j hj => h j (by omega), h m (by omega)]
    cases hr : rs[m]? with
    | none =>
      have : rs.length ≤ m := by simpa using hr
      rw [List.take_of_length_le this, List.take_of_length_le (by omega)]
    | some r => rw [yr hr, jk]; rfl
def disj (l l' : List Nat) : Bool := l.all fun x => l'.all fun y => !Nat.beq x y
theorem yz {l l' : List Nat} (h : disj l l' = true) {x : Nat} (h1 : x ∈ l) (h2 : x ∈ l') : False := by
  have := List.all_eq_true.1 (List.all_eq_true.1 h x h1) x h2
  simp [Nat.beq_refl] at this
def apart (r q : Rule) : Bool :=
  disj r.dst.toList (q.tr.map (·.1) ++ q.dst.toList) && disj q.dst.toList (r.tr.map (·.1)) && disj (r.hw.map (·.1)) (q.hr.map (·.1) ++ q.hw.map (·.1)) && disj (q.hw.map (·.1)) (r.hr.map (·.1))
theorem dH {r : Rule} {t : Nat} {y : AV} (h : r.wT t = some y) : t ∈ r.dst.toList := by
  unfold Rule.wT at h
  cases hd : r.dst with
  | none => rw [hd] at h; cases h
  | some d =>
    rw [hd] at h
    cases hb : Nat.beq t d
    · simp [hb] at h
    · simp [Nat.eq_of_beq_eq_true hb]
theorem yw : ∀ {l : List (Nat × HC)} {s : Nat} {h : HC}, yC l s = some h → s ∈ l.map (·.1)
  | p :: l, s, h, e => by
    unfold yC at e
    cases hl : yC l s with
    | some x => exact List.mem_cons_of_mem _ (yw hl)
    | none =>
      rw [hl] at e
      cases hb : Nat.beq s p.1
      · simp [hb] at e
      · rw [Nat.eq_of_beq_eq_true hb]; simp
def force {α : Type} (n : Nat) (k : Nat → α) : α := match n with
  | 0 => k 0
  | m + 1 => k (m + 1)
theorem cB {α : Type} (n : Nat) (k : Nat → α) : force n k = k n := by cases n <;> rfl
def bef1 (acc : List Nat) : List Edge → Nat → Nat
  | [], s => s
  | e :: es, s => bif Region.binds .any e then force (s ||| 2 ^ e.on ||| acc.getD e.on 0) (bef1 acc es) else bef1 acc es s
def befs : List Oper → List Nat → List Nat
  | [], acc => acc
  | o :: os, acc => force (bef1 acc o.after.toList 0) fun b => befs os (acc ++ [b])
inductive Pre (ops : Array Oper) : Nat → Nat → Prop where
  | one {i j : Nat} {o : Oper} {e : Edge} (ho : ops[j]? = some o) (he : e ∈ o.after) (hb : Region.binds .any e = true) (hi : e.on = i) : Pre ops i j
  | more {i m j : Nat} {o : Oper} {e : Edge} (h : Pre ops i m) (ho : ops[j]? = some o) (he : e ∈ o.after) (hb : Region.binds .any e = true) (hi : e.on = m) : Pre ops i j
theorem aJ {ops : Array Oper} {acc : List Nat} {j : Nat} {o : Oper} (ho : ops[j]? = some o) (hacc : ∀ m i, (acc.getD m 0).testBit i = true → Pre ops i m) :
    ∀ (es : List Edge) (s : Nat), (∀ e ∈ es, e ∈ o.after) → (∀ i, s.testBit i = true → Pre ops i j) → ∀ i, (bef1 acc es s).testBit i = true → Pre ops i j
  | [], s, _, hs, i, h => hs i h
  | e :: es, s, he, hs, i, h => by
    unfold bef1 at h
    cases hb : Region.binds .any e
    · rw [hb] at h
      exact aJ ho hacc es s (fun x hx => he x (by simp [hx])) hs i h
    · rw [hb, cond_true, cB] at h
      refine aJ ho hacc es _ (fun x hx => he x (by simp [hx])) (fun i hi => ?_) i h
      rw [Nat.testBit_or, Nat.testBit_or, Bool.or_eq_true, Bool.or_eq_true] at hi
      rcases hi with (h1 | h1) | h1
      · exact hs i h1
      · rw [Nat.testBit_two_pow] at h1
        exact .one ho (he e (by simp)) hb (by simpa using h1)
      · exact .more (hacc e.on i h1) ho (he e (by simp)) hb rfl
theorem eM {ops : Array Oper} : ∀ (os : List Oper) (acc : List Nat), (∀ k, ops[acc.length + k]? = os[k]?) → (∀ m i, (acc.getD m 0).testBit i = true → Pre ops i m) →
    ∀ m i, ((befs os acc).getD m 0).testBit i = true → Pre ops i m
  | [], acc, _, hacc => hacc
  | o :: os, acc, hk, hacc => by
    unfold befs
    rw [cB]
    refine eM os _ (fun k => by have := hk (k + 1); simpa [Nat.add_assoc, Nat.add_comm 1 k] using this) (fun m i h => ?_)
    rw [List.getD_eq_getElem?_getD, List.getElem?_append] at h
    split at h
    · exact hacc m i (by rw [List.getD_eq_getElem?_getD]; exact h)
    · rename_i hm
      have ho : ops[acc.length]? = some o := by simpa using hk 0
      by_cases he : m = acc.length
      · subst he
        simp at h
        exact aJ ho hacc _ 0 (fun e he => by simpa using he) (by simp) i h
      · rw [List.getElem?_eq_none (by simp; omega)] at h
        simp at h
def aR (ops : List Oper) (rs : List Rule) : Bool :=
  let b := befs ops []
  (rs.zipIdx.all fun (q, j) => force (b.getD j 0) fun bj => rs.zipIdx.all fun (r, i) => !Nat.blt i j || Nat.testBit bj i || apart r q) &&
  ops.zipIdx.all fun (o, j) => o.after.toList.all fun e => !Region.binds .any e || Nat.blt e.on j
theorem eQ {ops : Array Oper} {rs : List Rule} (h : aR ops.toList rs = true) {i j : Nat} {r q : Rule} (hi : rs[i]? = some r) (hj : rs[j]? = some q) (hlt : i < j) : Pre ops i j ∨ apart r q = true := by
  unfold aR at h
  rw [Bool.and_eq_true] at h
  have h1 := List.all_eq_true.1 h.1 (q, j) (by rw [List.mem_zipIdx_iff_getElem?]; simpa using hj)
  simp only [cB] at h1
  have h2 := List.all_eq_true.1 h1 (r, i) (by rw [List.mem_zipIdx_iff_getElem?]; simpa using hi)
  simp only [Bool.or_eq_true] at h2
  rcases h2 with (h3 | h3) | h3
  · have : Nat.blt i j = true := by simp [Nat.blt, Nat.ble_eq]; omega
    simp [this] at h3
  · exact .inl (eM ops.toList [] (fun k => by simp) (by simp) j i h3)
  · exact .inr h3
theorem back_at {ops : Array Oper} {rs : List Rule} (h : aR ops.toList rs = true) {j : Nat} {o : Oper} (ho : ops[j]? = some o) {e : Edge} (he : e ∈ o.after) (hb : Region.binds .any e = true) : e.on < j := by
  unfold aR at h
  rw [Bool.and_eq_true] at h
  have h1 := List.all_eq_true.1 h.2 (o, j) (by rw [List.mem_zipIdx_iff_getElem?]; simpa using ho)
  have h2 := List.all_eq_true.1 h1 e (by simpa using he)
  rw [hb] at h2
  simp only [Bool.not_true, Bool.false_or] at h2
  exact Nat.le_of_ble_eq_true h2
end Go.Proofs.YtnafokinifbfhaaGreatDoor
namespace Go.Proofs.YtnafokinifbfhaaGreatDoor
open Go Go.RowKit
theorem dB {σ τ : AS} (h1 : ∀ t, σ.T t = τ.T t) (h2 : ∀ s, σ.H s = τ.H s) : σ = τ := by
  cases σ; cases τ
  simp only [AS.mk.injEq]
  exact ⟨funext h1, funext h2⟩
theorem kU {r q : Rule} (h : apart r q = true) {t : Nat} {y : AV} (hw : r.wT t = some y) : t ∉ q.tr.map (·.1) ∧ q.wT t = none := by
  unfold apart at h
  simp only [Bool.and_eq_true] at h
  have hm := dH hw
  refine ⟨fun hx => yz h.1.1.1 hm (List.mem_append_left _ hx), ?_⟩
  cases hq : q.wT t with
  | none => rfl
  | some z => exact (yz h.1.1.1 hm (List.mem_append_right _ (dH hq))).elim
theorem pB {r q : Rule} (h : apart r q = true) {t : Nat} {y : AV} (hw : q.wT t = some y) : t ∉ r.tr.map (·.1) ∧ r.wT t = none := by
  unfold apart at h
  simp only [Bool.and_eq_true] at h
  have hm := dH hw
  refine ⟨fun hx => yz h.1.1.2 hm hx, ?_⟩
  cases hq : r.wT t with
  | none => rfl
  | some z => exact (yz h.1.1.1 (dH hq) (List.mem_append_right _ hm)).elim
theorem kM {r q : Rule} (h : apart r q = true) {s : Nat} {y : HC} (hw : yC r.hw s = some y) : s ∉ q.hr.map (·.1) ∧ yC q.hw s = none := by
  unfold apart at h
  simp only [Bool.and_eq_true] at h
  have hm := yw hw
  refine ⟨fun hx => yz h.1.2 hm (List.mem_append_left _ hx), ?_⟩
  cases hq : yC q.hw s with
  | none => rfl
  | some z => exact (yz h.1.2 hm (List.mem_append_right _ (yw hq))).elim
theorem pF {r q : Rule} (h : apart r q = true) {s : Nat} {y : HC} (hw : yC q.hw s = some y) : s ∉ r.hr.map (·.1) ∧ yC r.hw s = none := by
  unfold apart at h
  simp only [Bool.and_eq_true] at h
  have hm := yw hw
  refine ⟨fun hx => yz h.2 hm hx, ?_⟩
  cases hq : yC r.hw s with
  | none => rfl
  | some z => exact (yz h.1.2 (yw hq) (List.mem_append_right _ hm)).elim
section
variable {P : Program} {X : Ctx} {n : Nat} {ops : Array Oper} {rs : List Rule} {σ : AS} {Q : Exit → Act → World → Prop}
/-- An operation that is ready fires where some of those that stand before it, and some behind it that are not ordered with it, have been taken. -/
theorem tS {D : Nat → Bool} (hl : rs.length = ops.size) (hind : aR ops.toList rs = true) {i : Nat} {r : Rule} (hr : rs[i]? = some r) (hf : r.fires (runR (rs.take i) σ))
    (hpre : ∀ m, Pre ops m i → D m = true) (hD : D i = false) (hdown : ∀ m j, Pre ops m j → D j = true → D m = true) : r.fires (runN rs D σ ops.size) := by
  have hi : i < ops.size := by have := zM hr; omega
  rw [← qQ rs (fun _ => true) σ i fun _ _ => rfl] at hf
  constructor
  · intro p hp
    have h1 := hf.1 p hp
    rw [cP] at h1 ⊢
    rw [← h1]
    rw [jo (i := i) (by omega) (fun j h2 h3 => by
      cases hj : D j
      · rfl
      · simp only [cond_true]
        cases hq : rs[j]? with
        | none => rfl
        | some q =>
          simp only [Option.bind_some]
          cases hw : q.wT p.1 with
          | none => rfl
          | some y =>
            exfalso
            have hne : i ≠ j := by rintro rfl; rw [hD] at hj; cases hj
            rcases eQ hind hr hq (by omega) with h4 | h4
            · rw [hdown i j h4 hj] at hD; cases hD
            · exact (pB h4 hw).1 (List.mem_map_of_mem hp))]
    refine yo fun j hj => ?_
    simp only [cond_true]
    cases hq : rs[j]? with
    | none => cases D j <;> rfl
    | some q =>
      cases hw : q.wT p.1 with
      | none => cases D j <;> simp [hw]
      | some y =>
        rcases eQ hind hq hr hj with h4 | h4
        · rw [hpre j h4]; rfl
        · exact absurd (List.mem_map_of_mem hp) (kU h4 hw).1
  · intro p hp
    have h1 := hf.2 p hp
    rw [cS] at h1 ⊢
    rw [← h1]
    rw [jo (i := i) (by omega) (fun j h2 h3 => by
      cases hj : D j
      · rfl
      · simp only [cond_true]
        cases hq : rs[j]? with
        | none => rfl
        | some q =>
          simp only [Option.bind_some]
          cases hw : yC q.hw p.1 with
          | none => rfl
          | some y =>
            exfalso
            have hne : i ≠ j := by rintro rfl; rw [hD] at hj; cases hj
            rcases eQ hind hr hq (by omega) with h4 | h4
            · rw [hdown i j h4 hj] at hD; cases hD
            · exact (pF h4 hw).1 (List.mem_map_of_mem hp))]
    refine yo fun j hj => ?_
    simp only [cond_true]
    cases hq : rs[j]? with
    | none => cases D j <;> rfl
    | some q =>
      cases hw : yC q.hw p.1 with
      | none => cases D j <;> simp [hw]
      | some y =>
        rcases eQ hind hq hr hj with h4 | h4
        · rw [hpre j h4]; rfl
        · exact absurd (List.mem_map_of_mem hp) (kM h4 hw).1
theorem uB {D : Nat → Bool} (hl : rs.length = ops.size) (hind : aR ops.toList rs = true) {i : Nat} {r : Rule} (hr : rs[i]? = some r)
    (hD : D i = false) (hdown : ∀ m j, Pre ops m j → D j = true → D m = true) : r.apply (runN rs D σ ops.size) = runN rs (fun j => Nat.beq j i || D j) σ ops.size := by
  have hi : i < ops.size := by have := zM hr; omega
  have hself : Nat.beq i i = true := Nat.beq_refl i
  have hlate : ∀ j, i < j → D j = true → ∀ q, rs[j]? = some q → apart r q = true := fun j h1 hj q hq => by
    rcases eQ hind hr hq h1 with h4 | h4
    · rw [hdown i j h4 hj] at hD; cases hD
    · exact h4
  refine dB (fun t => ?_) (fun s => ?_)
  · rw [dJ, cP, cP]
    cases hw : r.wT t with
    | some y =>
      refine (cN (i := i) hi (by simp only [hself, Bool.true_or, cond_true, hr, Option.bind_some]; exact hw) (fun j h1 h2 => ?_)).symm
      rw [show Nat.beq j i = false from zV (by omega), Bool.false_or]
      cases hj : D j
      · rfl
      · simp only [cond_true]
        cases hq : rs[j]? with
        | none => rfl
        | some q => exact (kU (hlate j h1 hj q hq) hw).2
    | none =>
      refine yo fun j hj => ?_
      by_cases he : j = i
      · subst he
        simp only [hD, hself, Bool.true_or, cond_true, cond_false, hr, Option.bind_some, hw]
      · rw [zV he, Bool.false_or]
  · rw [bD, cS, cS]
    cases hw : yC r.hw s with
    | some y =>
      refine (cN (i := i) hi (by simp only [hself, Bool.true_or, cond_true, hr, Option.bind_some]; exact hw) (fun j h1 h2 => ?_)).symm
      rw [show Nat.beq j i = false from zV (by omega), Bool.false_or]
      cases hj : D j
      · rfl
      · simp only [cond_true]
        cases hq : rs[j]? with
        | none => rfl
        | some q => exact (kM (hlate j h1 hj q hq) hw).2
    | none =>
      refine yo fun j hj => ?_
      by_cases he : j = i
      · subst he
        simp only [hD, hself, Bool.true_or, cond_true, cond_false, hr, Option.bind_some, hw]
      · rw [zV he, Bool.false_or]
def jp (l : List Bool) : Nat := l.countP (fun b => !b)
theorem cJ : ∀ (l : List Bool) (i : Nat), l[i]? = some false → jp (l.set i true) + 1 = jp l
  | [], i, h => by simp at h
  | b :: l, 0, h => by
    simp at h
    subst h
    simp [jp, List.countP_cons]
  | b :: l, i + 1, h => by
    have := cJ l i (by simpa using h)
    simp only [jp, List.set_cons_succ, List.countP_cons] at this ⊢
    omega
theorem aI : ∀ (l : List Bool), jp l = 0 → ∀ i, i < l.length → l[i]? = some true
  | [], _, i, h => by simp at h
  | b :: l, h0, i, hi => by
    simp only [jp, List.countP_cons] at h0
    cases b
    · simp at h0
    · cases i with
      | zero => rfl
      | succ i => simpa using aI l (by simpa [jp] using h0) i (by simpa using hi)
theorem iD (hl : rs.length = ops.size) (hind : aR ops.toList rs = true) {listed : Array Bool} (hs : listed.size = ops.size) (hr : Region.ready .any ops listed = []) :
    ∀ j, j < ops.size → listed.getD j false = true := by
  intro j
  induction j using Nat.strongRecOn with
  | _ j ih =>
    intro hj
    cases hc : listed.getD j false with
    | true => rfl
    | false =>
      exfalso
      have hm : j ∈ Region.ready .any ops listed := by
        rw [mem_ready]
        refine ⟨?_, ops[j], Array.getElem?_eq_getElem hj, fun e he hb => ?_⟩
        · simp only [Array.getD] at hc ⊢
          rw [dif_pos (by omega)] at hc ⊢
          exact hc
        · have := back_at hind (Array.getElem?_eq_getElem hj) he hb
          exact ih e.on this (by omega)
      rw [hr] at hm
      cases hm
theorem uG (hl : rs.length = ops.size) (hd : qI n ops.toList = true) (hind : aR ops.toList rs = true)
    (hr : ∀ i o, ops[i]? = some o → ∃ r, rs[i]? = some r ∧ qi P X n ops o r ∧ r.fires (runR (rs.take i) σ))
    (hQ : ∀ M ρ a w, Rel X n M ρ (runR rs σ) a w → Q .normal a w) :
    ∀ (fuel : Nat) (listed : Array Bool), listed.size = ops.size → jp listed.toList ≤ fuel → (∀ m j, Pre ops m j → listed.getD j false = true → listed.getD m false = true) →
      ∀ M ρ a w, Rel X n M ρ (runN rs (fun j => listed.getD j false) σ ops.size) a w → wpAny P .any ops Q fuel listed a w := by
  have hdone : ∀ (listed : Array Bool), listed.size = ops.size → Region.ready .any ops listed = [] → ∀ M ρ a w, Rel X n M ρ (runN rs (fun j => listed.getD j false) σ ops.size) a w → Q .normal a w := by
    intro listed hs h0 M ρ a w hR
    rw [qQ rs _ σ ops.size (fun j hj => iD hl hind hs h0 j hj), List.take_of_length_le (by omega)] at hR
    exact hQ M ρ a w hR
  intro fuel
  induction fuel with
  | zero =>
    intro listed hs hn hdown M ρ a w hR
    have hall : Region.ready .any ops listed = [] := by
      rw [List.eq_nil_iff_forall_not_mem]
      intro j hj
      rw [mem_ready] at hj
      obtain ⟨h1, o, ho, _⟩ := hj
      have hlt : j < ops.size := (Array.getElem?_eq_some_iff.1 ho).1
      have h2 := aI listed.toList (by omega) j (by simpa using (by omega))
      simp only [Array.getD] at h1
      rw [dif_pos (by omega)] at h1
      simp at h2
      rw [Array.getElem?_eq_getElem (by omega)] at h2
      injection h2 with h2
      simp [h2] at h1
    exact ⟨hall, hdone listed hs hall M ρ a w hR⟩
  | succ fuel ih =>
    intro listed hs hn hdown M ρ a w hR
    refine ⟨fun h0 => hdone listed hs h0 M ρ a w hR, fun i hi => ?_⟩
    rw [mem_ready] at hi
    obtain ⟨h1, o, ho, hpr⟩ := hi
    have hlt : i < ops.size := (Array.getElem?_eq_some_iff.1 ho).1
    have hDi : listed.getD i false = false := by
      simp only [Array.getD] at h1 ⊢
      rw [dif_pos (by omega)] at h1 ⊢
      exact h1
    have hpre : ∀ m, Pre ops m i → listed.getD m false = true := by
      intro m hm
      cases hm with
      | one ho' he hb hi' =>
        rw [ho] at ho'; injection ho' with ho'; subst ho'
        rw [← hi']; exact hpr _ he hb
      | more hp ho' he hb hi' =>
        rw [ho] at ho'; injection ho' with ho'; subst ho'
        exact hdown _ _ hp (by rw [← hi']; exact hpr _ he hb)
    obtain ⟨r, hri, hG, hf⟩ := hr i o ho
    have hfi := tS (D := fun j => listed.getD j false) hl hind hri hf hpre hDi hdown
    have hap := uB (D := fun j => listed.getD j false) (σ := σ) hl hind hri hDi hdown
    have hset : ∀ j, (listed.setIfInBounds i true).getD j false = (Nat.beq j i || listed.getD j false) := by
      intro j
      by_cases he : j = i
      · subst he
        rw [Nat.beq_refl]
        simp [hs, hlt]
      · rw [zV he, getD_set_ne false (Ne.symm he), Bool.false_or]
    have hcount : jp (listed.setIfInBounds i true).toList ≤ fuel := by
      have h3 : listed.toList[i]? = some false := by
        simp only [Array.getD] at hDi
        rw [dif_pos (by omega)] at hDi
        simp
        rw [Array.getElem?_eq_getElem (by omega)]
        exact congrArg some hDi
      have := cJ listed.toList i h3
      rw [Array.toList_setIfInBounds]
      omega
    have hdown' : ∀ m j, Pre ops m j → (listed.setIfInBounds i true).getD j false = true → (listed.setIfInBounds i true).getD m false = true := by
      intro m j hp hj
      rw [hset] at hj ⊢
      rw [Bool.or_eq_true] at hj ⊢
      rcases hj with hj | hj
      · rw [Nat.eq_of_beq_eq_true hj] at hp
        exact .inr (hpre m hp)
      · exact .inr (hdown m j hp hj)
    have := hG (aN hd ho) M ρ _ a w hfi hR (wpAny P .any ops Q fuel (listed.setIfInBounds i true)) Q (fun M' ρ' a' w' hh => by
      refine ih _ (by simpa using hs) hcount hdown' M' ρ' a' w' ?_
      rw [show (fun j => (listed.setIfInBounds i true).getD j false) = fun j => (Nat.beq j i || listed.getD j false) from funext hset, ← hap]
      exact hh)
    unfold wpOp
    rw [ho]
    simp only
    split
    · rename_i hw; rw [if_pos hw] at this; exact .inl this
    · rename_i hw; rw [if_neg hw] at this; exact this
end
section
variable {P : Program} {X : Ctx} {n : Nat} {σ : AS} {Q : Exit → AS → Prop}
theorem Rel.drawn {M : Nat → Option (Array Value)} {ρ : Nat → Nat → Option Value} {a : Act} {w : World} (h : Rel X n M ρ σ a w) (k : Nat) : Rel X n M ρ σ a { w with drawn := k } :=
  ⟨h.live, h.sz, h.tm, h.box, h.buf, h.sep, h.fresh, h.glob, h.base, h.root, h.os, h.tape, h.output, h.size, h.frame, h.df, h.mp⟩
theorem uY {id : Nat} {ops : Array Oper} (hm : P.follows .mixedOrders = true) (hd : qI n ops.toList = true) (h : Exec P X n ops ops.toList [] σ (fun rs τ => aR ops.toList rs = true ∧ Q .normal τ)) : AWp P X n (.region id ops true) Q σ := by
  refine ⟨?_⟩
  intro M ρ a w hR
  obtain ⟨rs, hl, _, hr, hind, hK⟩ := aU.rules ops.toList [] σ h.run
  simp at hl hr
  refine wp_region_any hm ?_
  refine uG (X := X) (rs := rs) (σ := σ) hl hd hind (fun i o ho => hr i o ho) (fun M' ρ' a' w' hh => ⟨M', ρ', _, hh, hK⟩) ops.size _ (by simp) (by simp [jp]; exact Nat.le_trans List.countP_le_length (by simp)) (fun m j _ h => by simp [Array.getD] at h) M ρ a _ ?_
  have : runN rs (fun j => (Array.replicate ops.size false).getD j false) σ ops.size = σ := by
    have : ∀ m, runN rs (fun j => (Array.replicate ops.size false).getD j false) σ m = σ := by
      intro m
      induction m with
      | zero => rfl
      | succ m ih =>
        rw [runN, ih]
        have h0 : (Array.replicate ops.size false).getD m false = false := by simp [Array.getD]
        rw [h0]
        cases rs[m]? <;> rfl
    exact this _
  rw [this]
  exact hR.drawn _
/-- What is less known is less. -/
def Wk (σ τ : AS) : Prop := (∀ t, τ.T t = σ.T t ∨ τ.T t = .junk) ∧ ∀ s, (τ.H s).k = (σ.H s).k ∧ ((τ.H s).c = (σ.H s).c ∨ (τ.H s).c = .dead)
theorem Rel.weak {M : Nat → Option (Array Value)} {ρ : Nat → Nat → Option Value} {a : Act} {w : World} {τ : AS} (h : Rel X n M ρ σ a w) (hw : Wk σ τ) : Rel X n M ρ τ a w := by
  have hH : ∀ s, τ.H s = σ.H s ∨ τ.H s = ⟨(σ.H s).k, .dead⟩ := fun s => by
    obtain ⟨h1, h2⟩ := hw.2 s
    rcases h2 with h2 | h2
    · left; cases hx : τ.H s; cases hy : σ.H s; rw [hx, hy] at h1 h2; simp at h1 h2; rw [h1, h2]
    · right; cases hx : τ.H s; rw [hx] at h1 h2; simp at h1 h2; rw [h1, h2]
  refine ⟨h.live, h.sz, fun i => ?_, fun s k cs e => ?_, fun s k e' sz L e => ?_, fun s s' g e e' => ?_, fun s k hk => ?_, h.glob, h.base, h.root, h.os, h.tape, h.output, h.size, h.frame, h.df, fun s k L e => by
    rcases hH s with e1 | e1
    · exact h.mp s k L (by rw [← e1]; exact e)
    · rw [e1] at e; injection e with _ e; cases e⟩
  · rcases hw.1 i with e | e
    · rw [e]; exact h.tm i
    · rw [e]; exact .junk _ _
  · rcases hH s with e1 | e1
    · exact h.box s k cs (by rw [← e1]; exact e)
    · rw [e1] at e; injection e with _ e; cases e
  · rcases hH s with e1 | e1
    · exact h.buf s k e' sz L (by rw [← e1]; exact e)
    · rw [e1] at e; injection e with _ e; cases e
  · have hb : ∀ s g, zI ρ s (τ.H s) = some g → zI ρ s (σ.H s) = some g := fun s g e => by
      rcases hH s with e1 | e1
      · rw [← e1]; exact e
      · rw [e1] at e; simp [zI] at e
    exact h.sep s s' g (hb s g e) (hb s' g e')
  · exact h.fresh s k (by rw [← (hw.2 s).1]; exact hk)
def look : List (Nat × AV) → Nat → AV
  | [], _ => .junk
  | (i, x) :: l, t => bif Nat.beq t i then x else look l t
def vZ : List (Nat × Cont) → Nat → Cont
  | [], _ => .dead
  | (i, x) :: l, s => bif Nat.beq s i then x else vZ l s
def st (v : Nat → Nat) (lT : List (Nat × AV)) (lH : List (Nat × Cont)) : AS := ⟨look lT, fun s => ⟨v s, vZ lH s⟩⟩
def allT (σ : AS) : List (Nat × AV) → Prop
  | [] => True
  | (i, x) :: l => σ.T i = x ∧ allT σ l
def allH (σ : AS) : List (Nat × Cont) → Prop
  | [] => True
  | (i, x) :: l => (σ.H i).c = x ∧ allH σ l
theorem look_wk : ∀ (l : List (Nat × AV)), allT σ l → ∀ t, look l t = σ.T t ∨ look l t = .junk
  | [], _, t => .inr rfl
  | (i, x) :: l, h, t => by
    unfold look
    cases hb : Nat.beq t i
    · exact look_wk l h.2 t
    · left; rw [Nat.eq_of_beq_eq_true hb]; exact h.1.symm
theorem vB : ∀ (l : List (Nat × Cont)), allH σ l → ∀ s, vZ l s = (σ.H s).c ∨ vZ l s = .dead
  | [], _, s => .inr rfl
  | (i, x) :: l, h, s => by
    unfold vZ
    cases hb : Nat.beq s i
    · exact vB l h.2 s
    · left; rw [Nat.eq_of_beq_eq_true hb]; exact h.1.symm
theorem st_wk {lT : List (Nat × AV)} {lH : List (Nat × Cont)} (h1 : allT σ lT) (h2 : allH σ lH) : Wk σ (st (fun s => (σ.H s).k) lT lH) :=
  ⟨fun t => look_wk lT h1 t, fun s => ⟨rfl, vB lH h2 s⟩⟩
theorem AWp.weak {c : Code} {τ : AS} (hw : Wk σ τ) (h : AWp P X n c Q τ) : AWp P X n c Q σ := ⟨fun M ρ a w hR => h.run M ρ a w (hR.weak hw)⟩
/-- Does the state answer to what a loop's head says? -/
def At {ι : Type} (ok : (Nat → Nat) → ι → Prop) (lT : (Nat → Nat) → ι → List (Nat × AV)) (lH : (Nat → Nat) → ι → List (Nat × Cont)) (σ : AS) (p : ι → Prop) : Prop :=
  ∃ i, ok (fun s => (σ.H s).k) i ∧ p i ∧ allT σ (lT (fun s => (σ.H s).k) i) ∧ allH σ (lH (fun s => (σ.H s).k) i)
theorem yK {ι : Type} (ok : (Nat → Nat) → ι → Prop) (μ : ι → Nat) (lT : (Nat → Nat) → ι → List (Nat × AV)) (lH : (Nat → Nat) → ι → List (Nat × Cont)) {c : Code}
    (h0 : At ok lT lH σ fun _ => True)
    (round : ∀ v i, ok v i → AWp P X n c (mH (fun τ => At ok lT lH τ fun j => μ j < μ i) Q) (st v (lT v i) (lH v i))) : AWp P X n (.loop c) Q σ := by
  have key : ∀ m v i, μ i < m → ok v i → ∀ M ρ a w, Rel X n M ρ (st v (lT v i) (lH v i)) a w → Code.rounds P c (fun e a' w' => ∃ M' ρ' σ', Rel X n M' ρ' σ' a' w' ∧ Q e σ') m a w := by
    intro m
    induction m with
    | zero => intro v i h; omega
    | succ m ih =>
      intro v i hlt hi M ρ a w hR
      rw [rounds_succ]
      refine wp_mono ((round v i hi).run M ρ a w hR) ?_
      rintro e a' w' ⟨M', ρ', σ', hR', hQ⟩
      cases e with
      | normal =>
        obtain ⟨j, hj, hμ, h1, h2⟩ := hQ
        exact ih _ j (by omega) hj M' ρ' a' w' (hR'.weak (st_wk h1 h2))
      | _ => exact ⟨M', ρ', σ', hR', hQ⟩
  refine ⟨?_⟩
  intro M ρ a w hR
  obtain ⟨i, hi, _, h1, h2⟩ := h0
  exact wp_loop_rounds (μ i + 1) (key _ _ i (by omega) hi M ρ a w (hR.weak (st_wk h1 h2)))
theorem zQ {ι : Type} (ok : ι → Prop) (μ : ι → Nat) (lT : (Nat → Nat) → ι → List (Nat × AV)) (lH : (Nat → Nat) → ι → List (Nat × Cont)) {c : Code}
    (h0 : At (fun _ => ok) lT lH σ fun _ => True)
    (round : ∀ v i, ok i → AWp P X n c (mH (fun τ => At (fun _ => ok) lT lH τ fun j => μ j < μ i) Q) (st v (lT v i) (lH v i))) : AWp P X n (.loop c) Q σ :=
  yK (fun _ => ok) μ lT lH h0 round
end
end Go.Proofs.YtnafokinifbfhaaGreatDoor
namespace Go.Proofs.YtnafokinifbfhaaGreatDoor
open Go Go.RowKit
section
variable {X : Ctx} {n : Nat} {M : Nat → Option (Array Value)} {ρ : Nat → Nat → Option Value} {σ : AS} {a : Act} {w : World}
theorem Rel.lt (h : Rel X n M ρ σ a w) {g : Nat} {arr : Array Value} (hg : M g = some arr) : g < w.heap.size := by
  obtain ⟨t, fr, h1⟩ := h.live g arr hg
  exact (Array.getElem?_eq_some_iff.1 h1).1
theorem Rel.put (h : Rel X n M ρ σ a w) {d : Option Nat} {y : AV} {u : Value} (hy : Rep M ρ y u) (hd : ∀ i, d = some i → i < n) : Rel X n M ρ (σ.put d y) (a.put d u) w := by
  cases d with
  | none => exact h
  | some i =>
    have hi := hd i rfl
    refine ⟨h.live, by simp [Act.put, h.sz], fun j => ?_, h.box, h.buf, h.sep, h.fresh, h.glob, h.base, h.root, h.os, h.tape, h.output, h.size, h.frame, h.df, h.mp⟩
    show Rep M ρ (bif Nat.beq j i then y else σ.T j) ((a.tmps.setIfInBounds i u).getD j undef)
    by_cases he : j = i
    · subst he
      rw [Nat.beq_refl]
      have : (a.tmps.setIfInBounds j u).getD j undef = u := by simp [h.sz, hi]
      rw [this]
      exact hy
    · rw [zV he]
      have : (a.tmps.setIfInBounds i u).getD j undef = a.tmps.getD j undef := by simp [Array.getElem?_setIfInBounds_ne (Ne.symm he)]
      rw [this]
      exact h.tm j
def updρ (ρ : Nat → Nat → Option Value) (s k : Nat) (u : Value) : Nat → Nat → Option Value := fun s' k' => if s' = s ∧ k' = k then some u else ρ s' k'
def updM (M : Nat → Option (Array Value)) (g : Nat) (arr : Array Value) : Nat → Option (Array Value) := fun g' => if g' = g then some arr else M g'
theorem aD {s k : Nat} {u : Value} (hn : ρ s k = none) : ∀ s' k' y, ρ s' k' = some y → updρ ρ s k u s' k' = some y := by
  intro s' k' y h
  unfold updρ
  rw [if_neg]
  · exact h
  · rintro ⟨rfl, rfl⟩
    rw [hn] at h; cases h
theorem rH {g : Nat} {arr : Array Value} (hn : M g = none) : ∀ g' y, M g' = some y → updM M g arr g' = some y := by
  intro g' y h
  unfold updM
  rw [if_neg]
  · exact h
  · rintro rfl
    rw [hn] at h; cases h
theorem wJ.mono {M' : Nat → Option (Array Value)} {ρ' : Nat → Nat → Option Value} {w' : World} {s k : Nat} {cs : List AV} (h : wJ X M ρ w s k cs) (hM : ∀ g a, M g = some a → M' g = some a) (hr : ∀ s k y, ρ s k = some y → ρ' s k = some y)
    (hw : ∀ g, ρ s k = some (.pointer (some ⟨g, 0, none⟩)) → w'.heap[g]? = w.heap[g]?) (hN : ∀ g, ρ s k = some (.pointer (some ⟨g, 0, none⟩)) → M g = none → M' g = none) : wJ X M' ρ' w' s k cs := by
  obtain ⟨g, t, us, h1, h2, h3, h4, h5, h6⟩ := h
  exact ⟨g, t, us, hr _ _ _ h1, (hw g h1).trans h2, hN g h1 h3, h4, h5, fun j x u a b => (h6 j x u a b).mono' hM hr⟩
theorem own_move {w w' : World} {base : Nat} {e : TypeId} {size m : Nat} {u : Value} {xs : List Value} (h : w.ownsRow base e size u m xs) (hb : ∀ g, vblk u = some g → w'.heap[g]? = w.heap[g]?) : w'.ownsRow base e size u m xs := by
  refine ⟨h.1, ?_⟩
  rcases h.2 with h2 | ⟨g, cap, cur, hv, hg, hh, rest⟩
  · exact .inl h2
  · exact .inr ⟨g, cap, cur, hv, hg, (hb g (by rw [hv]; rfl)).trans hh, rest⟩
theorem eP.mono {M' : Nat → Option (Array Value)} {ρ' : Nat → Nat → Option Value} {w' : World} {s k : Nat} {e sz : Nat} {L : List AV} (h : eP X M ρ w s k e sz L) (hM : ∀ g a, M g = some a → M' g = some a) (hr : ∀ s k y, ρ s k = some y → ρ' s k = some y)
    (hw : ∀ u g, ρ s k = some u → vblk u = some g → w'.heap[g]? = w.heap[g]?) (hN : ∀ u g, ρ s k = some u → vblk u = some g → M g = none → M' g = none) : eP X M' ρ' w' s k e sz L := by
  obtain ⟨u, us, h1, h2, h3, h4, h5, h6⟩ := h
  exact ⟨u, us, hr _ _ _ h1, ⟨own_move h2.1 fun g hg => hw u g h1 hg, h2.2⟩, fun g hg => hN u g h1 hg (h3 g hg), h4, h5, fun j x y a b => ⟨(h6 j x y a b).1.mono' hM (fun _ _ _ e => e), (h6 j x y a b).2⟩⟩
/-- The block of what lives at a site lies in the heap. -/
theorem ObIn.obj {v : Value} {g : Nat} {o : AO} (h : ObIn M ρ w v g o) : ∃ x, w.heap[g]? = some x := by
  cases o with
  | mp L => obtain ⟨_, es, e, _⟩ := h; exact ⟨_, e⟩
  | it s' k' since seen last => obtain ⟨_, gm, _, e⟩ := h; exact ⟨_, e⟩
  | si t pos => exact ⟨_, h.2⟩
  | by_ L => obtain ⟨cap, cur, t, fz, _, e, _⟩ := h; exact ⟨_, e⟩
  | bd t s' k' => obtain ⟨_, p, u, _, e, _⟩ := h; exact ⟨_, e⟩
  | mq L => obtain ⟨_, es, e, _⟩ := h; exact ⟨_, e⟩
  | qu e sz Q => obtain ⟨o, c, cur, _, e, _⟩ := h; exact ⟨_, e⟩
theorem Rel.blk_lt (h : Rel X n M ρ σ a w) {s g : Nat} (hb : zI ρ s (σ.H s) = some g) : g < w.heap.size ∧ M g = none := by
  unfold zI at hb
  cases hc : σ.H s with
  | mk k c =>
    rw [hc] at hb
    cases c with
    | dead => simp at hb
    | box cs =>
      obtain ⟨g', t, us, h1, h2, h3, _⟩ := h.box s k cs hc
      simp [h1, vblk] at hb
      subst hb
      exact ⟨(Array.getElem?_eq_some_iff.1 h2).1, h3⟩
    | buf e sz L =>
      obtain ⟨u, us, h1, h2, h3, _⟩ := h.buf s k e sz L hc
      simp [h1] at hb
      refine ⟨?_, h3 g hb⟩
      rcases h2.1.2 with ⟨rfl, _⟩ | ⟨g', cap, cur, rfl, _, hh, _⟩
      · simp [vblk] at hb
      · simp [vblk] at hb
        subst hb
        exact (Array.getElem?_eq_some_iff.1 hh).1
    | ob o =>
      obtain ⟨v, g', hM, h1, h2, h3, h4⟩ := h.mp s k o hc
      simp [h1, h2] at hb
      subst hb
      obtain ⟨x, hx0⟩ := h4.obj
      exact ⟨(Array.getElem?_eq_some_iff.1 hx0).1, hM⟩
theorem ObAt.mono {M' : Nat → Option (Array Value)} {ρ' : Nat → Nat → Option Value} {w' : World} {s k : Nat} {o : AO} (h : ObAt X M ρ w s k o) (hr : ∀ s k y, ρ s k = some y → ρ' s k = some y) (hw : ∀ g, (ρ s k).bind vblk = some g → w'.heap[g]? = w.heap[g]?) (hN : ∀ g, (ρ s k).bind vblk = some g → M g = none → M' g = none) (hMM : ∀ g a, M g = some a → M' g = some a := by intro _ _ e; exact e) : ObAt X M' ρ' w' s k o := by
  obtain ⟨v, g, hM, h1, h2, h3, h4⟩ := h
  have hg := hw g (by rw [h1]; exact h2)
  refine ⟨v, g, hN g (by rw [h1]; exact h2) hM, hr _ _ _ h1, h2, h3, ?_⟩
  cases o with
  | mp L =>
    obtain ⟨e1, es, e2, e3⟩ := h4
    exact ⟨e1, es, hg.trans e2, e3⟩
  | it s' k' since seen last =>
    obtain ⟨e1, gm, e2, e3⟩ := h4
    exact ⟨e1, gm, hr _ _ _ e2, hg.trans e3⟩
  | si t pos =>
    obtain ⟨e1, e2⟩ := h4
    exact ⟨e1, hg.trans e2⟩
  | by_ L =>
    obtain ⟨cap, cur, t, fz, e1, e2, e3⟩ := h4
    exact ⟨cap, cur, t, fz, e1, hg.trans e2, e3⟩
  | bd t s' k' =>
    obtain ⟨e1, p, u, e2, e3, e4⟩ := h4
    exact ⟨e1, p, u, hr _ _ _ e2, hg.trans e3, e4⟩
  | mq L =>
    obtain ⟨e1, es, e2, e3, e4, e5⟩ := h4
    refine ⟨e1, es, hg.trans e2, e3, e4, fun i e p a b => ?_⟩
    obtain ⟨f1, gp, f2, f3⟩ := e5 i e p a b
    exact ⟨f1, gp, hr _ _ _ f2, f3⟩
  | qu e sz Q =>
    obtain ⟨o, c, cur, e1, e2, e3, e4, e5, e6, e7⟩ := h4
    refine ⟨o, c, cur, e1, hg.trans e2, e3, e4, e5, e6, fun j x hx => ?_⟩
    obtain ⟨u, f1, f2, f3⟩ := e7 j x hx
    exact ⟨u, f1, f2.mono' hMM (fun _ _ _ e => e), f3⟩
theorem nP {s k s' k' : Nat} {c : Cont} {L : AO} (hc : ∀ L, c ≠ .ob L) (h : (σ.hup s ⟨k, c⟩).H s' = ⟨k', .ob L⟩) : s' ≠ s ∧ σ.H s' = ⟨k', .ob L⟩ := by
  by_cases hs : s' = s
  · subst hs
    have : (σ.hup s' ⟨k, c⟩).H s' = ⟨k, c⟩ := by simp [AS.hup, Nat.beq_refl]
    rw [this] at h
    injection h with _ h
    exact absurd h (hc L)
  · have : (σ.hup s ⟨k, c⟩).H s' = σ.H s' := by simp [AS.hup, zV hs]
    exact ⟨hs, by rw [← this]; exact h⟩
theorem Rel.mp_blk (h : Rel X n M ρ σ a w) {s k g : Nat} {o : AO} (hH : σ.H s = ⟨k, .ob o⟩) (hg : (ρ s k).bind vblk = some g) : zI ρ s (σ.H s) = some g := by rw [hH]; simp only [zI]; exact hg
theorem qV (h : Rel X n M ρ σ a w) (s : Nat) : ρ s ((σ.H s).k + 1) = none := h.fresh s _ (by omega)
/-- A new box. -/
theorem Rel.newBox (h : Rel X n M ρ σ a w) (s : Nat) (t : TypeId) {cs : List AV} {us : List Value} (hl : us.length = cs.length) (hc : ∀ (j : Nat) (x : AV) (u : Value), cs[j]? = some x → us[j]? = some u → Rep M ρ x u) :
    Rel X n M (updρ ρ s ((σ.H s).k + 1) (.pointer (some ⟨w.heap.size, 0, none⟩))) (σ.hup s ⟨(σ.H s).k + 1, .box cs⟩) a (w.alloc (.cells ⟨us⟩ t)) := by
  have hm := aD (u := .pointer (some ⟨w.heap.size, 0, none⟩)) (qV h s)
  have hold : ∀ g, g < w.heap.size → (w.alloc (.cells ⟨us⟩ t)).heap[g]? = w.heap[g]? := fun g hg => Below.heap_alloc w _ g hg
  have hMn : M w.heap.size = none := by
    cases hx : M w.heap.size with
    | none => rfl
    | some arr => exact absurd (h.lt hx) (Nat.lt_irrefl _)
  have hother : ∀ s', s' ≠ s → (σ.hup s ⟨(σ.H s).k + 1, .box cs⟩).H s' = σ.H s' := fun s' hs => by simp [AS.hup, zV hs]
  have hsame : (σ.hup s ⟨(σ.H s).k + 1, .box cs⟩).H s = ⟨(σ.H s).k + 1, .box cs⟩ := by simp [AS.hup, Nat.beq_refl]
  have hblk : ∀ s', s' ≠ s → zI (updρ ρ s ((σ.H s).k + 1) (.pointer (some ⟨w.heap.size, 0, none⟩))) s' (σ.H s') = zI ρ s' (σ.H s') := fun s' hs => by
    unfold zI updρ
    cases (σ.H s').c <;> simp [hs]
  have hblks : zI (updρ ρ s ((σ.H s).k + 1) (.pointer (some ⟨w.heap.size, 0, none⟩))) s ⟨(σ.H s).k + 1, .box cs⟩ = some w.heap.size := by
    simp [zI, updρ, vblk]
  refine ⟨fun g arr hg => ?_, h.sz, fun i => (h.tm i).mono' (fun _ _ e => e) hm, fun s' k cs' e => ?_, fun s' k e sz L he => ?_, fun s1 s2 g e1 e2 => ?_, fun s' k hk => ?_, h.glob, h.base, fun i g e => hm _ _ _ (h.root i g e), h.os, h.tape, h.output, ?_, fun g hg hn => ?_, h.df, fun s' k L e => by
    obtain ⟨_, e'⟩ := nP (by simp) e
    exact (h.mp s' k L e').mono hm (fun g hg => hold g (h.blk_lt (h.mp_blk e' hg)).1) (fun _ _ e => e)⟩
  · obtain ⟨t', fr, h1⟩ := h.live g arr hg
    exact ⟨t', fr, (hold g (h.lt hg)).trans h1⟩
  · by_cases hs : s' = s
    · subst hs
      rw [hsame] at e
      injection e with e1 e2
      injection e2 with e2
      subst e1; subst e2
      exact ⟨w.heap.size, t, us, by simp [updρ], heap_alloc_new w _, hMn, .inl h.size, hl, fun j x u a b => (hc j x u a b).mono' (fun _ _ e => e) hm⟩
    · rw [hother s' hs] at e
      refine (h.box s' k cs' e).mono (fun _ _ e => e) hm (fun g hg => hold g ?_) (fun _ _ e => e)
      exact (h.blk_lt (s := s') (by rw [e]; simp [zI, hg, vblk])).1
  · by_cases hs : s' = s
    · subst hs
      rw [hsame] at he
      injection he with _ he
      cases he
    · rw [hother s' hs] at he
      refine (h.buf s' k e sz L he).mono (fun _ _ e => e) hm (fun u g hu hg => hold g ?_) (fun _ _ _ _ e => e)
      exact (h.blk_lt (s := s') (by rw [he]; simp [zI, hu, hg])).1
  · by_cases h1 : s1 = s
    · by_cases h2 : s2 = s
      · rw [h1, h2]
      · exfalso
        subst h1
        rw [hsame, hblks] at e1
        rw [hother s2 h2, hblk s2 h2] at e2
        injection e1 with e1
        have := (h.blk_lt e2).1
        omega
    · by_cases h2 : s2 = s
      · exfalso
        subst h2
        rw [hsame, hblks] at e2
        rw [hother s1 h1, hblk s1 h1] at e1
        injection e2 with e2
        have := (h.blk_lt e1).1
        omega
      · rw [hother s1 h1, hblk s1 h1] at e1
        rw [hother s2 h2, hblk s2 h2] at e2
        exact h.sep s1 s2 g e1 e2
  · by_cases hs : s' = s
    · subst hs
      rw [hsame] at hk
      simp only at hk
      unfold updρ
      rw [if_neg (by omega)]
      exact h.fresh s' k (by omega)
    · rw [hother s' hs] at hk
      unfold updρ
      rw [if_neg (fun e => hs e.1)]
      exact h.fresh s' k hk
  · have := h.size
    simp
    omega
  · rw [hold g (Nat.lt_of_lt_of_le hg h.size)]
    exact h.frame g hg hn
/-- A new block that stays as it is. -/
theorem Rel.newM (h : Rel X n M ρ σ a w) (t : TypeId) (us : Array Value) : M w.heap.size = none ∧ Rel X n (updM M w.heap.size us) ρ σ a (w.alloc (.cells us t)) := by
  have hold : ∀ g, g < w.heap.size → (w.alloc (.cells us t)).heap[g]? = w.heap[g]? := fun g hg => Below.heap_alloc w _ g hg
  have hMn : M w.heap.size = none := by
    cases hx : M w.heap.size with
    | none => rfl
    | some arr => exact absurd (h.lt hx) (Nat.lt_irrefl _)
  have hm := rH (arr := us) hMn
  refine ⟨hMn, ⟨fun g arr hg => ?_, h.sz, fun i => (h.tm i).mono' hm (fun _ _ _ e => e), fun s' k cs' e => ?_, fun s' k e sz L he => ?_, h.sep, h.fresh, fun g vs e => hm _ _ (h.glob g vs e), fun g hg hn => by
    unfold updM
    rw [if_neg (by have := h.size; omega)]
    exact h.base g hg hn, h.root, h.os, h.tape, h.output, ?_, fun g hg hn => ?_, h.df, fun s' k L e => (h.mp s' k L e).mono (fun _ _ _ e => e) (fun g hg => hold g (h.blk_lt (h.mp_blk e hg)).1) (fun g hg hn => by
    unfold updM
    rw [if_neg (by have := (h.blk_lt (h.mp_blk e hg)).1; omega)]
    exact hn) hm⟩⟩
  · unfold updM at hg
    split at hg
    · rename_i he
      subst he
      injection hg with hg
      subst hg
      exact ⟨t, (0, 0), heap_alloc_new w _⟩
    · obtain ⟨t', fr, h1⟩ := h.live g arr hg
      exact ⟨t', fr, (hold g (h.lt hg)).trans h1⟩
  · have hlt := fun g (hg : ρ s' k = some (.pointer (some ⟨g, 0, none⟩))) => (h.blk_lt (s := s') (g := g) (by rw [e]; simp [zI, hg, vblk])).1
    refine (h.box s' k cs' e).mono hm (fun _ _ _ e => e) (fun g hg => hold g (hlt g hg)) (fun g hg hn => ?_)
    unfold updM
    rw [if_neg (by have := hlt g hg; omega)]
    exact hn
  · have hlt := fun u g (hu : ρ s' k = some u) (hg : vblk u = some g) => (h.blk_lt (s := s') (g := g) (by rw [he]; simp [zI, hu, hg])).1
    refine (h.buf s' k e sz L he).mono hm (fun _ _ _ e => e) (fun u g hu hg => hold g (hlt u g hu hg)) (fun u g hu hg hn => ?_)
    unfold updM
    rw [if_neg (by have := hlt u g hu hg; omega)]
    exact hn
  · have := h.size
    simp
    omega
  · rw [hold g (Nat.lt_of_lt_of_le hg h.size)]
    exact h.frame g hg hn
end
end Go.Proofs.YtnafokinifbfhaaGreatDoor
