/- An abstract machine for the walks: values without addresses, boxes by their site, and what of memory they stand for; nothing of the program stands here; conditions: none. -/
import Derived.Test.YtbacidnhjmdnlaaDoorLib
import Derived.Orders
import Derived.LoopN
set_option linter.unusedVariables false
set_option linter.unusedSimpArgs false
namespace Go.Proofs.YtbacidnhjmdnlaaDoor
open Go Go.RowKit
inductive AV where
  | v (x : Value)
  | ag (cs : List AV)
  | tu (xs : List AV)
  | sl (sz : Nat) (L : List AV)
  | ptr (s k off : Nat)
  | ep (cs : List AV)
  | own (s k : Nat)
  | fn (f : FuncId) (cap : List AV)
  | junk
  | po (s k off : Nat)
def AV.cells : AV → List AV
  | .ag cs => cs
  | x => [x]
def noρ : Nat → Nat → Option Value := fun _ _ => none
inductive Rep (M : Nat → Option (Array Value)) : (Nat → Nat → Option Value) → AV → Value → Prop where
  | v (ρ) (x : Value) : Rep M ρ (.v x) x
  | ag (ρ) (cs : List AV) (vs : List Value) (hl : vs.length = cs.length) (h : ∀ (j : Nat) (x : AV) (u : Value), cs[j]? = some x → vs[j]? = some u → Rep M ρ x u) : Rep M ρ (.ag cs) (.agg ⟨vs⟩)
  | tu (ρ) (cs : List AV) (vs : List Value) (hl : vs.length = cs.length) (h : ∀ (j : Nat) (x : AV) (u : Value), cs[j]? = some x → vs[j]? = some u → Rep M ρ x u) : Rep M ρ (.tu cs) (.tuple ⟨vs⟩)
  | sl (ρ) (sz : Nat) (L : List AV) (A : Option Addr) (c : Nat) (us : Nat → Nat → Value) (hc : L.length ≤ c) (hm : c ≤ maxLen)
      (h : ∀ (k : Nat) (x : AV) (j : Nat) (y : AV), L[k]? = some x → x.cells[j]? = some y → Rep M noρ y (us k j))
      (hM : ∀ (k : Nat) (x : AV), L[k]? = some x → x.cells.length = sz ∧ ∃ b o arr, A = some ⟨b, o, none⟩ ∧ M b = some arr ∧ ∀ j, j < sz → arr[o + k * sz + j]? = some (us k j)) : Rep M ρ (.sl sz L) (.slice A L.length c)
  | ptr (ρ) (s k off g : Nat) (h : ρ s k = some (.pointer (some ⟨g, 0, none⟩))) : Rep M ρ (.ptr s k off) (.pointer (some ⟨g, off, none⟩))
  | ep (ρ) (cs : List AV) (b o : Nat) (arr : Array Value) (us : Nat → Value) (hM : M b = some arr) (ha : ∀ j, j < cs.length → arr[o + j]? = some (us j)) (h : ∀ (j : Nat) (x : AV), cs[j]? = some x → Rep M noρ x (us j)) : Rep M ρ (.ep cs) (.pointer (some ⟨b, o, none⟩))
  | own (ρ) (s k : Nat) (u : Value) (h : ρ s k = some u) (h1 : u.oneCell' = true) : Rep M ρ (.own s k) u
  | fn (ρ) (f : FuncId) (cs : List AV) (vs : List Value) (hl : vs.length = cs.length) (h : ∀ (j : Nat) (x : AV) (u : Value), cs[j]? = some x → vs[j]? = some u → Rep M ρ x u) : Rep M ρ (.fn f cs) (.func (.func f) #[] ⟨vs⟩)
  | junk (ρ) (u : Value) : Rep M ρ .junk u
  | po (ρ) (s k off g l c : Nat) (h : ρ s k = some (.slice (some ⟨g, 0, none⟩) l c)) : Rep M ρ (.po s k off) (.pointer (some ⟨g, off, none⟩))
section
variable {M M' : Nat → Option (Array Value)} {ρ : Nat → Nat → Option Value}
theorem Rep.mono {x : AV} {u : Value} (h : Rep M ρ x u) (hM : ∀ g a, M g = some a → M' g = some a) : ∀ {ρ' : Nat → Nat → Option Value}, (∀ s k y, ρ s k = some y → ρ' s k = some y) → Rep M' ρ' x u := by
  induction h with
  | v ρ x => exact fun _ => .v _ x
  | ag ρ cs vs hl h ih => exact fun hr => .ag _ cs vs hl fun j x u a b => ih j x u a b hr
  | tu ρ cs vs hl h ih => exact fun hr => .tu _ cs vs hl fun j x u a b => ih j x u a b hr
  | sl ρ sz L A c us hc hm h hA ih => exact fun hr => .sl _ sz L A c us hc hm (fun k x j y a b => ih k x j y a b (fun _ _ _ e => e)) (fun k x a => match hA k x a with
      | ⟨h1, b, o, arr, h2, h3, h4⟩ => ⟨h1, b, o, arr, h2, hM _ _ h3, h4⟩)
  | ptr ρ s k off g h => exact fun hr => .ptr _ s k off g (hr _ _ _ h)
  | ep ρ cs b o arr us h1 h2 h3 ih => exact fun hr => .ep _ cs b o arr us (hM _ _ h1) h2 fun j x a => ih j x a (fun _ _ _ e => e)
  | po ρ s k off g l c h => exact fun hr => .po _ s k off g l c (hr _ _ _ h)
  | own ρ s k u h h1 => exact fun hr => .own _ s k u (hr _ _ _ h) h1
  | fn ρ f cs vs hl h ih => exact fun hr => .fn _ f cs vs hl fun j x u a b => ih j x u a b hr
  | junk ρ u => exact fun _ => .junk _ u
theorem Rep.v_inv {x u : Value} (h : Rep M ρ (.v x) u) : u = x := by cases h; rfl
theorem Rep.mono' {x : AV} {u : Value} (h : Rep M ρ x u) (hM : ∀ g a, M g = some a → M' g = some a) {ρ' : Nat → Nat → Option Value} (hr : ∀ s k y, ρ s k = some y → ρ' s k = some y) : Rep M' ρ' x u := h.mono hM hr
end
inductive Cont where
  | dead
  | box (cs : List AV)
  | buf (e : TypeId) (sz : Nat) (L : List AV)
structure HC where
  k : Nat
  c : Cont
structure AS where
  T : Nat → AV
  H : Nat → HC
def AS.put (σ : AS) : Option Nat → AV → AS
  | none, _ => σ
  | some i, y => ⟨fun n => bif Nat.beq n i then y else σ.T n, σ.H⟩
def AS.hup (σ : AS) (s : Nat) (h : HC) : AS := ⟨σ.T, fun n => bif Nat.beq n s then h else σ.H n⟩
theorem beq_ne {a b : Nat} (h : a ≠ b) : Nat.beq a b = false := by
  cases hb : Nat.beq a b
  · rfl
  · exact absurd (Nat.eq_of_beq_eq_true hb) h
structure Ctx where
  w0 : World
  gs : List Nat
  G : Nat → Option (List Value)
  M0 : Nat → Option (Array Value)
def vblk : Value → Option Nat
  | .pointer (some a) => some a.block
  | .slice (some a) _ _ => some a.block
  | _ => none
def blkOf (ρ : Nat → Nat → Option Value) (s : Nat) (h : HC) : Option Nat := match h.c with
  | .dead => none
  | _ => (ρ s h.k).bind vblk
def BoxAt (X : Ctx) (M : Nat → Option (Array Value)) (ρ : Nat → Nat → Option Value) (w : World) (s k : Nat) (cs : List AV) : Prop :=
  ∃ g t us, ρ s k = some (.pointer (some ⟨g, 0, none⟩)) ∧ w.heap[g]? = some (.cells ⟨us⟩ t (0, 0)) ∧ M g = none ∧ (X.w0.heap.size ≤ g ∨ g ∈ X.gs) ∧ us.length = cs.length ∧
    (∀ (j : Nat) (x : AV) (u : Value), cs[j]? = some x → us[j]? = some u → Rep M ρ x u)
def BufAt (X : Ctx) (M : Nat → Option (Array Value)) (ρ : Nat → Nat → Option Value) (w : World) (s k : Nat) (e sz : Nat) (L : List AV) : Prop :=
  ∃ u us, ρ s k = some u ∧ w.ownsRow X.w0.heap.size e sz u L.length us ∧ (∀ g, vblk u = some g → M g = none) ∧ us.length = (L.flatMap AV.cells).length ∧ (∀ x ∈ L, x.cells.length = sz) ∧
    (∀ (j : Nat) (x : AV) (y : Value), (L.flatMap AV.cells)[j]? = some x → us[j]? = some y → Rep M noρ x y ∧ y.oneCell' = true)
def refB : Nat := 1000000
structure Rel (X : Ctx) (n : Nat) (M : Nat → Option (Array Value)) (ρ : Nat → Nat → Option Value) (σ : AS) (a : Act) (w : World) : Prop where
  live : ∀ g arr, M g = some arr → ∃ t fr, w.heap[g]? = some (.cells arr t fr)
  sz : a.tmps.size = n
  tm : ∀ i, Rep M ρ (σ.T i) (a.tmps.getD i undef)
  box : ∀ s k cs, σ.H s = ⟨k, .box cs⟩ → BoxAt X M ρ w s k cs
  buf : ∀ s k e sz L, σ.H s = ⟨k, .buf e sz L⟩ → BufAt X M ρ w s k e sz L
  sep : ∀ s s' g, blkOf ρ s (σ.H s) = some g → blkOf ρ s' (σ.H s') = some g → s = s'
  fresh : ∀ s k, (σ.H s).k < k → ρ s k = none
  glob : ∀ g vs, X.G g = some vs → M g = some ⟨vs⟩
  base : ∀ g, g < X.w0.heap.size → M g = X.M0 g
  root : ∀ i g, X.gs[i]? = some g → ρ (refB + i) 0 = some (.pointer (some ⟨g, 0, none⟩))
  os : w.os = X.w0.os
  tape : w.tape = X.w0.tape
  output : w.output = X.w0.output
  size : X.w0.heap.size ≤ w.heap.size
  frame : ∀ g, g < X.w0.heap.size → g ∉ X.gs → w.heap[g]? = X.w0.heap[g]?
  df : a.defers = []
structure Rule where
  tr : List (Nat × AV)
  hr : List (Nat × HC)
  dst : Option Nat
  y : AV
  hw : List (Nat × HC)
def Rule.fires (r : Rule) (σ : AS) : Prop := (∀ p ∈ r.tr, σ.T p.1 = p.2) ∧ (∀ p ∈ r.hr, σ.H p.1 = p.2)
def hups : List (Nat × HC) → AS → AS
  | [], σ => σ
  | p :: l, σ => hups l (σ.hup p.1 p.2)
def Rule.apply (r : Rule) (σ : AS) : AS := (hups r.hw σ).put r.dst r.y
def RuleG (P : Program) (X : Ctx) (n : Nat) (ops : Array Oper) (o : Oper) (r : Rule) : Prop :=
  (∀ d, o.dst = some d → d < n) → ∀ M ρ σ a w, r.fires σ → Rel X n M ρ σ a w → ∀ K Q, (∀ M' ρ' a' w', Rel X n M' ρ' (r.apply σ) a' w' → K a' w') →
    (if Region.wanted o (yielded ops a.tmps) = true then Oper.wp P o a w K Q else K (a.put o.dst undef) w)
def Exec0 (P : Program) (X : Ctx) (n : Nat) (ops : Array Oper) : List Oper → List Rule → AS → (List Rule → AS → Prop) → Prop
  | [], acc, σ, K => K acc.reverse σ
  | o :: os, acc, σ, K => ∃ r, RuleG P X n ops o r ∧ r.fires σ ∧ Exec0 P X n ops os (r :: acc) (r.apply σ) K
structure Exec (P : Program) (X : Ctx) (n : Nat) (ops : Array Oper) (os : List Oper) (acc : List Rule) (σ : AS) (K : List Rule → AS → Prop) : Prop where
  run : Exec0 P X n ops os acc σ K
def runR : List Rule → AS → AS
  | [], σ => σ
  | r :: rs, σ => runR rs (r.apply σ)
theorem runR_snoc : ∀ (rs : List Rule) (r : Rule) (σ : AS), runR (rs ++ [r]) σ = r.apply (runR rs σ)
  | [], _, _ => rfl
  | x :: rs, r, σ => runR_snoc rs r (x.apply σ)
theorem Exec0.rules {P : Program} {X : Ctx} {n : Nat} {ops : Array Oper} {K : List Rule → AS → Prop} : ∀ (os : List Oper) (acc : List Rule) (σ0 : AS), Exec0 P X n ops os acc (runR acc.reverse σ0) K →
    ∃ rs : List Rule, rs.length = acc.length + os.length ∧ (∃ ts, rs = acc.reverse ++ ts) ∧ (∀ i o, os[i]? = some o → ∃ r, rs[acc.length + i]? = some r ∧ RuleG P X n ops o r ∧ r.fires (runR (rs.take (acc.length + i)) σ0)) ∧ K rs (runR rs σ0)
  | [], acc, σ0, h => ⟨acc.reverse, by simp, ⟨[], by simp⟩, by simp, h⟩
  | o :: os, acc, σ0, h => by
    obtain ⟨r, h1, h2, h3⟩ := h
    have e : r.apply (runR acc.reverse σ0) = runR (r :: acc).reverse σ0 := by rw [List.reverse_cons, runR_snoc]
    rw [e] at h3
    obtain ⟨rs, hl, ⟨ts, ht⟩, hr, hK⟩ := Exec0.rules os (r :: acc) σ0 h3
    rw [List.reverse_cons, List.append_assoc] at ht
    refine ⟨rs, by simp at hl ⊢; omega, ⟨_, ht⟩, fun i o' ho => ?_, hK⟩
    cases i with
    | zero =>
      simp at ho
      subst ho
      refine ⟨r, by rw [ht, List.getElem?_append_right (by simp)]; simp, h1, ?_⟩
      rw [ht, List.take_append_of_le_length (by simp), List.take_of_length_le (by simp)]
      exact h2
    | succ i =>
      have := hr i o' (by simpa using ho)
      rw [show (r :: acc).length + i = acc.length + (i + 1) by simp; omega] at this
      exact this
def dstsB (n : Nat) (ops : List Oper) : Bool := ops.all fun o => match o.dst with | none => true | some d => Nat.blt d n
theorem dstsB_at {n : Nat} {ops : Array Oper} (h : dstsB n ops.toList = true) {i : Nat} {o : Oper} (ho : ops[i]? = some o) : ∀ d, o.dst = some d → d < n := by
  intro d hd
  have hm : o ∈ ops.toList := by simpa using Array.mem_of_getElem? ho
  have := List.all_eq_true.1 h o hm
  rw [hd] at this
  exact Nat.le_of_ble_eq_true this
/-- A region in the text's order. -/
theorem exec_ops {P : Program} {X : Ctx} {n : Nat} {ops : Array Oper} {rs : List Rule} {σ : AS} {Q : Exit → Act → World → Prop} (hl : rs.length = ops.size) (hd : dstsB n ops.toList = true)
    (hr : ∀ i o, ops[i]? = some o → ∃ r, rs[i]? = some r ∧ RuleG P X n ops o r ∧ r.fires (runR (rs.take i) σ))
    (hQ : ∀ M ρ a w, Rel X n M ρ (runR rs σ) a w → Q .normal a w) :
    ∀ (m i : Nat), i + m = ops.size → ∀ M ρ a w, Rel X n M ρ (runR (rs.take i) σ) a w → wpOps P ops Q (List.range' i m) a w := by
  intro m
  induction m with
  | zero =>
    intro i hi M ρ a w h
    rw [List.take_of_length_le (by omega)] at h
    exact hQ M ρ a w h
  | succ m ih =>
    intro i hi M ρ a w h
    have hlt : i < ops.size := by omega
    have ho : ops[i]? = some ops[i] := Array.getElem?_eq_getElem hlt
    obtain ⟨r, h1, h2, h3⟩ := hr i _ ho
    rw [List.range'_succ]
    unfold wpOps
    rw [ho]
    simp only
    have e : runR (rs.take (i + 1)) σ = r.apply (runR (rs.take i) σ) := by
      rw [take_at h1, runR_snoc]
    have := h2 (dstsB_at hd ho) M ρ _ a w h3 h (wpOps P ops Q (List.range' (i + 1) m)) Q (fun M' ρ' a' w' hh => ih (i + 1) (by omega) M' ρ' a' w' (by rw [e]; exact hh))
    split
    · rename_i hw; rw [if_pos hw] at this; exact .inl this
    · rename_i hw; rw [if_neg hw] at this; exact this
structure AWp (P : Program) (X : Ctx) (n : Nat) (c : Code) (Q : Exit → AS → Prop) (σ : AS) : Prop where
  run : ∀ M ρ a w, Rel X n M ρ σ a w → c.wp P (fun e a' w' => ∃ M' ρ' σ', Rel X n M' ρ' σ' a' w' ∧ Q e σ') a w
section
variable {P : Program} {X : Ctx} {n : Nat} {σ : AS} {Q : Exit → AS → Prop}
theorem awp_region {id : Nat} {ops : Array Oper} (hd : dstsB n ops.toList = true) (h : Exec P X n ops ops.toList [] σ (fun _ τ => Q .normal τ)) : AWp P X n (.region id ops false) Q σ := by
  refine ⟨?_⟩
  intro M ρ a w hR
  obtain ⟨rs, hl, _, hr, hK⟩ := Exec0.rules ops.toList [] σ h.run
  simp at hl hr
  refine wp_region ?_
  rw [List.range_eq_range']
  exact exec_ops (X := X) (rs := rs) (σ := σ) hl hd (fun i o ho => hr i o ho) (fun M' ρ' a' w' hh => ⟨M', ρ', _, hh, hK⟩) ops.size 0 (by omega) M ρ a w (by simpa [runR] using hR)
def thenA (K : AS → Prop) (Q : Exit → AS → Prop) : Exit → AS → Prop
  | .normal, τ => K τ
  | e, τ => Q e τ
def inBlockA (id : Nat) (Q : Exit → AS → Prop) : Exit → AS → Prop
  | .exit id', τ => bif Nat.beq id' id then Q .normal τ else Q (.exit id') τ
  | e, τ => Q e τ
def noGotoA (Q : Exit → AS → Prop) : Exit → AS → Prop
  | .goto _, _ => False
  | e, τ => Q e τ
theorem awp_seq {x y : Code} (h : AWp P X n x (thenA (AWp P X n y Q) Q) σ) : AWp P X n (.seq x y) Q σ := by
  refine ⟨?_⟩
  intro M ρ a w hR
  refine wp_seq (wp_mono (h.run M ρ a w hR) ?_)
  rintro e a' w' ⟨M', ρ', σ', hR', hQ⟩
  cases e <;> first | exact hQ.run M' ρ' a' w' hR' | exact ⟨M', ρ', σ', hR', hQ⟩
theorem awp_skip (h : Q .normal σ) : AWp P X n .skip Q σ := ⟨fun M ρ a w hR => wp_skip ⟨M, ρ, σ, hR, h⟩⟩
theorem awp_exit {id : Nat} (h : Q (.exit id) σ) : AWp P X n (.exit id) Q σ := ⟨fun M ρ a w hR => wp_exit ⟨M, ρ, σ, hR, h⟩⟩
theorem awp_ret (h : Q .ret σ) : AWp P X n .ret Q σ := ⟨fun M ρ a w hR => wp_ret ⟨M, ρ, σ, hR, h⟩⟩
theorem awp_block {id : Nat} {c : Code} (h : AWp P X n c (inBlockA id Q) σ) : AWp P X n (.block id c) Q σ := by
  refine ⟨?_⟩
  intro M ρ a w hR
  refine wp_block (wp_mono (h.run M ρ a w hR) ?_)
  rintro e a' w' ⟨M', ρ', σ', hR', hQ⟩
  cases e with
  | exit id' =>
    unfold inBlockA at hQ
    show if id' = id then _ else _
    by_cases he : id' = id
    · subst he
      rw [if_pos rfl]
      exact ⟨M', ρ', σ', hR', by simpa using hQ⟩
    · rw [if_neg he]
      have hb : Nat.beq id' id = false := beq_ne he
      change bif Nat.beq id' id then _ else _ at hQ
      rw [hb] at hQ
      exact ⟨M', ρ', σ', hR', hQ⟩
  | _ => exact ⟨M', ρ', σ', hR', hQ⟩
theorem awp_scope {c : Code} (h : AWp P X n c (noGotoA Q) σ) : AWp P X n (.scope c) Q σ := by
  refine ⟨?_⟩
  intro M ρ a w hR
  refine wp_scope_straight (wp_mono (h.run M ρ a w hR) ?_)
  rintro e a' w' ⟨M', ρ', σ', hR', hQ⟩
  cases e <;> first | exact hQ.elim | exact ⟨M', ρ', σ', hR', hQ⟩
theorem awp_cond {t : Nat} {x y : Code} {b : Bool} (hc : σ.T t = .v (.bool b)) (h1 : b = true → AWp P X n x Q σ) (h2 : b = false → AWp P X n y Q σ) : AWp P X n (.cond (.tmp t) x y) Q σ := by
  refine ⟨?_⟩
  intro M ρ a w hR
  have h0 := hR.tm t
  rw [hc] at h0
  have he : a.eval (.tmp t) = .bool b := by
    show a.tmps.getD t undef = _
    exact h0.v_inv
  exact wp_cond_split he (fun e => (h1 e).run M ρ a w hR) (fun e => (h2 e).run M ρ a w hR)
end
end Go.Proofs.YtbacidnhjmdnlaaDoor
