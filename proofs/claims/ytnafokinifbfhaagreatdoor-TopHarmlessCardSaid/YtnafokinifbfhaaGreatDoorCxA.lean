/- The executor for closed code: values and memory without addresses, each block by the name that it was given; what of memory they stand for; rules and orders as in the abstract machine of the walks; nothing of the program stands here; conditions: none. -/
import Derived.Test.YtnafokinifbfhaaGreatDoorLib
import Derived.Orders
import Derived.LoopN
set_option linter.unusedVariables false
set_option linter.unusedSimpArgs false
namespace Go.Proofs.YtnafokinifbfhaaGreatDoor.Cx
open Go Go.RowKit
inductive CV where
  | v (x : Value)
  | ag (cs : List CV)
  | tu (cs : List CV)
  | ptr (s off : Nat)
  | sl (s sz off len mc : Nat) (ex : Bool)
  | se (s sz : Nat)
  | mp (s : Nat)
  | ch (s : Nat)
  | fn (f : FuncId) (fst cap : List CV)
  | ifc (t : TypeId) (x : CV)
  | junk
def CV.cells : CV → List CV
  | .ag cs => cs
  | x => [x]
/-- ρ: a name's block, where its window begins there, how many cells the block has. -/
inductive Rep (ρ : Nat → Option (Nat × Nat × Nat)) : CV → Value → Prop where
  | v (x : Value) : Rep ρ (.v x) x
  | ag (cs : List CV) (vs : List Value) (hl : vs.length = cs.length) (h : ∀ (j : Nat) (x : CV) (u : Value), cs[j]? = some x → vs[j]? = some u → Rep ρ x u) : Rep ρ (.ag cs) (.agg ⟨vs⟩)
  | tu (cs : List CV) (vs : List Value) (hl : vs.length = cs.length) (h : ∀ (j : Nat) (x : CV) (u : Value), cs[j]? = some x → vs[j]? = some u → Rep ρ x u) : Rep ρ (.tu cs) (.tuple ⟨vs⟩)
  | ptr (s off g b z : Nat) (h : ρ s = some (g, b, z)) : Rep ρ (.ptr s off) (.pointer (some ⟨g, b + off, none⟩))
  | sl (s sz off len mc : Nat) (ex : Bool) (g b z c : Nat) (h : ρ s = some (g, b, z)) (hl : len ≤ mc) (hc : mc ≤ c) (he : ex = true → c = mc) (hm : c ≤ maxLen) (hz : b + off + c * sz ≤ z) : Rep ρ (.sl s sz off len mc ex) (.slice (some ⟨g, b + off, none⟩) len c)
  | se (s sz g b z o c : Nat) (h : ρ s = some (g, b, z)) (hm : c ≤ maxLen) (hb : b ≤ o) (hz : o + c * sz ≤ z) : Rep ρ (.se s sz) (.slice (some ⟨g, o, none⟩) 0 c)
  | mp (s g : Nat) (h : ρ s = some (g, 0, 0)) : Rep ρ (.mp s) (.map (some g))
  | ch (s g : Nat) (h : ρ s = some (g, 0, 0)) : Rep ρ (.ch s) (.chan (some g))
  | fn (f : FuncId) (fst cap : List CV) (us vs : List Value) (hl : us.length = fst.length) (h : ∀ (j : Nat) (x : CV) (u : Value), fst[j]? = some x → us[j]? = some u → Rep ρ x u)
      (hl' : vs.length = cap.length) (h' : ∀ (j : Nat) (x : CV) (u : Value), cap[j]? = some x → vs[j]? = some u → Rep ρ x u) : Rep ρ (.fn f fst cap) (.func (.func f) ⟨us⟩ ⟨vs⟩)
  | ifc (t : TypeId) (x : CV) (u : Value) (h : Rep ρ x u) : Rep ρ (.ifc t x) (.iface t u)
  | junk (u : Value) : Rep ρ .junk u
section
variable {ρ ρ' : Nat → Option (Nat × Nat × Nat)}
theorem Rep.mono {x : CV} {u : Value} (h : Rep ρ x u) (hr : ∀ s y, ρ s = some y → ρ' s = some y) : Rep ρ' x u := by
  induction h with
  | v x => exact .v _
  | ag cs vs hl h ih => exact .ag cs vs hl ih
  | tu cs vs hl h ih => exact .tu cs vs hl ih
  | ptr s off g b z h => exact .ptr s off g b z (hr _ _ h)
  | sl s sz off len mc ex g b z c h hl hc he hm hz => exact .sl s sz off len mc ex g b z c (hr _ _ h) hl hc he hm hz
  | se s sz g b z o c h hm hb hz => exact .se s sz g b z o c (hr _ _ h) hm hb hz
  | mp s g h => exact .mp s g (hr _ _ h)
  | ch s g h => exact .ch s g (hr _ _ h)
  | fn f fst cap us vs hl h hl' h' ih ih' => exact .fn f fst cap us vs hl ih hl' ih'
  | ifc t x u h ih => exact .ifc t x u ih
  | junk u => exact .junk u
theorem Rep.v_inv {x u : Value} (h : Rep ρ (.v x) u) : u = x := by cases h; rfl
end
inductive CO where
  | none
  | dead
  | row (cs : List CV)
  | ro (cs : List Value)
  | map (es : List (CV × CV))
  | chan (cap : Nat) (buf : List CV) (s r : Nat)
structure AS where
  T : Nat → CV
  H : Nat → CO
def AS.put (σ : AS) : Option Nat → CV → AS
  | .none, _ => σ
  | some i, y => ⟨fun n => bif Nat.beq n i then y else σ.T n, σ.H⟩
def AS.hup (σ : AS) (s : Nat) (h : CO) : AS := ⟨σ.T, fun n => bif Nat.beq n s then h else σ.H n⟩
theorem zV {a b : Nat} (h : a ≠ b) : Nat.beq a b = false := by
  cases hb : Nat.beq a b
  · rfl
  · exact absurd (Nat.eq_of_beq_eq_true hb) h
structure Ctx where
  w0 : World
  r0 : Nat → Option (Nat × Nat × Nat)
def CO.live : CO → Bool
  | .none | .dead | .ro _ => false
  | _ => true
/-- What a name's object says of memory. -/
def Desc (X : Ctx) (ρ : Nat → Option (Nat × Nat × Nat)) (w : World) (s : Nat) : CO → Prop
  | .none => True
  | .dead => True
  | .row cs => ∃ g b us t, ρ s = some (g, b, us.length) ∧ w.heap[g]? = some (.cells ⟨us⟩ t (0, 0)) ∧ X.w0.heap.size ≤ g ∧ b + cs.length ≤ us.length ∧
      ∀ (j : Nat) (x : CV), cs[j]? = some x → ∃ u, us[b + j]? = some u ∧ Rep ρ x u ∧ u.oneCell' = true
  | .ro cs => s < X.w0.heap.size ∧ ∃ t fr, w.heap[s]? = some (.cells ⟨cs⟩ t fr)
  | .map es => ∃ g, ∃ en : Array MapEntry, ρ s = some (g, 0, 0) ∧ w.heap[g]? = some (.map en en.size) ∧ X.w0.heap.size ≤ g ∧ en.size = es.length ∧
      (∀ (i : Nat) (e : MapEntry), en[i]? = some e → e.born = i) ∧ ∀ (i : Nat) (e : MapEntry) (p : CV × CV), en[i]? = some e → es[i]? = some p → Rep ρ p.1 e.key ∧ Rep ρ p.2 e.val
  | .chan cap buf ns nr => ∃ g, ∃ us : List Value, ρ s = some (g, 0, 0) ∧ w.heap[g]? = some (.chan cap ⟨us⟩ false ns nr false) ∧ X.w0.heap.size ≤ g ∧ us.length = buf.length ∧
      ∀ (j : Nat) (x : CV) (u : Value), buf[j]? = some x → us[j]? = some u → Rep ρ x u
/-- What memory holds of names. -/
structure HRel (X : Ctx) (ρ : Nat → Option (Nat × Nat × Nat)) (H : Nat → CO) (w : World) : Prop where
  ob : ∀ s, Desc X ρ w s (H s)
  sep : ∀ s s' g b z b' z', (H s).live = true → (H s').live = true → ρ s = some (g, b, z) → ρ s' = some (g, b', z') → s = s'
  fresh : ∀ s, H s = .none → ρ s = none
  ext : ∀ s y, X.r0 s = some y → ρ s = some y
  os : w.os = X.w0.os
  tape : w.tape = X.w0.tape
  output : w.output = X.w0.output
  size : X.w0.heap.size ≤ w.heap.size
  frame : ∀ g, g < X.w0.heap.size → w.heap[g]? = X.w0.heap[g]?
structure Rel (X : Ctx) (n : Nat) (M : Unit) (ρ : Nat → Option (Nat × Nat × Nat)) (σ : AS) (a : Act) (w : World) : Prop extends HRel X ρ σ.H w where
  sz : a.tmps.size = n
  tm : ∀ i, Rep ρ (σ.T i) (a.tmps.getD i undef)
  df : a.defers = []
structure Rule where
  tr : List (Nat × CV)
  hr : List (Nat × CO)
  dst : Option Nat
  y : CV
  hw : List (Nat × CO)
def Rule.fires (r : Rule) (σ : AS) : Prop := (∀ p ∈ r.tr, σ.T p.1 = p.2) ∧ (∀ p ∈ r.hr, σ.H p.1 = p.2)
def hups : List (Nat × CO) → AS → AS
  | [], σ => σ
  | p :: l, σ => hups l (σ.hup p.1 p.2)
def Rule.apply (r : Rule) (σ : AS) : AS := (hups r.hw σ).put r.dst r.y
def qi (P : Program) (X : Ctx) (n : Nat) (ops : Array Oper) (o : Oper) (r : Rule) : Prop :=
  (∀ d, o.dst = some d → d < n) → ∀ M ρ σ a w, r.fires σ → Rel X n M ρ σ a w → ∀ K Q, (∀ M' ρ' a' w', Rel X n M' ρ' (r.apply σ) a' w' → K a' w') →
    (if Region.wanted o (yielded ops a.tmps) = true then Oper.wp P o a w K Q else K (a.put o.dst undef) w)
def aU (P : Program) (X : Ctx) (n : Nat) (ops : Array Oper) : List Oper → List Rule → AS → (List Rule → AS → Prop) → Prop
  | [], acc, σ, K => K acc.reverse σ
  | o :: os, acc, σ, K => ∃ r, qi P X n ops o r ∧ r.fires σ ∧ aU P X n ops os (r :: acc) (r.apply σ) K
structure Exec (P : Program) (X : Ctx) (n : Nat) (ops : Array Oper) (os : List Oper) (acc : List Rule) (σ : AS) (K : List Rule → AS → Prop) : Prop where
  run : aU P X n ops os acc σ K
def runR : List Rule → AS → AS
  | [], σ => σ
  | r :: rs, σ => runR rs (r.apply σ)
theorem jk : ∀ (rs : List Rule) (r : Rule) (σ : AS), runR (rs ++ [r]) σ = r.apply (runR rs σ)
  | [], _, _ => rfl
  | x :: rs, r, σ => jk rs r (x.apply σ)
theorem aU.rules {P : Program} {X : Ctx} {n : Nat} {ops : Array Oper} {K : List Rule → AS → Prop} : ∀ (os : List Oper) (acc : List Rule) (σ0 : AS), aU P X n ops os acc (runR acc.reverse σ0) K →
    ∃ rs : List Rule, rs.length = acc.length + os.length ∧ (∃ ts, rs = acc.reverse ++ ts) ∧ (∀ i o, os[i]? = some o → ∃ r, rs[acc.length + i]? = some r ∧ qi P X n ops o r ∧ r.fires (runR (rs.take (acc.length + i)) σ0)) ∧ K rs (runR rs σ0)
  | [], acc, σ0, h => ⟨acc.reverse, by simp, ⟨[], by simp⟩, by simp, h⟩
  | o :: os, acc, σ0, h => by
    obtain ⟨r, h1, h2, h3⟩ := h
    have e : r.apply (runR acc.reverse σ0) = runR (r :: acc).reverse σ0 := by rw [List.reverse_cons, jk]
    rw [e] at h3
    obtain ⟨rs, hl, ⟨ts, ht⟩, hr, hK⟩ := aU.rules os (r :: acc) σ0 h3
    rw [List.reverse_cons, List.append_assoc] at ht
    refine ⟨rs, by simp at hl ⊢; omega, ⟨_, ht⟩, fun i o' ho => ?_, hK⟩
    cases i with
    | zero =>
      simp at ho
      subst ho
      refine ⟨r, by rw [ht, List.getElem?_append_right (by simp)]; simp, h1, ?_⟩
      rw [ht, List.take_append_of_le_length (by simp), List.take_of_length_le (by simp)]
      exact h2
    | succ i =>
      have := hr i o' (by simpa using ho)
      rw [show (r :: acc).length + i = acc.length + (i + 1) by simp; omega] at this
      exact this
def qI (n : Nat) (ops : List Oper) : Bool := ops.all fun o => match o.dst with | none => true | some d => Nat.blt d n
theorem aN {n : Nat} {ops : Array Oper} (h : qI n ops.toList = true) {i : Nat} {o : Oper} (ho : ops[i]? = some o) : ∀ d, o.dst = some d → d < n := by
  intro d hd
  have hm : o ∈ ops.toList := by simpa using Array.mem_of_getElem? ho
  have := List.all_eq_true.1 h o hm
  rw [hd] at this
  exact Nat.le_of_ble_eq_true this
/-- A region in the text's order. -/
theorem oL {P : Program} {X : Ctx} {n : Nat} {ops : Array Oper} {rs : List Rule} {σ : AS} {Q : Exit → Act → World → Prop} (hl : rs.length = ops.size) (hd : qI n ops.toList = true)
    (hr : ∀ i o, ops[i]? = some o → ∃ r, rs[i]? = some r ∧ qi P X n ops o r ∧ r.fires (runR (rs.take i) σ))
    (hQ : ∀ M ρ a w, Rel X n M ρ (runR rs σ) a w → Q .normal a w) :
    ∀ (m i : Nat), i + m = ops.size → ∀ M ρ a w, Rel X n M ρ (runR (rs.take i) σ) a w → wpOps P ops Q (List.range' i m) a w := by
  intro m
  induction m with
  | zero =>
    intro i hi M ρ a w h
    rw [List.take_of_length_le (by omega)] at h
    exact hQ M ρ a w h
  | succ m ih =>
    intro i hi M ρ a w h
    have hlt : i < ops.size := by omega
    have ho : ops[i]? = some ops[i] := Array.getElem?_eq_getElem hlt
    obtain ⟨r, h1, h2, h3⟩ := hr i _ ho
    rw [List.range'_succ]
    unfold wpOps
    rw [ho]
    simp only
    have e : runR (rs.take (i + 1)) σ = r.apply (runR (rs.take i) σ) := by
      rw [yr h1, jk]
    have := h2 (aN hd ho) M ρ _ a w h3 h (wpOps P ops Q (List.range' (i + 1) m)) Q (fun M' ρ' a' w' hh => ih (i + 1) (by omega) M' ρ' a' w' (by rw [e]; exact hh))
    split
    · rename_i hw; rw [if_pos hw] at this; exact .inl this
    · rename_i hw; rw [if_neg hw] at this; exact this
structure AWp (P : Program) (X : Ctx) (n : Nat) (c : Code) (Q : Exit → AS → Prop) (σ : AS) : Prop where
  run : ∀ M ρ a w, Rel X n M ρ σ a w → c.wp P (fun e a' w' => ∃ M' ρ' σ', Rel X n M' ρ' σ' a' w' ∧ Q e σ') a w
section
variable {P : Program} {X : Ctx} {n : Nat} {σ : AS} {Q : Exit → AS → Prop}
theorem pQ {id : Nat} {ops : Array Oper} (hd : qI n ops.toList = true) (h : Exec P X n ops ops.toList [] σ (fun _ τ => Q .normal τ)) : AWp P X n (.region id ops false) Q σ := by
  refine ⟨?_⟩
  intro M ρ a w hR
  obtain ⟨rs, hl, _, hr, hK⟩ := aU.rules ops.toList [] σ h.run
  simp at hl hr
  refine wp_region ?_
  rw [List.range_eq_range']
  exact oL (X := X) (rs := rs) (σ := σ) hl hd (fun i o ho => hr i o ho) (fun M' ρ' a' w' hh => ⟨M', ρ', _, hh, hK⟩) ops.size 0 (by omega) M ρ a w (by simpa [runR] using hR)
def mH (K : AS → Prop) (Q : Exit → AS → Prop) : Exit → AS → Prop
  | .normal, τ => K τ
  | e, τ => Q e τ
def qk (id : Nat) (Q : Exit → AS → Prop) : Exit → AS → Prop
  | .exit id', τ => bif Nat.beq id' id then Q .normal τ else Q (.exit id') τ
  | e, τ => Q e τ
theorem zp {x y : Code} (h : AWp P X n x (mH (AWp P X n y Q) Q) σ) : AWp P X n (.seq x y) Q σ := by
  refine ⟨?_⟩
  intro M ρ a w hR
  refine wp_seq (wp_mono (h.run M ρ a w hR) ?_)
  rintro e a' w' ⟨M', ρ', σ', hR', hQ⟩
  cases e <;> first | exact hQ.run M' ρ' a' w' hR' | exact ⟨M', ρ', σ', hR', hQ⟩
theorem yT (h : Q .normal σ) : AWp P X n .skip Q σ := ⟨fun M ρ a w hR => wp_skip ⟨M, ρ, σ, hR, h⟩⟩
theorem aT {id : Nat} (h : Q (.exit id) σ) : AWp P X n (.exit id) Q σ := ⟨fun M ρ a w hR => wp_exit ⟨M, ρ, σ, hR, h⟩⟩
theorem yF (h : Q .ret σ) : AWp P X n .ret Q σ := ⟨fun M ρ a w hR => wp_ret ⟨M, ρ, σ, hR, h⟩⟩
theorem yi {id : Nat} {c : Code} (h : AWp P X n c (qk id Q) σ) : AWp P X n (.block id c) Q σ := by
  refine ⟨?_⟩
  intro M ρ a w hR
  refine wp_block (wp_mono (h.run M ρ a w hR) ?_)
  rintro e a' w' ⟨M', ρ', σ', hR', hQ⟩
  cases e with
  | exit id' =>
    unfold qk at hQ
    show if id' = id then _ else _
    by_cases he : id' = id
    · subst he
      rw [if_pos rfl]
      exact ⟨M', ρ', σ', hR', by simpa using hQ⟩
    · rw [if_neg he]
      have hb : Nat.beq id' id = false := zV he
      change bif Nat.beq id' id then _ else _ at hQ
      rw [hb] at hQ
      exact ⟨M', ρ', σ', hR', hQ⟩
  | _ => exact ⟨M', ρ', σ', hR', hQ⟩
theorem kJ {t : Nat} {x y : Code} {b : Bool} (hc : σ.T t = .v (.bool b)) (h1 : b = true → AWp P X n x Q σ) (h2 : b = false → AWp P X n y Q σ) : AWp P X n (.cond (.tmp t) x y) Q σ := by
  refine ⟨?_⟩
  intro M ρ a w hR
  have h0 := hR.tm t
  rw [hc] at h0
  have he : a.eval (.tmp t) = .bool b := by
    show a.tmps.getD t undef = _
    exact h0.v_inv
  exact wp_cond_split he (fun e => (h1 e).run M ρ a w hR) (fun e => (h2 e).run M ρ a w hR)
end
def Rule.wT (r : Rule) (t : Nat) : Option CV := match r.dst with
  | some d => bif Nat.beq t d then some r.y else none
  | none => none
def yC : List (Nat × CO) → Nat → Option CO
  | [], _ => none
  | p :: l, s => match yC l s with
    | some h => some h
    | none => bif Nat.beq s p.1 then some p.2 else none
theorem qt : ∀ (l : List (Nat × CO)) (σ : AS), (hups l σ).T = σ.T
  | [], _ => rfl
  | p :: l, σ => qt l _
theorem mA : ∀ (l : List (Nat × CO)) (σ : AS) (s : Nat), (hups l σ).H s = (yC l s).getD (σ.H s)
  | [], _, _ => rfl
  | p :: l, σ, s => by
    unfold hups yC
    rw [mA l]
    cases h : yC l s with
    | some x => rfl
    | none =>
      simp only [AS.hup]
      cases Nat.beq s p.1 <;> rfl
theorem dJ (r : Rule) (σ : AS) (t : Nat) : (r.apply σ).T t = (r.wT t).getD (σ.T t) := by
  unfold Rule.apply Rule.wT
  cases r.dst with
  | none => simp [AS.put, qt]
  | some d =>
    simp only [AS.put, qt]
    cases Nat.beq t d <;> rfl
theorem bD (r : Rule) (σ : AS) (s : Nat) : (r.apply σ).H s = (yC r.hw s).getD (σ.H s) := by
  unfold Rule.apply
  rw [← mA]
  cases r.dst <;> rfl
def valN {α : Type} (f : Nat → Option α) (d : α) : Nat → α
  | 0 => d
  | m + 1 => (f m).getD (valN f d m)
theorem yo {α : Type} {f g : Nat → Option α} {d : α} : ∀ {m : Nat}, (∀ j, j < m → f j = g j) → valN f d m = valN g d m
  | 0, _ => rfl
  | m + 1, h => by rw [valN, valN, h m (by omega), yo fun j hj => h j (by omega)]
theorem jo {α : Type} {f : Nat → Option α} {d : α} {i : Nat} : ∀ {m : Nat}, i ≤ m → (∀ j, i ≤ j → j < m → f j = none) → valN f d m = valN f d i
  | 0, h, _ => by obtain rfl : i = 0 := by omega
                  rfl
  | m + 1, h, hn => by
    by_cases he : i = m + 1
    · rw [he]
    · rw [valN, hn m (by omega) (by omega)]
      exact jo (by omega) fun j h1 h2 => hn j h1 (by omega)
theorem cN {α : Type} {f : Nat → Option α} {d y : α} {i m : Nat} (hi : i < m) (hf : f i = some y) (hn : ∀ j, i < j → j < m → f j = none) : valN f d m = y := by
  rw [jo (i := i + 1) (by omega) fun j h1 h2 => hn j (by omega) h2, valN, hf]; rfl
def runN (rs : List Rule) (p : Nat → Bool) (σ : AS) : Nat → AS
  | 0 => σ
  | m + 1 => match rs[m]? with
    | some r => bif p m then r.apply (runN rs p σ m) else runN rs p σ m
    | none => runN rs p σ m
theorem cP (rs : List Rule) (p : Nat → Bool) (σ : AS) (t : Nat) : ∀ m, (runN rs p σ m).T t = valN (fun j => bif p j then (rs[j]?).bind (·.wT t) else none) (σ.T t) m
  | 0 => rfl
  | m + 1 => by
    rw [runN, valN, ← cP rs p σ t m]
    cases h : rs[m]? with
    | none => cases p m <;> rfl
    | some r =>
      cases p m
      · rfl
      · simp only [cond_true, Option.bind_some]; exact dJ r _ t
theorem cS (rs : List Rule) (p : Nat → Bool) (σ : AS) (s : Nat) : ∀ m, (runN rs p σ m).H s = valN (fun j => bif p j then (rs[j]?).bind (fun r => yC r.hw s) else none) (σ.H s) m
  | 0 => rfl
  | m + 1 => by
    rw [runN, valN, ← cS rs p σ s m]
    cases h : rs[m]? with
    | none => cases p m <;> rfl
    | some r =>
      cases p m
      · rfl
      · simp only [cond_true, Option.bind_some]; exact bD r _ s
theorem qQ (rs : List Rule) (p : Nat → Bool) (σ : AS) : ∀ m, (∀ j, j < m → p j = true) → runN rs p σ m = runR (rs.take m) σ
  | 0, _ => rfl
  | m + 1, h => by
    rw [runN, qQ rs p σ m fun j hj => h j (by omega), h m (by omega)]
    cases hr : rs[m]? with
    | none =>
      have : rs.length ≤ m := by simpa using hr
      rw [List.take_of_length_le this, List.take_of_length_le (by omega)]
    | some r => rw [yr hr, jk]; rfl
def disj (l l' : List Nat) : Bool := l.all fun x => l'.all fun y => !Nat.beq x y
theorem yz {l l' : List Nat} (h : disj l l' = true) {x : Nat} (h1 : x ∈ l) (h2 : x ∈ l') : False := by
  have := List.all_eq_true.1 (List.all_eq_true.1 h x h1) x h2
  simp [Nat.beq_refl] at this
def apart (r q : Rule) : Bool :=
  disj r.dst.toList (q.tr.map (·.1) ++ q.dst.toList) && disj q.dst.toList (r.tr.map (·.1)) && disj (r.hw.map (·.1)) (q.hr.map (·.1) ++ q.hw.map (·.1)) && disj (q.hw.map (·.1)) (r.hr.map (·.1))
theorem dH {r : Rule} {t : Nat} {y : CV} (h : r.wT t = some y) : t ∈ r.dst.toList := by
  unfold Rule.wT at h
  cases hd : r.dst with
  | none => rw [hd] at h; cases h
  | some d =>
    rw [hd] at h
    cases hb : Nat.beq t d
    · simp [hb] at h
    · simp [Nat.eq_of_beq_eq_true hb]
theorem yw : ∀ {l : List (Nat × CO)} {s : Nat} {h : CO}, yC l s = some h → s ∈ l.map (·.1)
  | p :: l, s, h, e => by
    unfold yC at e
    cases hl : yC l s with
    | some x => exact List.mem_cons_of_mem _ (yw hl)
    | none =>
      rw [hl] at e
      cases hb : Nat.beq s p.1
      · simp [hb] at e
      · rw [Nat.eq_of_beq_eq_true hb]; simp
def force {α : Type} (n : Nat) (k : Nat → α) : α := match n with
  | 0 => k 0
  | m + 1 => k (m + 1)
theorem cB {α : Type} (n : Nat) (k : Nat → α) : force n k = k n := by cases n <;> rfl
def bef1 (acc : List Nat) : List Edge → Nat → Nat
  | [], s => s
  | e :: es, s => bif Region.binds .any e then force (s ||| 2 ^ e.on ||| acc.getD e.on 0) (bef1 acc es) else bef1 acc es s
def befs : List Oper → List Nat → List Nat
  | [], acc => acc
  | o :: os, acc => force (bef1 acc o.after.toList 0) fun b => befs os (acc ++ [b])
inductive Pre (ops : Array Oper) : Nat → Nat → Prop where
  | one {i j : Nat} {o : Oper} {e : Edge} (ho : ops[j]? = some o) (he : e ∈ o.after) (hb : Region.binds .any e = true) (hi : e.on = i) : Pre ops i j
  | more {i m j : Nat} {o : Oper} {e : Edge} (h : Pre ops i m) (ho : ops[j]? = some o) (he : e ∈ o.after) (hb : Region.binds .any e = true) (hi : e.on = m) : Pre ops i j
theorem aJ {ops : Array Oper} {acc : List Nat} {j : Nat} {o : Oper} (ho : ops[j]? = some o) (hacc : ∀ m i, (acc.getD m 0).testBit i = true → Pre ops i m) :
    ∀ (es : List Edge) (s : Nat), (∀ e ∈ es, e ∈ o.after) → (∀ i, s.testBit i = true → Pre ops i j) → ∀ i, (bef1 acc es s).testBit i = true → Pre ops i j
  | [], s, _, hs, i, h => hs i h
  | e :: es, s, he, hs, i, h => by
    unfold bef1 at h
    cases hb : Region.binds .any e
    · rw [hb] at h
      exact aJ ho hacc es s (fun x hx => he x (by simp [hx])) hs i h
    · rw [hb, cond_true, cB] at h
      refine aJ ho hacc es _ (fun x hx => he x (by simp [hx])) (fun i hi => ?_) i h
      rw [Nat.testBit_or, Nat.testBit_or, Bool.or_eq_true, Bool.or_eq_true] at hi
      rcases hi with (h1 | h1) | h1
      · exact hs i h1
      · rw [Nat.testBit_two_pow] at h1
        exact .one ho (he e (by simp)) hb (by simpa using h1)
      · exact .more (hacc e.on i h1) ho (he e (by simp)) hb rfl
theorem eM {ops : Array Oper} : ∀ (os : List Oper) (acc : List Nat), (∀ k, ops[acc.length + k]? = os[k]?) → (∀ m i, (acc.getD m 0).testBit i = true → Pre ops i m) →
    ∀ m i, ((befs os acc).getD m 0).testBit i = true → Pre ops i m
  | [], acc, _, hacc => hacc
  | o :: os, acc, hk, hacc => by
    unfold befs
    rw [cB]
    refine eM os _ (fun k => by have := hk (k + 1); simpa [Nat.add_assoc, Nat.add_comm 1 k] using this) (fun m i h => ?_)
    rw [List.getD_eq_getElem?_getD, List.getElem?_append] at h
    split at h
    · exact hacc m i (by rw [List.getD_eq_getElem?_getD]; exact h)
    · rename_i hm
      have ho : ops[acc.length]? = some o := by simpa using hk 0
      by_cases he : m = acc.length
      · subst he
        simp at h
        exact aJ ho hacc _ 0 (fun e he => by simpa using he) (by simp) i h
      · rw [List.getElem?_eq_none (by simp; omega)] at h
        simp at h
/-- Operations that may come in any order do not meet. -/
structure Indep (ops : Array Oper) (rs : List Rule) : Prop where
  ap : ∀ (i j : Nat) (r q : Rule), rs[i]? = some r → rs[j]? = some q → i < j → Pre ops i j ∨ apart r q = true
  back : ∀ (j : Nat) (o : Oper) (e : Edge), ops[j]? = some o → e ∈ o.after → Region.binds .any e = true → e.on < j
theorem dB {σ τ : AS} (h1 : ∀ t, σ.T t = τ.T t) (h2 : ∀ s, σ.H s = τ.H s) : σ = τ := by
  cases σ; cases τ
  simp only [AS.mk.injEq]
  exact ⟨funext h1, funext h2⟩
theorem kU {r q : Rule} (h : apart r q = true) {t : Nat} {y : CV} (hw : r.wT t = some y) : t ∉ q.tr.map (·.1) ∧ q.wT t = none := by
  unfold apart at h
  simp only [Bool.and_eq_true] at h
  have hm := dH hw
  refine ⟨fun hx => yz h.1.1.1 hm (List.mem_append_left _ hx), ?_⟩
  cases hq : q.wT t with
  | none => rfl
  | some z => exact (yz h.1.1.1 hm (List.mem_append_right _ (dH hq))).elim
theorem pB {r q : Rule} (h : apart r q = true) {t : Nat} {y : CV} (hw : q.wT t = some y) : t ∉ r.tr.map (·.1) ∧ r.wT t = none := by
  unfold apart at h
  simp only [Bool.and_eq_true] at h
  have hm := dH hw
  refine ⟨fun hx => yz h.1.1.2 hm hx, ?_⟩
  cases hq : r.wT t with
  | none => rfl
  | some z => exact (yz h.1.1.1 (dH hq) (List.mem_append_right _ hm)).elim
theorem kM {r q : Rule} (h : apart r q = true) {s : Nat} {y : CO} (hw : yC r.hw s = some y) : s ∉ q.hr.map (·.1) ∧ yC q.hw s = none := by
  unfold apart at h
  simp only [Bool.and_eq_true] at h
  have hm := yw hw
  refine ⟨fun hx => yz h.1.2 hm (List.mem_append_left _ hx), ?_⟩
  cases hq : yC q.hw s with
  | none => rfl
  | some z => exact (yz h.1.2 hm (List.mem_append_right _ (yw hq))).elim
theorem pF {r q : Rule} (h : apart r q = true) {s : Nat} {y : CO} (hw : yC q.hw s = some y) : s ∉ r.hr.map (·.1) ∧ yC r.hw s = none := by
  unfold apart at h
  simp only [Bool.and_eq_true] at h
  have hm := yw hw
  refine ⟨fun hx => yz h.2 hm hx, ?_⟩
  cases hq : yC r.hw s with
  | none => rfl
  | some z => exact (yz h.1.2 (yw hq) (List.mem_append_right _ hm)).elim
section
variable {P : Program} {X : Ctx} {n : Nat} {ops : Array Oper} {rs : List Rule} {σ : AS} {Q : Exit → Act → World → Prop}
/-- An operation that is ready fires where some of those that stand before it, and some behind it that are not ordered with it, have been taken. -/
theorem tS {D : Nat → Bool} (hl : rs.length = ops.size) (hind : Indep ops rs) {i : Nat} {r : Rule} (hr : rs[i]? = some r) (hf : r.fires (runR (rs.take i) σ))
    (hpre : ∀ m, Pre ops m i → D m = true) (hD : D i = false) (hdown : ∀ m j, Pre ops m j → D j = true → D m = true) : r.fires (runN rs D σ ops.size) := by
  have hi : i < ops.size := by have := zM hr; omega
  rw [← qQ rs (fun _ => true) σ i fun _ _ => rfl] at hf
  constructor
  · intro p hp
    have h1 := hf.1 p hp
    rw [cP] at h1 ⊢
    rw [← h1]
    rw [jo (i := i) (by omega) (fun j h2 h3 => by
      cases hj : D j
      · rfl
      · simp only [cond_true]
        cases hq : rs[j]? with
        | none => rfl
        | some q =>
          simp only [Option.bind_some]
          cases hw : q.wT p.1 with
          | none => rfl
          | some y =>
            exfalso
            have hne : i ≠ j := by rintro rfl; rw [hD] at hj; cases hj
            rcases hind.ap _ _ _ _ hr hq (by omega) with h4 | h4
            · rw [hdown i j h4 hj] at hD; cases hD
            · exact (pB h4 hw).1 (List.mem_map_of_mem hp))]
    refine yo fun j hj => ?_
    simp only [cond_true]
    cases hq : rs[j]? with
    | none => cases D j <;> rfl
    | some q =>
      cases hw : q.wT p.1 with
      | none => cases D j <;> simp [hw]
      | some y =>
        rcases hind.ap _ _ _ _ hq hr hj with h4 | h4
        · rw [hpre j h4]; rfl
        · exact absurd (List.mem_map_of_mem hp) (kU h4 hw).1
  · intro p hp
    have h1 := hf.2 p hp
    rw [cS] at h1 ⊢
    rw [← h1]
    rw [jo (i := i) (by omega) (fun j h2 h3 => by
      cases hj : D j
      · rfl
      · simp only [cond_true]
        cases hq : rs[j]? with
        | none => rfl
        | some q =>
          simp only [Option.bind_some]
          cases hw : yC q.hw p.1 with
          | none => rfl
          | some y =>
            exfalso
            have hne : i ≠ j := by rintro rfl; rw [hD] at hj; cases hj
            rcases hind.ap _ _ _ _ hr hq (by omega) with h4 | h4
            · rw [hdown i j h4 hj] at hD; cases hD
            · exact (pF h4 hw).1 (List.mem_map_of_mem hp))]
    refine yo fun j hj => ?_
    simp only [cond_true]
    cases hq : rs[j]? with
    | none => cases D j <;> rfl
    | some q =>
      cases hw : yC q.hw p.1 with
      | none => cases D j <;> simp [hw]
      | some y =>
        rcases hind.ap _ _ _ _ hq hr hj with h4 | h4
        · rw [hpre j h4]; rfl
        · exact absurd (List.mem_map_of_mem hp) (kM h4 hw).1
theorem uB {D : Nat → Bool} (hl : rs.length = ops.size) (hind : Indep ops rs) {i : Nat} {r : Rule} (hr : rs[i]? = some r)
    (hD : D i = false) (hdown : ∀ m j, Pre ops m j → D j = true → D m = true) : r.apply (runN rs D σ ops.size) = runN rs (fun j => Nat.beq j i || D j) σ ops.size := by
  have hi : i < ops.size := by have := zM hr; omega
  have hself : Nat.beq i i = true := Nat.beq_refl i
  have hlate : ∀ j, i < j → D j = true → ∀ q, rs[j]? = some q → apart r q = true := fun j h1 hj q hq => by
    rcases hind.ap _ _ _ _ hr hq h1 with h4 | h4
    · rw [hdown i j h4 hj] at hD; cases hD
    · exact h4
  refine dB (fun t => ?_) (fun s => ?_)
  · rw [dJ, cP, cP]
    cases hw : r.wT t with
    | some y =>
      refine (cN (i := i) hi (by simp only [hself, Bool.true_or, cond_true, hr, Option.bind_some]; exact hw) (fun j h1 h2 => ?_)).symm
      rw [show Nat.beq j i = false from zV (by omega), Bool.false_or]
      cases hj : D j
      · rfl
      · simp only [cond_true]
        cases hq : rs[j]? with
        | none => rfl
        | some q => exact (kU (hlate j h1 hj q hq) hw).2
    | none =>
      refine yo fun j hj => ?_
      by_cases he : j = i
      · subst he
        simp only [hD, hself, Bool.true_or, cond_true, cond_false, hr, Option.bind_some, hw]
      · rw [zV he, Bool.false_or]
  · rw [bD, cS, cS]
    cases hw : yC r.hw s with
    | some y =>
      refine (cN (i := i) hi (by simp only [hself, Bool.true_or, cond_true, hr, Option.bind_some]; exact hw) (fun j h1 h2 => ?_)).symm
      rw [show Nat.beq j i = false from zV (by omega), Bool.false_or]
      cases hj : D j
      · rfl
      · simp only [cond_true]
        cases hq : rs[j]? with
        | none => rfl
        | some q => exact (kM (hlate j h1 hj q hq) hw).2
    | none =>
      refine yo fun j hj => ?_
      by_cases he : j = i
      · subst he
        simp only [hD, hself, Bool.true_or, cond_true, cond_false, hr, Option.bind_some, hw]
      · rw [zV he, Bool.false_or]
def jp (l : List Bool) : Nat := l.countP (fun b => !b)
theorem cJ : ∀ (l : List Bool) (i : Nat), l[i]? = some false → jp (l.set i true) + 1 = jp l
  | [], i, h => by simp at h
  | b :: l, 0, h => by
    simp at h
    subst h
    simp [jp, List.countP_cons]
  | b :: l, i + 1, h => by
    have := cJ l i (by simpa using h)
    simp only [jp, List.set_cons_succ, List.countP_cons] at this ⊢
    omega
theorem aI : ∀ (l : List Bool), jp l = 0 → ∀ i, i < l.length → l[i]? = some true
  | [], _, i, h => by simp at h
  | b :: l, h0, i, hi => by
    simp only [jp, List.countP_cons] at h0
    cases b
    · simp at h0
    · cases i with
      | zero => rfl
      | succ i => simpa using aI l (by simpa [jp] using h0) i (by simpa using hi)
theorem iD (hl : rs.length = ops.size) (hind : Indep ops rs) {listed : Array Bool} (hs : listed.size = ops.size) (hr : Region.ready .any ops listed = []) :
    ∀ j, j < ops.size → listed.getD j false = true := by
  intro j
  induction j using Nat.strongRecOn with
  | _ j ih =>
    intro hj
    cases hc : listed.getD j false with
    | true => rfl
    | false =>
      exfalso
      have hm : j ∈ Region.ready .any ops listed := by
        rw [mem_ready]
        refine ⟨?_, ops[j], Array.getElem?_eq_getElem hj, fun e he hb => ?_⟩
        · simp only [Array.getD] at hc ⊢
          rw [dif_pos (by omega)] at hc ⊢
          exact hc
        · have := hind.back _ _ _ (Array.getElem?_eq_getElem hj) he hb
          exact ih e.on this (by omega)
      rw [hr] at hm
      cases hm
theorem uG (hl : rs.length = ops.size) (hd : qI n ops.toList = true) (hind : Indep ops rs)
    (hr : ∀ i o, ops[i]? = some o → ∃ r, rs[i]? = some r ∧ qi P X n ops o r ∧ r.fires (runR (rs.take i) σ))
    (hQ : ∀ M ρ a w, Rel X n M ρ (runR rs σ) a w → Q .normal a w) :
    ∀ (fuel : Nat) (listed : Array Bool), listed.size = ops.size → jp listed.toList ≤ fuel → (∀ m j, Pre ops m j → listed.getD j false = true → listed.getD m false = true) →
      ∀ M ρ a w, Rel X n M ρ (runN rs (fun j => listed.getD j false) σ ops.size) a w → wpAny P .any ops Q fuel listed a w := by
  have hdone : ∀ (listed : Array Bool), listed.size = ops.size → Region.ready .any ops listed = [] → ∀ M ρ a w, Rel X n M ρ (runN rs (fun j => listed.getD j false) σ ops.size) a w → Q .normal a w := by
    intro listed hs h0 M ρ a w hR
    rw [qQ rs _ σ ops.size (fun j hj => iD hl hind hs h0 j hj), List.take_of_length_le (by omega)] at hR
    exact hQ M ρ a w hR
  intro fuel
  induction fuel with
  | zero =>
    intro listed hs hn hdown M ρ a w hR
    have hall : Region.ready .any ops listed = [] := by
      rw [List.eq_nil_iff_forall_not_mem]
      intro j hj
      rw [mem_ready] at hj
      obtain ⟨h1, o, ho, _⟩ := hj
      have hlt : j < ops.size := (Array.getElem?_eq_some_iff.1 ho).1
      have h2 := aI listed.toList (by omega) j (by simpa using (by omega))
      simp only [Array.getD] at h1
      rw [dif_pos (by omega)] at h1
      simp at h2
      rw [Array.getElem?_eq_getElem (by omega)] at h2
      injection h2 with h2
      simp [h2] at h1
    exact ⟨hall, hdone listed hs hall M ρ a w hR⟩
  | succ fuel ih =>
    intro listed hs hn hdown M ρ a w hR
    refine ⟨fun h0 => hdone listed hs h0 M ρ a w hR, fun i hi => ?_⟩
    rw [mem_ready] at hi
    obtain ⟨h1, o, ho, hpr⟩ := hi
    have hlt : i < ops.size := (Array.getElem?_eq_some_iff.1 ho).1
    have hDi : listed.getD i false = false := by
      simp only [Array.getD] at h1 ⊢
      rw [dif_pos (by omega)] at h1 ⊢
      exact h1
    have hpre : ∀ m, Pre ops m i → listed.getD m false = true := by
      intro m hm
      cases hm with
      | one ho' he hb hi' =>
        rw [ho] at ho'; injection ho' with ho'; subst ho'
        rw [← hi']; exact hpr _ he hb
      | more hp ho' he hb hi' =>
        rw [ho] at ho'; injection ho' with ho'; subst ho'
        exact hdown _ _ hp (by rw [← hi']; exact hpr _ he hb)
    obtain ⟨r, hri, hG, hf⟩ := hr i o ho
    have hfi := tS (D := fun j => listed.getD j false) hl hind hri hf hpre hDi hdown
    have hap := uB (D := fun j => listed.getD j false) (σ := σ) hl hind hri hDi hdown
    have hset : ∀ j, (listed.setIfInBounds i true).getD j false = (Nat.beq j i || listed.getD j false) := by
      intro j
      by_cases he : j = i
      · subst he
        rw [Nat.beq_refl]
        simp [hs, hlt]
      · rw [zV he, getD_set_ne false (Ne.symm he), Bool.false_or]
    have hcount : jp (listed.setIfInBounds i true).toList ≤ fuel := by
      have h3 : listed.toList[i]? = some false := by
        simp only [Array.getD] at hDi
        rw [dif_pos (by omega)] at hDi
        simp
        rw [Array.getElem?_eq_getElem (by omega)]
        exact congrArg some hDi
      have := cJ listed.toList i h3
      rw [Array.toList_setIfInBounds]
      omega
    have hdown' : ∀ m j, Pre ops m j → (listed.setIfInBounds i true).getD j false = true → (listed.setIfInBounds i true).getD m false = true := by
      intro m j hp hj
      rw [hset] at hj ⊢
      rw [Bool.or_eq_true] at hj ⊢
      rcases hj with hj | hj
      · rw [Nat.eq_of_beq_eq_true hj] at hp
        exact .inr (hpre m hp)
      · exact .inr (hdown m j hp hj)
    have := hG (aN hd ho) M ρ _ a w hfi hR (wpAny P .any ops Q fuel (listed.setIfInBounds i true)) Q (fun M' ρ' a' w' hh => by
      refine ih _ (by simpa using hs) hcount hdown' M' ρ' a' w' ?_
      rw [show (fun j => (listed.setIfInBounds i true).getD j false) = fun j => (Nat.beq j i || listed.getD j false) from funext hset, ← hap]
      exact hh)
    unfold wpOp
    rw [ho]
    simp only
    split
    · rename_i hw; rw [if_pos hw] at this; exact .inl this
    · rename_i hw; rw [if_neg hw] at this; exact this
end
section
variable {P : Program} {X : Ctx} {n : Nat} {σ : AS} {Q : Exit → AS → Prop}
theorem Rel.drawn {M : Unit} {ρ : Nat → Option (Nat × Nat × Nat)} {a : Act} {w : World} (h : Rel X n M ρ σ a w) (k : Nat) : Rel X n M ρ σ a { w with drawn := k } :=
  ⟨⟨h.ob, h.sep, h.fresh, h.ext, h.os, h.tape, h.output, h.size, h.frame⟩, h.sz, h.tm, h.df⟩
theorem uY {id : Nat} {ops : Array Oper} (hm : P.follows .mixedOrders = true) (hd : qI n ops.toList = true) (h : Exec P X n ops ops.toList [] σ (fun rs τ => Indep ops rs ∧ Q .normal τ)) : AWp P X n (.region id ops true) Q σ := by
  refine ⟨?_⟩
  intro M ρ a w hR
  obtain ⟨rs, hl, _, hr, hind, hK⟩ := aU.rules ops.toList [] σ h.run
  simp at hl hr
  refine wp_region_any hm ?_
  refine uG (X := X) (rs := rs) (σ := σ) hl hd hind (fun i o ho => hr i o ho) (fun M' ρ' a' w' hh => ⟨M', ρ', _, hh, hK⟩) ops.size _ (by simp) (by simp [jp]; exact Nat.le_trans List.countP_le_length (by simp)) (fun m j _ h => by simp [Array.getD] at h) M ρ a _ ?_
  have : runN rs (fun j => (Array.replicate ops.size false).getD j false) σ ops.size = σ := by
    have : ∀ m, runN rs (fun j => (Array.replicate ops.size false).getD j false) σ m = σ := by
      intro m
      induction m with
      | zero => rfl
      | succ m ih =>
        rw [runN, ih]
        have h0 : (Array.replicate ops.size false).getD m false = false := by simp [Array.getD]
        rw [h0]
        cases rs[m]? <;> rfl
    exact this _
  rw [this]
  exact hR.drawn _
end
end Go.Proofs.YtnafokinifbfhaaGreatDoor.Cx
