/- The executor: how memory moves under it: a slot laid, a block made, cells stored; what its operations are reckoned by; nothing of the program stands here; conditions: none / The executor's operations, one law each: values handed on, boxes made, read and written, fields, elements; nothing of the program stands here; conditions: tables of types that agree with the program's. -/
import Derived.Test.YtnafokinifbfhaaGreatDoorCxA
import Derived.Test.YtnafokinifbfhaaGreatDoorAbsE
import Derived.Test.YtnafokinifbfhaaGreatDoorAbsP
set_option linter.unusedVariables false
set_option linter.unusedSimpArgs false
namespace Go.Proofs.YtnafokinifbfhaaGreatDoor.Cx
open Go Go.RowKit
theorem fG (w : World) (o : Obj) : (w.alloc o).heap[w.heap.size]? = some o := by
  show (w.heap.push o)[w.heap.size]? = some o
  simp
abbrev Rho := Nat → Option (Nat × Nat × Nat)
def upd (ρ : Rho) (s : Nat) (v : Nat × Nat × Nat) : Rho := fun s' => if s' = s then some v else ρ s'
theorem yG (ρ : Rho) (s : Nat) (v : Nat × Nat × Nat) : upd ρ s v s = some v := by simp [upd]
theorem yX (ρ : Rho) {s s' : Nat} (v : Nat × Nat × Nat) (h : s' ≠ s) : upd ρ s v s' = ρ s' := by simp [upd, h]
theorem aW {ρ : Rho} {s : Nat} {v : Nat × Nat × Nat} (hn : ρ s = none) : ∀ s' y, ρ s' = some y → upd ρ s v s' = some y := by
  intro s' y h
  by_cases he : s' = s
  · subst he; rw [hn] at h; cases h
  · rw [yX ρ v he]; exact h
section
variable {X : Ctx} {n : Nat} {M : Unit} {ρ ρ' : Rho} {σ : AS} {a : Act} {w w' : World}
theorem Desc.mono {s : Nat} {co : CO} (h : Desc X ρ w s co) (hr : ∀ s y, ρ s = some y → ρ' s = some y) (hw : ∀ g b z, ρ s = some (g, b, z) → w'.heap[g]? = w.heap[g]?) (hf : ∀ g, g < X.w0.heap.size → w'.heap[g]? = w.heap[g]?) : Desc X ρ' w' s co := by
  cases co with
  | none => trivial
  | dead => trivial
  | row cs =>
    obtain ⟨g, b, us, t, h1, h2, h3, h4, h5⟩ := h
    exact ⟨g, b, us, t, hr _ _ h1, (hw g b _ h1).trans h2, h3, h4, fun j x hx => let ⟨u, u1, u2, u3⟩ := h5 j x hx; ⟨u, u1, u2.mono hr, u3⟩⟩
  | ro cs =>
    obtain ⟨h1, t, fr, h2⟩ := h
    exact ⟨h1, t, fr, (hf s h1).trans h2⟩
  | map es =>
    obtain ⟨g, en, h1, h2, h3, h4, h5, h6⟩ := h
    exact ⟨g, en, hr _ _ h1, (hw g _ _ h1).trans h2, h3, h4, h5, fun i e p a b => ⟨(h6 i e p a b).1.mono hr, (h6 i e p a b).2.mono hr⟩⟩
  | chan cap buf ns nr =>
    obtain ⟨g, us, h1, h2, h3, h4, h5⟩ := h
    exact ⟨g, us, hr _ _ h1, (hw g _ _ h1).trans h2, h3, h4, fun j x u a b => (h5 j x u a b).mono hr⟩
theorem Rel.put (h : Rel X n M ρ σ a w) {d : Option Nat} {y : CV} {u : Value} (hy : Rep ρ y u) (hd : ∀ i, d = some i → i < n) : Rel X n M ρ (σ.put d y) (a.put d u) w := by
  cases d with
  | none => exact h
  | some i =>
    have hi := hd i rfl
    refine ⟨⟨h.ob, h.sep, h.fresh, h.ext, h.os, h.tape, h.output, h.size, h.frame⟩, by simp [Act.put, h.sz], fun j => ?_, h.df⟩
    show Rep ρ (bif Nat.beq j i then y else σ.T j) ((a.tmps.setIfInBounds i u).getD j undef)
    by_cases he : j = i
    · subst he
      rw [Nat.beq_refl]
      have : (a.tmps.setIfInBounds j u).getD j undef = u := by simp [h.sz, hi]
      rw [this]
      exact hy
    · rw [zV he]
      have : (a.tmps.setIfInBounds i u).getD j undef = a.tmps.getD j undef := by simp [Array.getElem?_setIfInBounds_ne (Ne.symm he)]
      rw [this]
      exact h.tm j
theorem ja (σ : AS) (s : Nat) (c : CO) : (σ.hup s c).H s = c := by simp [AS.hup, Nat.beq_refl]
theorem zr (σ : AS) {s s' : Nat} (c : CO) (h : s' ≠ s) : (σ.hup s c).H s' = σ.H s' := by simp [AS.hup, zV h]
/-- The block of a live name. -/
theorem Desc.blk {s : Nat} {co : CO} (h : Desc X ρ w s co) (hl : co.live = true) : ∃ g b z, ρ s = some (g, b, z) ∧ g < w.heap.size ∧ X.w0.heap.size ≤ g := by
  cases co with
  | none => cases hl
  | dead => cases hl
  | row cs =>
    obtain ⟨g, b, us, t, h1, h2, h3, h4, h5⟩ := h
    exact ⟨g, b, _, h1, (Array.getElem?_eq_some_iff.1 h2).1, h3⟩
  | ro cs => cases hl
  | map es =>
    obtain ⟨g, en, h1, h2, h3, h4, h5, h6⟩ := h
    exact ⟨g, _, _, h1, (Array.getElem?_eq_some_iff.1 h2).1, h3⟩
  | chan cap buf ns nr =>
    obtain ⟨g, us, h1, h2, h3, h4, h5⟩ := h
    exact ⟨g, _, _, h1, (Array.getElem?_eq_some_iff.1 h2).1, h3⟩
/-- A block is made and takes a new name. -/
theorem Rel.newOb (h : Rel X n M ρ σ a w) {s : Nat} (hs : σ.H s = .none) (o : Obj) (co : CO) (z : Nat) (hco : co ≠ .none) (hd : Desc X (upd ρ s (w.heap.size, 0, z)) (w.alloc o) s co) : Rel X n M (upd ρ s (w.heap.size, 0, z)) (σ.hup s co) a (w.alloc o) := by
  have hn := h.fresh s hs
  have hm := aW (v := (w.heap.size, 0, z)) hn
  have hold : ∀ g, g < w.heap.size → (w.alloc o).heap[g]? = w.heap[g]? := fun g hg => by
    show (w.heap.push o)[g]? = _
    rw [Array.getElem?_push_lt hg, Array.getElem?_eq_getElem hg]
  refine ⟨⟨fun s' => ?_, fun s1 s2 g b z b' z' l1 l2 r1 r2 => ?_, fun s' hs' => ?_, fun s' y hy => hm _ _ (h.ext s' y hy), h.os, h.tape, h.output, by
    show _ ≤ (w.heap.push o).size
    rw [Array.size_push]; have := h.size; omega, fun g hg => (hold g (by have := h.size; omega)).trans (h.frame g hg)⟩, h.sz, fun i => (h.tm i).mono hm, h.df⟩
  · by_cases he : s' = s
    · subst he; rw [ja]; exact hd
    · rw [zr _ _ he]
      have h0 := h.ob s'
      cases hl : (σ.H s').live with
      | true =>
        obtain ⟨g, b, z, r, hlt, _⟩ := h0.blk hl
        exact h0.mono hm (fun g' b' z' r' => by rw [r] at r'; injection r' with r'; injection r' with r1 r2; subst r1; exact hold _ hlt) (fun g' hg' => hold g' (by have := h.size; omega))
      | false =>
        cases hH : σ.H s' with
        | none => trivial
        | dead => trivial
        | ro cs =>
          rw [hH] at h0
          obtain ⟨h1, t, fr, h2⟩ := h0
          exact ⟨h1, t, fr, (hold s' (by have := h.size; omega)).trans h2⟩
        | _ => rw [hH] at hl; cases hl
  · by_cases e1 : s1 = s
    · by_cases e2 : s2 = s
      · rw [e1, e2]
      · subst e1
        rw [yG] at r1
        injection r1 with r1; injection r1 with r1 _; subst r1
        rw [zr _ _ e2] at l2
        rw [yX _ _ e2] at r2
        obtain ⟨g', b', z', r', hlt, _⟩ := (h.ob s2).blk l2
        rw [r2] at r'; injection r' with r'; injection r' with r1 _; omega
    · by_cases e2 : s2 = s
      · subst e2
        rw [yG] at r2
        injection r2 with r2; injection r2 with r2 _; subst r2
        rw [zr _ _ e1] at l1
        rw [yX _ _ e1] at r1
        obtain ⟨g', b', z', r', hlt, _⟩ := (h.ob s1).blk l1
        rw [r1] at r'; injection r' with r'; injection r' with r1 _; omega
      · rw [zr _ _ e1] at l1
        rw [zr _ _ e2] at l2
        rw [yX _ _ e1] at r1
        rw [yX _ _ e2] at r2
        exact h.sep s1 s2 g b z b' z' l1 l2 r1 r2
  · by_cases he : s' = s
    · subst he
      rw [ja] at hs'
      exact absurd hs' hco
    · rw [zr _ _ he] at hs'
      rw [yX _ _ he]
      exact h.fresh s' hs'
/-- A live name's block is changed. -/
theorem Rel.chg (h : Rel X n M ρ σ a w) {s g b z : Nat} (hs : (σ.H s).live = true) (hr : ρ s = some (g, b, z)) (co : CO) (hco : co ≠ .none) (hw : ∀ g', g' ≠ g → w'.heap[g']? = w.heap[g']?) (e1 : w'.os = w.os) (e2 : w'.tape = w.tape) (e3 : w'.output = w.output) (e4 : w'.heap.size = w.heap.size)
    (hd : Desc X ρ w' s co) : Rel X n M ρ (σ.hup s co) a w' := by
  obtain ⟨g0, b0, z0, r0, hlt, hge⟩ := (h.ob s).blk hs
  rw [hr] at r0; injection r0 with r0; injection r0 with r1 r2; injection r2 with r2 r3; subst r1; subst r2; subst r3
  have hf : ∀ g', g' < X.w0.heap.size → w'.heap[g']? = w.heap[g']? := fun g' hg' => hw g' (by omega)
  refine ⟨⟨fun s' => ?_, fun s1 s2 g1 b1 z1 b2 z2 l1 l2 r1 r2 => ?_, fun s' hs' => ?_, h.ext, e1.trans h.os, e2.trans h.tape, e3.trans h.output, by rw [e4]; exact h.size, fun g' hg' => (hf g' hg').trans (h.frame g' hg')⟩, h.sz, h.tm, h.df⟩
  · by_cases he : s' = s
    · subst he; rw [ja]; exact hd
    · rw [zr _ _ he]
      have h0 := h.ob s'
      cases hl : (σ.H s').live with
      | true => exact h0.mono (fun _ _ e => e) (fun g' b' z' r' => hw g' (by rintro rfl; exact he (h.sep s' s g' b' z' b z hl hs r' hr))) hf
      | false =>
        cases hH : σ.H s' with
        | none => trivial
        | dead => trivial
        | ro cs =>
          rw [hH] at h0
          obtain ⟨h1, t, fr, h2⟩ := h0
          exact ⟨h1, t, fr, (hf s' h1).trans h2⟩
        | _ => rw [hH] at hl; cases hl
  · refine h.sep s1 s2 g1 b1 z1 b2 z2 ?_ ?_ r1 r2
    · by_cases he : s1 = s
      · subst he; exact hs
      · rw [zr _ _ he] at l1; exact l1
    · by_cases he : s2 = s
      · subst he; exact hs
      · rw [zr _ _ he] at l2; exact l2
  · by_cases he : s' = s
    · subst he
      rw [ja] at hs'
      exact absurd hs' hco
    · rw [zr _ _ he] at hs'
      exact h.fresh s' hs'
/-- A live name's block goes over to a new name. -/
theorem Rel.take (h : Rel X n M ρ σ a w) {s s' g b z : Nat} (hs : (σ.H s).live = true) (hr : ρ s = some (g, b, z)) (hs' : σ.H s' = .none) (b' : Nat) (co : CO) (hco : co ≠ .none) (hw : ∀ g', g' ≠ g → w'.heap[g']? = w.heap[g']?) (e1 : w'.os = w.os) (e2 : w'.tape = w.tape) (e3 : w'.output = w.output) (e4 : w'.heap.size = w.heap.size)
    (hd : Desc X (upd ρ s' (g, b', z)) w' s' co) : Rel X n M (upd ρ s' (g, b', z)) ((σ.hup s .dead).hup s' co) a w' := by
  obtain ⟨g0, b0, z0, r0, hlt, hge⟩ := (h.ob s).blk hs
  rw [hr] at r0; injection r0 with r0; injection r0 with r1 r2; injection r2 with r2 r3; subst r1; subst r2; subst r3
  have hf : ∀ g', g' < X.w0.heap.size → w'.heap[g']? = w.heap[g']? := fun g' hg' => hw g' (by omega)
  have hn := h.fresh s' hs'
  have hm := aW (v := (g, b', z)) hn
  have hne : s ≠ s' := by rintro rfl; rw [hs'] at hs; cases hs
  refine ⟨⟨fun q => ?_, fun s1 s2 g1 b1 z1 b2 z2 l1 l2 r1 r2 => ?_, fun q hq => ?_, fun q y hy => hm _ _ (h.ext q y hy), e1.trans h.os, e2.trans h.tape, e3.trans h.output, by rw [e4]; exact h.size, fun g' hg' => (hf g' hg').trans (h.frame g' hg')⟩, h.sz, fun i => (h.tm i).mono hm, h.df⟩
  · by_cases he : q = s'
    · subst he; rw [ja]; exact hd
    · rw [zr _ _ he]
      by_cases hes : q = s
      · subst hes; rw [ja]; trivial
      · rw [zr _ _ hes]
        have h0 := h.ob q
        cases hl : (σ.H q).live with
        | true => exact h0.mono hm (fun g' b' z' r' => hw g' (by rintro rfl; exact hes (h.sep q s g' b' z' b z hl hs r' hr))) hf
        | false =>
          cases hH : σ.H q with
          | none => trivial
          | dead => trivial
          | ro cs =>
            rw [hH] at h0
            obtain ⟨h1, t, fr, h2⟩ := h0
            exact ⟨h1, t, fr, (hf q h1).trans h2⟩
          | _ => rw [hH] at hl; cases hl
  · have key : ∀ q, q ≠ s' → (((σ.hup s .dead).hup s' co).H q).live = true → q ≠ s ∧ (σ.H q).live = true := fun q he l => by
      rw [zr _ _ he] at l
      by_cases hes : q = s
      · subst hes; rw [ja] at l; cases l
      · rw [zr _ _ hes] at l; exact ⟨hes, l⟩
    by_cases e1 : s1 = s'
    · by_cases e2 : s2 = s'
      · rw [e1, e2]
      · subst e1
        rw [yG] at r1
        injection r1 with r1; injection r1 with r1 _; subst r1
        obtain ⟨k1, k2⟩ := key s2 e2 l2
        rw [yX _ _ e2] at r2
        exact absurd (h.sep s2 s g b2 z2 b z k2 hs r2 hr) k1
    · by_cases e2 : s2 = s'
      · subst e2
        rw [yG] at r2
        injection r2 with r2; injection r2 with r2 _; subst r2
        obtain ⟨k1, k2⟩ := key s1 e1 l1
        rw [yX _ _ e1] at r1
        exact absurd (h.sep s1 s g b1 z1 b z k2 hs r1 hr) k1
      · obtain ⟨_, k1⟩ := key s1 e1 l1
        obtain ⟨_, k2⟩ := key s2 e2 l2
        rw [yX _ _ e1] at r1
        rw [yX _ _ e2] at r2
        exact h.sep s1 s2 g1 b1 z1 b2 z2 k1 k2 r1 r2
  · by_cases he : q = s'
    · subst he
      rw [ja] at hq
      exact absurd hq hco
    · rw [zr _ _ he] at hq
      rw [yX _ _ he]
      by_cases hes : q = s
      · subst hes; rw [ja] at hq; cases hq
      · rw [zr _ _ hes] at hq
        exact h.fresh q hq
/-- A name dies. -/
theorem Rel.kill (h : Rel X n M ρ σ a w) {s g b z : Nat} (hs : (σ.H s).live = true) (hr : ρ s = some (g, b, z)) : Rel X n M ρ (σ.hup s .dead) a w :=
  h.chg hs hr .dead (by simp) (fun _ _ => rfl) rfl rfl rfl rfl trivial
def ev (σ : AS) : Operand → CV
  | .tmp t => σ.T t
  | .const x => .v x
  | .global g => .v (.pointer (some ⟨g, 0, none⟩))
  | .func f => .fn f [] []
theorem Rel.ev (h : Rel X n M ρ σ a w) (x : Operand) : Rep ρ (ev σ x) (a.eval x) := by
  cases x with
  | tmp t => exact h.tm t
  | const v => exact .v _
  | global g => exact .v _
  | func f => exact .fn f [] [] [] [] rfl (by simp) rfl (by simp)
def otr (σ : AS) : List Operand → List (Nat × CV)
  | [] => []
  | .tmp t :: r => (t, σ.T t) :: otr σ r
  | .const _ :: r => otr σ r
  | .global _ :: r => otr σ r
  | .func _ :: r => otr σ r
theorem jB (σ : AS) : ∀ (xs : List Operand), ∀ p ∈ otr σ xs, σ.T p.1 = p.2
  | [], p, h => by cases h
  | .tmp t :: r, p, h => by
    rcases List.mem_cons.1 h with rfl | h
    · rfl
    · exact jB σ r p h
  | .const _ :: r, p, h => jB σ r p h
  | .global _ :: r, p, h => jB σ r p h
  | .func _ :: r, p, h => jB σ r p h
theorem fI {σ τ : AS} : ∀ (xs : List Operand), (∀ p ∈ otr σ xs, τ.T p.1 = p.2) → ∀ x ∈ xs, Go.Proofs.YtnafokinifbfhaaGreatDoor.Cx.ev τ x = Go.Proofs.YtnafokinifbfhaaGreatDoor.Cx.ev σ x
  | [], _, x, h => by cases h
  | y :: r, hf, x, h => by
    rcases List.mem_cons.1 h with rfl | h
    · cases x with
      | tmp t => exact hf (t, σ.T t) (by simp [otr])
      | _ => rfl
    · refine fI r (fun p hp => hf p ?_) x h
      cases y <;> simp [otr, hp]
def ohr (σ : AS) (ss : List Nat) : List (Nat × CO) := ss.map fun s => (s, σ.H s)
def mkG (gt : List (Nat × CV)) (σ : AS) (xs : List Operand) (ss : List Nat) (d : Option Nat) (y : CV) (hw : List (Nat × CO)) : Rule := ⟨gt ++ otr σ xs, ohr σ ss, d, y, hw⟩
def mkR (σ : AS) (xs : List Operand) (ss : List Nat) (d : Option Nat) (y : CV) (hw : List (Nat × CO)) : Rule := ⟨otr σ xs, ohr σ ss, d, y, hw⟩
theorem zR (σ : AS) (xs : List Operand) (ss : List Nat) (d : Option Nat) (y : CV) (hw : List (Nat × CO)) : (mkR σ xs ss d y hw).fires σ := by
  refine ⟨jB σ xs, fun p hp => ?_⟩
  simp only [mkR, ohr, List.mem_map] at hp
  obtain ⟨s, _, rfl⟩ := hp
  rfl
theorem zP {σ τ : AS} {xs : List Operand} {ss : List Nat} {d : Option Nat} {y : CV} {hw : List (Nat × CO)} (h : (mkR σ xs ss d y hw).fires τ) {x : Operand} (hx : x ∈ xs) : Go.Proofs.YtnafokinifbfhaaGreatDoor.Cx.ev τ x = Go.Proofs.YtnafokinifbfhaaGreatDoor.Cx.ev σ x := fI xs h.1 x hx
theorem zo {σ τ : AS} {xs : List Operand} {ss : List Nat} {d : Option Nat} {y : CV} {hw : List (Nat × CO)} (h : (mkR σ xs ss d y hw).fires τ) {s : Nat} (hs : s ∈ ss) : τ.H s = σ.H s := h.2 (s, σ.H s) (by simp only [mkR, ohr, List.mem_map]; exact ⟨s, hs, rfl⟩)
end
def zb (P : Program) (X : Ctx) (n : Nat) (o : Oper) (r : Rule) : Prop :=
  (∀ d, o.dst = some d → d < n) → ∀ M ρ σ a w, r.fires σ → Rel X n M ρ σ a w → ∀ K Q, (∀ M' ρ' a' w', Rel X n M' ρ' (r.apply σ) a' w' → K a' w') → Oper.wp P o a w K Q
section
variable {P : Program} {X : Ctx} {n : Nat} {ops : Array Oper} {σ : AS} {o : Oper}
theorem hY {M : Unit} {ρ : Rho} {a : Act} {w : World} {j dj : Nat} {b : Bool} (hR : Rel X n M ρ σ a w) (hj : (ops[j]?).bind (·.dst) = some dj) (hT : σ.T dj = .v (.bool b)) : yielded ops a.tmps j = some b := by
  have h0 := hR.tm dj
  rw [hT] at h0
  have h1 := h0.v_inv
  unfold yielded
  rw [hj]
  simp only [Option.bind_some]
  cases hx : a.tmps[dj]? with
  | none => simp [hx] at h1; cases h1
  | some v => simp [hx] at h1; subst h1; rfl
theorem zW {r : Rule} (hd : r.dst = o.dst) (h : ∀ M ρ σ a w, r.fires σ → Rel X n M ρ σ a w → ∃ u w' M' ρ', (execOp a.eval o).run P w = .ok (.value u) w' ∧ Rel X n M' ρ' (hups r.hw σ) a w' ∧ Rep ρ' r.y u) : zb P X n o r := by
  intro hlt M ρ σ a w hf hR K Q hK
  obtain ⟨u, w', M', ρ', h1, h2, h3⟩ := h M ρ σ a w hf hR
  unfold Oper.wp
  rw [h1, Oper.upon_value]
  refine hK M' ρ' _ w' ?_
  rw [← hd]
  exact h2.put h3 (fun i hi => hlt i (by rw [← hd]; exact hi))
theorem qO {r : Rule} (hd : r.dst = o.dst) (hy : r.y = .v undef) (h : ∀ M ρ σ a w, r.fires σ → Rel X n M ρ σ a w → ∃ w' M' ρ', (execOp a.eval o).run P w = .ok .skip w' ∧ Rel X n M' ρ' (hups r.hw σ) a w') : zb P X n o r := by
  intro hlt M ρ σ a w hf hR K Q hK
  obtain ⟨w', M', ρ', h1, h2⟩ := h M ρ σ a w hf hR
  unfold Oper.wp
  rw [h1, Oper.upon_skip]
  refine hK M' ρ' _ w' ?_
  unfold Rule.apply
  rw [← hd, hy]
  exact h2.put (.v _) (fun i hi => hlt i (by rw [← hd]; exact hi))
end
end Go.Proofs.YtnafokinifbfhaaGreatDoor.Cx
namespace Go.Proofs.YtnafokinifbfhaaGreatDoor.Cx
open Go Go.RowKit
section
variable {ρ : Rho}
theorem Rep.ptr_inv {s off : Nat} {u : Value} (h : Rep ρ (.ptr s off) u) : ∃ g b z, ρ s = some (g, b, z) ∧ u = .pointer (some ⟨g, b + off, none⟩) := by
  cases h with
  | ptr _ _ g b z h => exact ⟨g, b, z, h, rfl⟩
theorem Rep.ag_inv {cs : List CV} {u : Value} (h : Rep ρ (.ag cs) u) : ∃ vs : List Value, u = .agg ⟨vs⟩ ∧ vs.length = cs.length ∧ ∀ (j : Nat) (x : CV) (u : Value), cs[j]? = some x → vs[j]? = some u → Rep ρ x u := by
  cases h with
  | ag _ vs hl h => exact ⟨vs, rfl, hl, h⟩
theorem Rep.tu_inv {cs : List CV} {u : Value} (h : Rep ρ (.tu cs) u) : ∃ vs : List Value, u = .tuple ⟨vs⟩ ∧ vs.length = cs.length ∧ ∀ (j : Nat) (x : CV) (u : Value), cs[j]? = some x → vs[j]? = some u → Rep ρ x u := by
  cases h with
  | tu _ vs hl h => exact ⟨vs, rfl, hl, h⟩
theorem Rep.sl_inv {s sz off len mc : Nat} {ex : Bool} {u : Value} (h : Rep ρ (.sl s sz off len mc ex) u) : ∃ g b z c, ρ s = some (g, b, z) ∧ u = .slice (some ⟨g, b + off, none⟩) len c ∧ len ≤ mc ∧ mc ≤ c ∧ (ex = true → c = mc) ∧ c ≤ maxLen ∧ b + off + c * sz ≤ z := by
  cases h with
  | sl _ _ _ _ _ _ g b z c h h1 h2 h3 h4 h5 => exact ⟨g, b, z, c, h, rfl, h1, h2, h3, h4, h5⟩
end
def oneC : CV → Bool
  | .v x => x.oneCell'
  | .ag _ => false
  | .tu _ => false
  | .junk => false
  | _ => true
theorem cM {ρ : Rho} {x : CV} {u : Value} (h : Rep ρ x u) (ho : oneC x = true) : u.oneCell' = true := by
  cases h <;> first | exact ho | rfl | (cases ho; done) | assumption
def zn : List CV → Bool
  | [] => true
  | x :: l => bif oneC x then zn l else false
theorem yl : ∀ {l : List CV}, zn l = true → ∀ x ∈ l, oneC x = true
  | [], _, x, h => by cases h
  | y :: l, ho, x, h => by
    unfold zn at ho
    cases hy : oneC y
    · rw [hy] at ho; cases ho
    · rw [hy] at ho
      rcases List.mem_cons.1 h with rfl | h
      · exact hy
      · exact yl ho x h
theorem yx {ρ : Rho} {x : CV} {u : Value} (h : Rep ρ x u) (ho : zn x.cells = true) : u.cells.toList.length = x.cells.length ∧ (∀ (j : Nat) (y : CV) (z : Value), x.cells[j]? = some y → u.cells.toList[j]? = some z → Rep ρ y z) ∧ ∀ z ∈ u.cells.toList, z.oneCell' = true := by
  have hone : ∀ (x : CV) (u : Value), Rep ρ x u → oneC x = true → x.cells = [x] → u.cells.toList.length = x.cells.length ∧ (∀ (j : Nat) (y : CV) (z : Value), x.cells[j]? = some y → u.cells.toList[j]? = some z → Rep ρ y z) ∧ ∀ z ∈ u.cells.toList, z.oneCell' = true := by
    intro x u h h1 hc
    have h2 := cM h h1
    have hu : u.cells = #[u] := by cases u <;> first | rfl | cases h2
    rw [hu, hc]
    refine ⟨rfl, fun j y z a b => ?_, fun z hz => by simp at hz; subst hz; exact h2⟩
    cases j with
    | zero => simp at a b; subst a; subst b; exact h
    | succ j => simp at a
  cases x with
  | ag cs =>
    obtain ⟨vs, rfl, h1, h2⟩ := h.ag_inv
    refine ⟨by simpa [Value.cells, CV.cells] using h1, fun j y z a b => h2 j y z a (by simpa [Value.cells] using b), fun z hz => ?_⟩
    obtain ⟨j, hj⟩ := List.getElem?_of_mem hz
    have hj' : vs[j]? = some z := by simpa [Value.cells] using hj
    obtain ⟨y, hy⟩ := zB (L := cs) (k := j) (by have := zM hj'; omega)
    exact cM (h2 j y z hy hj') (yl ho y (List.mem_of_getElem? hy))
  | tu xs => exact absurd (yl ho _ (by simp [CV.cells]) : oneC (.tu xs) = true) (by simp [oneC])
  | junk => exact absurd (yl ho _ (by simp [CV.cells]) : oneC .junk = true) (by simp [oneC])
  | v y => exact hone _ _ h (yl ho _ (by simp [CV.cells])) rfl
  | _ => exact hone _ _ h rfl rfl
section
variable {P : Program} {X : Ctx} {n : Nat} {σ : AS} {d : Option Nat} {ty : TypeId} {ps : String} {af : Array Edge} {g : Option (Nat × Bool)}
/-- A value that the operands alone give. -/
theorem yO {op : Op} {xs : List Operand} {y : CV} (hrun : ∀ (M : Unit) ρ τ a w, (∀ x ∈ xs, ev τ x = ev σ x) → Rel X n M ρ τ a w → ∃ u, (execOp a.eval ⟨d, op, ty, ps, af, g⟩).run P w = .ok (.value u) w ∧ Rep ρ y u) :
    zb P X n ⟨d, op, ty, ps, af, g⟩ (mkR σ xs [] d y []) := by
  refine zW rfl fun M ρ τ a w hf hR => ?_
  obtain ⟨u, h1, h2⟩ := hrun M ρ τ a w (fun x hx => zP hf hx) hR
  exact ⟨u, w, M, ρ, h1, hR, h2⟩
theorem zT {M : Unit} {ρ : Rho} {τ : AS} {a : Act} {w : World} {x : Operand} {u : Value} (hR : Rel X n M ρ τ a w) (he : ev τ x = ev σ x) (hx : ev σ x = .v u) : a.eval x = u := by
  have h1 := hR.ev x
  rw [he, hx] at h1
  exact h1.v_inv
theorem s_move {x : Operand} : zb P X n ⟨d, .move x, ty, ps, af, g⟩ (mkR σ [x] [] d (ev σ x) []) :=
  yO fun M ρ τ a w he hR => ⟨a.eval x, rfl, by have := hR.ev x; rw [he x (by simp)] at this; exact this⟩
theorem s_assign {x : Operand} : zb P X n ⟨d, .assign x, ty, ps, af, g⟩ (mkR σ [x] [] d (ev σ x) []) :=
  yO fun M ρ τ a w he hR => ⟨a.eval x, rfl, by have := hR.ev x; rw [he x (by simp)] at this; exact this⟩
theorem s_pick {c x y : Operand} {b : Bool} (hc : ev σ c = .v (.bool b)) : zb P X n ⟨d, .pick c x y, ty, ps, af, g⟩ (mkR σ [c, x, y] [] d (bif b then ev σ x else ev σ y) []) :=
  yO fun M ρ τ a w he hR => by
    have h1 := zT hR (he c (by simp)) hc
    refine ⟨if b then a.eval x else a.eval y, by simp [execOp, h1, asBool], ?_⟩
    have h2 := hR.ev x
    have h3 := hR.ev y
    rw [he x (by simp)] at h2
    rw [he y (by simp)] at h3
    cases b
    · exact h3
    · exact h2
theorem s_extract {t : Operand} {i : Nat} {xs : List CV} {y : CV} (ht : ev σ t = .tu xs) (hi : xs[i]? = some y) : zb P X n ⟨d, .extract t i, ty, ps, af, g⟩ (mkR σ [t] [] d y []) :=
  yO fun M ρ τ a w he hR => by
    have h1 := hR.ev t
    rw [he t (by simp), ht] at h1
    obtain ⟨vs, e1, e2, e3⟩ := h1.tu_inv
    obtain ⟨u, hu⟩ := zB (L := vs) (k := i) (by rw [e2]; exact zM hi)
    refine ⟨u, ?_, e3 i y u hi hu⟩
    unfold execOp
    simp only [e1, Instr.extract]
    have : (⟨vs⟩ : Array Value)[i]? = some u := by simpa using hu
    simp [this]
theorem kP {op : BinOp} {tx : TypeId} {x y : Operand} {yt : TypeId} {u v r : Value} (hx : ev σ x = .v u) (hy : ev σ y = .v v) (hrun : ∀ w, (do eqGuard op tx x y u v; binOp op tx u v : Sem Value).run P w = .ok r w) :
    zb P X n ⟨d, .binOp op tx x y yt, ty, ps, af, g⟩ (mkR σ [x, y] [] d (.v r) []) :=
  yO fun M ρ τ a w he hR => ⟨r, by
    unfold execOp
    simp only [zT hR (he x (by simp)) hx, zT hR (he y (by simp)) hy]
    rw [Sem.run_bind, hrun w]; rfl, .v _⟩
theorem s_un {op : UnOp} {tx : TypeId} {x : Operand} {u r : Value} (hx : ev σ x = .v u) (hrun : ∀ w, (Op.unary op u).run P w = .ok r w) : zb P X n ⟨d, .unOp op tx x, ty, ps, af, g⟩ (mkR σ [x] [] d (.v r) []) :=
  yO fun M ρ τ a w he hR => ⟨r, by
    unfold execOp
    simp only [zT hR (he x (by simp)) hx]
    rw [Sem.run_bind, hrun w]; rfl, .v _⟩
theorem s_conv {src dst : TypeId} {x : Operand} {u r : Value} (hx : ev σ x = .v u) (hrun : ∀ w, (convert src dst u).run P w = .ok r w) : zb P X n ⟨d, .convert src dst x, ty, ps, af, g⟩ (mkR σ [x] [] d (.v r) []) :=
  yO fun M ρ τ a w he hR => ⟨r, by
    unfold execOp
    simp only [zT hR (he x (by simp)) hx]
    rw [Sem.run_bind, hrun w]; rfl, .v _⟩
theorem s_index {xt : TypeId} {x i : Operand} {u v r : Value} (hx : ev σ x = .v u) (hi : ev σ i = .v v) (hrun : ∀ w, (Instr.index xt u v).run P w = .ok r w) : zb P X n ⟨d, .index xt x i, ty, ps, af, g⟩ (mkR σ [x, i] [] d (.v r) []) :=
  yO fun M ρ τ a w he hR => ⟨r, by
    unfold execOp
    simp only [zT hR (he x (by simp)) hx, zT hR (he i (by simp)) hi]
    rw [Sem.run_bind, hrun w]; rfl, .v _⟩
end
/-- What an operator makes of two integers. -/
def intR (k : IntKind) (a : Int) (yk : IntKind) (b : Int) : BinOp → Option Value
  | .shl => if 0 ≤ b ∧ b ≤ k.bits then some (.int k (k.wrap (a * 2 ^ b.toNat))) else none
  | .shr => if 0 ≤ b ∧ b ≤ k.bits then some (.int k (a / 2 ^ b.toNat)) else none
  | .quo => if k = yk ∧ b ≠ 0 then some (.int k (k.wrap (a.tdiv b))) else none
  | .rem => if k = yk ∧ b ≠ 0 then some (.int k (a.tmod b)) else none
  | .eql => if k = yk then some (.bool (a == b)) else none
  | .neq => if k = yk then some (.bool (a != b)) else none
  | .lss => if k = yk then some (.bool (decide (a < b))) else none
  | .leq => if k = yk then some (.bool (decide (a ≤ b))) else none
  | .gtr => if k = yk then some (.bool (decide (a > b))) else none
  | .geq => if k = yk then some (.bool (decide (a ≥ b))) else none
  | .add => if k = yk then some (.int k (k.wrap (a + b))) else none
  | .sub => if k = yk then some (.int k (k.wrap (a - b))) else none
  | .mul => if k = yk then some (.int k (k.wrap (a * b))) else none
  | .and => if k = yk then some (.int k (k.wrap (BitVec.ofInt k.bits a &&& BitVec.ofInt k.bits b).toNat)) else none
  | .or => if k = yk then some (.int k (k.wrap (BitVec.ofInt k.bits a ||| BitVec.ofInt k.bits b).toNat)) else none
  | .xor => if k = yk then some (.int k (k.wrap (BitVec.ofInt k.bits a ^^^ BitVec.ofInt k.bits b).toNat)) else none
  | .andNot => if k = yk then some (.int k (k.wrap (BitVec.ofInt k.bits a &&& ~~~BitVec.ofInt k.bits b).toNat)) else none
theorem iX {P : Program} {op : BinOp} {tx : TypeId} {x y : Operand} {k yk : IntKind} {a b : Int} {r : Value} (h : intR k a yk b op = some r) (w : World) : (do eqGuard op tx x y (.int k a) (.int yk b); binOp op tx (.int k a) (.int yk b) : Sem Value).run P w = .ok r w := by
  rw [eqGuard_at_int, pure_bind]
  cases op
  all_goals simp only [intR] at h
  all_goals split at h
  all_goals first | (cases h; done) | skip
  all_goals (injection h with h; subst h; rename_i hc)
  all_goals first | (obtain ⟨rfl, hb⟩ := hc) | subst hc | skip
  all_goals first
    | (simp only [binOp_eql]; rfl) | (simp only [binOp_neq]; rfl) | (simp only [binOp_lss]; rfl) | (simp only [binOp_leq]; rfl) | (simp only [binOp_gtr]; rfl) | (simp only [binOp_geq]; rfl)
    | (simp only [binOp_add]; rfl) | (simp only [binOp_sub]; rfl) | (simp only [binOp_mul]; rfl)
    | (simp only [binOp_quo, Op.intDiv, if_neg hb]; rfl) | (simp only [binOp_rem, Op.intDiv, if_neg hb]; rfl)
    | (simp only [binOp_shr]; rw [shift_shr k yk a b hc.1 hc.2]; rfl) | (simp only [binOp_shl]; rw [shift_shl k yk a b hc.1 hc.2]; rfl)
    | (simp [binOp, Op.intBits]; rfl) | simp [binOp, Op.intBits]
end Go.Proofs.YtnafokinifbfhaaGreatDoor.Cx
