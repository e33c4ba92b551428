/- The operations of the abstract machine: values handed on, boxes made, read and written, fields; nothing of the program stands here; conditions: none. -/
import Derived.Test.YtbacidnhjmdnlaaDoorAbsD
import Derived.Deep.MidRow
import Derived.Laws.Tables
import Derived.Great.BuildSlice
set_option linter.unusedVariables false
set_option linter.unusedSimpArgs false
namespace Go.Proofs.YtbacidnhjmdnlaaDoor
open Go Go.RowKit
def putL {α : Type} : List α → Nat → List α → List α
  | cs, _, [] => cs
  | cs, o, x :: xs => putL (cs.set o x) (o + 1) xs
theorem putL_length {α : Type} : ∀ (xs cs : List α) (o : Nat), (putL cs o xs).length = cs.length
  | [], cs, o => rfl
  | x :: xs, cs, o => by rw [putL, putL_length xs]; simp
theorem putL_rel {α β : Type} {R : α → β → Prop} : ∀ (xs cs : List α) (vs us : List β) (o : Nat), us.length = cs.length → vs.length = xs.length → (∀ (j : Nat) (x : α) (u : β), cs[j]? = some x → us[j]? = some u → R x u) →
    (∀ (j : Nat) (x : α) (u : β), xs[j]? = some x → vs[j]? = some u → R x u) → ∀ (j : Nat) (x : α) (u : β), (putL cs o xs)[j]? = some x → (putL us o vs)[j]? = some u → R x u
  | [], cs, vs, us, o, hl, hv, h, h' => by
    obtain rfl : vs = [] := List.eq_nil_of_length_eq_zero (by simpa using hv)
    exact h
  | x :: xs, cs, [], us, o, hl, hv, h, h' => by simp at hv
  | x :: xs, cs, v :: vs, us, o, hl, hv, h, h' => by
    refine putL_rel xs (cs.set o x) vs (us.set o v) (o + 1) (by simpa using hl) (by simpa using hv) (fun j y u a b => ?_) (fun j y u a b => h' (j + 1) y u (by simpa using a) (by simpa using b))
    by_cases hj : o = j
    · subst hj
      rw [List.getElem?_set_self (by have := lt_at a; simpa using this)] at a
      rw [List.getElem?_set_self (by have := lt_at b; simpa using this)] at b
      injection a with a; injection b with b
      subst a; subst b
      exact h' 0 x v rfl rfl
    · rw [List.getElem?_set_ne hj] at a b
      exact h j y u a b
theorem blk_setCells {g : Nat} {t : TypeId} : ∀ (vs us : List Value) (o : Nat) (w : World), w.heap[g]? = some (.cells ⟨us⟩ t (0, 0)) → (w.setCells g o vs).heap[g]? = some (.cells ⟨putL us o vs⟩ t (0, 0))
  | [], us, o, w, h => h
  | v :: vs, us, o, w, h => by
    rw [World.setCells, putL]
    refine blk_setCells vs _ (o + 1) _ ?_
    have := Blk.set_ (t := t) h o v
    simpa [Blk] using this
theorem far_setCells {g g' : Nat} (hne : g' ≠ g) : ∀ (vs : List Value) (o : Nat) (w : World), (w.setCells g o vs).heap[g']? = w.heap[g']?
  | [], o, w => rfl
  | v :: vs, o, w => by
    rw [World.setCells, far_setCells hne vs (o + 1) _]
    exact Below.heap_setCell w ⟨g, o, none⟩ v g' hne
theorem same_setCells {g : Nat} : ∀ (vs : List Value) (o : Nat) (w : World), (w.setCells g o vs).os = w.os ∧ (w.setCells g o vs).tape = w.tape ∧ (w.setCells g o vs).output = w.output ∧ (w.setCells g o vs).heap.size = w.heap.size
  | [], o, w => ⟨rfl, rfl, rfl, rfl⟩
  | v :: vs, o, w => by
    rw [World.setCells]
    obtain ⟨h1, h2, h3, h4⟩ := same_setCells vs (o + 1) (w.setCell ⟨g, o, none⟩ v)
    exact ⟨h1, h2, h3, by rw [h4]; simp [World.setCell]⟩
section
variable {X : Ctx} {n : Nat} {M : Nat → Option (Array Value)} {ρ : Nat → Nat → Option Value} {σ : AS} {a : Act} {w : World}
/-- Cells of a box are stored. -/
theorem Rel.store (h : Rel X n M ρ σ a w) {s k g : Nat} {cs xs : List AV} {vs : List Value} (hH : σ.H s = ⟨k, .box cs⟩) (hg : ρ s k = some (.pointer (some ⟨g, 0, none⟩))) (o : Nat) (hl : vs.length = xs.length)
    (hx : ∀ (j : Nat) (x : AV) (u : Value), xs[j]? = some x → vs[j]? = some u → Rep M ρ x u) : Rel X n M ρ (σ.hup s ⟨k, .box (putL cs o xs)⟩) a (w.setCells g o vs) := by
  obtain ⟨g', t, us, h1, h2, h3, h4, h5, h6⟩ := h.box s k cs hH
  rw [hg] at h1
  obtain rfl : g = g' := by injection h1 with h1; injection h1 with h1; injection h1 with h1; injection h1
  have hb : blkOf ρ s (σ.H s) = some g := by rw [hH]; simp [blkOf, hg, vblk]
  obtain ⟨e1, e2, e3, e4⟩ := same_setCells (g := g) vs o w
  have hother : ∀ s', s' ≠ s → (σ.hup s ⟨k, .box (putL cs o xs)⟩).H s' = σ.H s' := fun s' hs => by simp [AS.hup, beq_ne hs]
  have hsame : (σ.hup s ⟨k, .box (putL cs o xs)⟩).H s = ⟨k, .box (putL cs o xs)⟩ := by simp [AS.hup, Nat.beq_refl]
  have hblk : ∀ s', blkOf ρ s' ((σ.hup s ⟨k, .box (putL cs o xs)⟩).H s') = blkOf ρ s' (σ.H s') := fun s' => by
    by_cases hs : s' = s
    · subst hs; rw [hsame, hH]; simp [blkOf]
    · rw [hother s' hs]
  have hfar : ∀ s' g', s' ≠ s → blkOf ρ s' (σ.H s') = some g' → g' ≠ g := fun s' g' hs hg' e => hs (h.sep s' s g' hg' (by rw [hb, e]))
  refine ⟨fun g' arr hg' => ?_, h.sz, h.tm, fun s' k' cs' e => ?_, fun s' k' e' sz L e => ?_, fun s1 s2 g' a1 a2 => h.sep s1 s2 g' (by rw [← hblk]; exact a1) (by rw [← hblk]; exact a2), fun s' k' hk => ?_, h.glob, h.base, h.root, e1.trans h.os, e2.trans h.tape, e3.trans h.output, by rw [e4]; exact h.size, fun g' hg' hn => ?_, h.df⟩
  · obtain ⟨t', fr, hh⟩ := h.live g' arr hg'
    exact ⟨t', fr, (far_setCells (by rintro rfl; rw [h3] at hg'; cases hg') vs o w).trans hh⟩
  · by_cases hs : s' = s
    · subst hs
      rw [hsame] at e
      injection e with ek ec
      injection ec with ec
      subst ek; subst ec
      exact ⟨g, t, putL us o vs, hg, blk_setCells vs us o w h2, h3, h4, by rw [putL_length, putL_length, h5], putL_rel xs cs vs us o h5 hl h6 hx⟩
    · rw [hother s' hs] at e
      refine (h.box s' k' cs' e).mono (fun _ _ e => e) (fun _ _ _ e => e) (fun g' hg' => far_setCells ?_ vs o w) (fun _ _ e => e)
      exact hfar s' g' hs (by rw [e]; simp [blkOf, hg', vblk])
  · by_cases hs : s' = s
    · subst hs
      rw [hsame] at e
      injection e with _ e
      cases e
    · rw [hother s' hs] at e
      refine (h.buf s' k' e' sz L e).mono (fun _ _ e => e) (fun _ _ _ e => e) (fun u g' hu hg' => far_setCells ?_ vs o w) (fun _ _ _ _ e => e)
      exact hfar s' g' hs (by rw [e]; simp [blkOf, hu, hg'])
  · by_cases hs : s' = s
    · subst hs
      rw [hsame] at hk
      exact h.fresh s' k' (by rw [hH]; exact hk)
    · rw [hother s' hs] at hk
      exact h.fresh s' k' hk
  · rw [far_setCells (by
      rintro rfl
      rcases h4 with h4 | h4
      · omega
      · exact hn h4) vs o w]
    exact h.frame g' hg' hn
def ev (σ : AS) : Operand → AV
  | .tmp t => σ.T t
  | .const x => .v x
  | .global g => .v (.pointer (some ⟨g, 0, none⟩))
  | .func f => .fn f []
theorem Rel.ev (h : Rel X n M ρ σ a w) (x : Operand) : Rep M ρ (ev σ x) (a.eval x) := by
  cases x with
  | tmp t => exact h.tm t
  | const v => exact .v _ _
  | global g => exact .v _ _
  | func f => exact .fn _ f [] [] rfl (by simp)
def otr (σ : AS) : List Operand → List (Nat × AV)
  | [] => []
  | .tmp t :: r => (t, σ.T t) :: otr σ r
  | .const _ :: r => otr σ r
  | .global _ :: r => otr σ r
  | .func _ :: r => otr σ r
theorem otr_self (σ : AS) : ∀ (xs : List Operand), ∀ p ∈ otr σ xs, σ.T p.1 = p.2
  | [], p, h => by cases h
  | .tmp t :: r, p, h => by
    rcases List.mem_cons.1 h with rfl | h
    · rfl
    · exact otr_self σ r p h
  | .const _ :: r, p, h => otr_self σ r p h
  | .global _ :: r, p, h => otr_self σ r p h
  | .func _ :: r, p, h => otr_self σ r p h
theorem otr_ev {σ τ : AS} : ∀ (xs : List Operand), (∀ p ∈ otr σ xs, τ.T p.1 = p.2) → ∀ x ∈ xs, Go.Proofs.YtbacidnhjmdnlaaDoor.ev τ x = Go.Proofs.YtbacidnhjmdnlaaDoor.ev σ x
  | [], _, x, h => by cases h
  | y :: r, hf, x, h => by
    rcases List.mem_cons.1 h with rfl | h
    · cases x with
      | tmp t => exact hf (t, σ.T t) (by simp [otr])
      | _ => rfl
    · refine otr_ev r (fun p hp => hf p ?_) x h
      cases y <;> simp [otr, hp]
def ohr (σ : AS) (ss : List Nat) : List (Nat × HC) := ss.map fun s => (s, σ.H s)
def mkG (gt : List (Nat × AV)) (σ : AS) (xs : List Operand) (ss : List Nat) (d : Option Nat) (y : AV) (hw : List (Nat × HC)) : Rule := ⟨gt ++ otr σ xs, ohr σ ss, d, y, hw⟩
def mkR (σ : AS) (xs : List Operand) (ss : List Nat) (d : Option Nat) (y : AV) (hw : List (Nat × HC)) : Rule := ⟨otr σ xs, ohr σ ss, d, y, hw⟩
theorem mkR_fires (σ : AS) (xs : List Operand) (ss : List Nat) (d : Option Nat) (y : AV) (hw : List (Nat × HC)) : (mkR σ xs ss d y hw).fires σ := by
  refine ⟨otr_self σ xs, fun p hp => ?_⟩
  simp only [mkR, ohr, List.mem_map] at hp
  obtain ⟨s, _, rfl⟩ := hp
  rfl
theorem mkR_ev {σ τ : AS} {xs : List Operand} {ss : List Nat} {d : Option Nat} {y : AV} {hw : List (Nat × HC)} (h : (mkR σ xs ss d y hw).fires τ) {x : Operand} (hx : x ∈ xs) : Go.Proofs.YtbacidnhjmdnlaaDoor.ev τ x = Go.Proofs.YtbacidnhjmdnlaaDoor.ev σ x := otr_ev xs h.1 x hx
theorem mkR_H {σ τ : AS} {xs : List Operand} {ss : List Nat} {d : Option Nat} {y : AV} {hw : List (Nat × HC)} (h : (mkR σ xs ss d y hw).fires τ) {s : Nat} (hs : s ∈ ss) : τ.H s = σ.H s := h.2 (s, σ.H s) (by simp only [mkR, ohr, List.mem_map]; exact ⟨s, hs, rfl⟩)
end
def RuleO (P : Program) (X : Ctx) (n : Nat) (o : Oper) (r : Rule) : Prop :=
  (∀ d, o.dst = some d → d < n) → ∀ M ρ σ a w, r.fires σ → Rel X n M ρ σ a w → ∀ K Q, (∀ M' ρ' a' w', Rel X n M' ρ' (r.apply σ) a' w' → K a' w') → Oper.wp P o a w K Q
structure Op1 (P : Program) (X : Ctx) (n : Nat) (ops : Array Oper) (gt : List (Nat × AV)) (o : Oper) (os : List Oper) (acc : List Rule) (σ : AS) (K : List Rule → AS → Prop) : Prop where
  run : ∃ r, RuleO P X n o r ∧ r.fires σ ∧ Exec P X n ops os (⟨gt ++ r.tr, r.hr, r.dst, r.y, r.hw⟩ :: acc) (r.apply σ) K
section
variable {P : Program} {X : Ctx} {n : Nat} {ops : Array Oper} {os : List Oper} {acc : List Rule} {σ : AS} {K : List Rule → AS → Prop} {o : Oper}
theorem x_done (h : K acc.reverse σ) : Exec P X n ops [] acc σ K := ⟨h⟩
theorem x_none (hg : o.guard = none) (h : Op1 P X n ops [] o os acc σ K) : Exec P X n ops (o :: os) acc σ K := by
  obtain ⟨r, h1, h2, h3⟩ := h.run
  refine ⟨r, fun hd M ρ σ a w hf hR K Q hK => ?_, h2, h3.run⟩
  rw [if_pos (by simp [Region.wanted, hg])]
  exact h1 hd M ρ σ a w hf hR K Q hK
theorem yielded_of {M : Nat → Option (Array Value)} {ρ : Nat → Nat → Option Value} {a : Act} {w : World} {j dj : Nat} {b : Bool} (hR : Rel X n M ρ σ a w) (hj : (ops[j]?).bind (·.dst) = some dj) (hT : σ.T dj = .v (.bool b)) : yielded ops a.tmps j = some b := by
  have h0 := hR.tm dj
  rw [hT] at h0
  have h1 := h0.v_inv
  unfold yielded
  rw [hj]
  simp only [Option.bind_some]
  cases hx : a.tmps[dj]? with
  | none => simp [hx] at h1; cases h1
  | some v => simp [hx] at h1; subst h1; rfl
theorem x_run {j dj : Nat} {b c : Bool} (hg : o.guard = some (j, b)) (hj : (ops[j]?).bind (·.dst) = some dj) (hT : σ.T dj = .v (.bool c)) (hc : c = b) (h : Op1 P X n ops [(dj, .v (.bool c))] o os acc σ K) : Exec P X n ops (o :: os) acc σ K := by
  subst hc
  obtain ⟨r, h1, h2, h3⟩ := h.run
  refine ⟨⟨[(dj, .v (.bool c))] ++ r.tr, r.hr, r.dst, r.y, r.hw⟩, fun hd M ρ σ a w hf hR K Q hK => ?_, ⟨fun p hp => ?_, h2.2⟩, h3.run⟩
  · have hy := yielded_of hR hj (hf.1 (dj, .v (.bool c)) (by simp))
    rw [if_pos (by simp [Region.wanted, hg, hy])]
    exact h1 hd M ρ σ a w ⟨fun p hp => hf.1 p (by simp; exact .inr hp), hf.2⟩ hR K Q hK
  · rcases List.mem_append.1 hp with hp | hp
    · simp at hp; subst hp; exact hT
    · exact h2.1 p hp
theorem x_run_t {j dj : Nat} {c : Bool} {op : Op} {d : Option Nat} {ty : TypeId} {ps : String} {af : Array Edge} (hj : (ops[j]?).bind (·.dst) = some dj) (hT : σ.T dj = .v (.bool c)) (hc : c = true) (h : Op1 P X n ops [(dj, .v (.bool c))] ⟨d, op, ty, ps, af, some (j, true)⟩ os acc σ K) : Exec P X n ops (⟨d, op, ty, ps, af, some (j, true)⟩ :: os) acc σ K := x_run rfl hj hT hc h
theorem x_run_f {j dj : Nat} {c : Bool} {op : Op} {d : Option Nat} {ty : TypeId} {ps : String} {af : Array Edge} (hj : (ops[j]?).bind (·.dst) = some dj) (hT : σ.T dj = .v (.bool c)) (hc : c = false) (h : Op1 P X n ops [(dj, .v (.bool c))] ⟨d, op, ty, ps, af, some (j, false)⟩ os acc σ K) : Exec P X n ops (⟨d, op, ty, ps, af, some (j, false)⟩ :: os) acc σ K := x_run rfl hj hT hc h
theorem x_skip {j dj : Nat} {b c : Bool} (hg : o.guard = some (j, b)) (hj : (ops[j]?).bind (·.dst) = some dj) (hT : σ.T dj = .v (.bool c)) (hc : c = !b) (h : Exec P X n ops os (⟨[(dj, .v (.bool c))], [], o.dst, .v undef, []⟩ :: acc) (σ.put o.dst (.v undef)) K) : Exec P X n ops (o :: os) acc σ K := by
  refine ⟨⟨[(dj, .v (.bool c))], [], o.dst, .v undef, []⟩, fun hd M ρ σ a w hf hR K Q hK => ?_, ⟨fun p hp => by simp at hp; subst hp; exact hT, fun p hp => by cases hp⟩, h.run⟩
  have hy := yielded_of hR hj (hf.1 (dj, .v (.bool c)) (by simp))
  rw [if_neg (by simp [Region.wanted, hg, hy, hc])]
  exact hK M ρ _ w (hR.put (.v _ _) hd)
theorem x_skip_t {j dj : Nat} {c : Bool} {op : Op} {d : Option Nat} {ty : TypeId} {ps : String} {af : Array Edge} (hj : (ops[j]?).bind (·.dst) = some dj) (hT : σ.T dj = .v (.bool c)) (hc : c = false) (h : Exec P X n ops os (⟨[(dj, .v (.bool c))], [], d, .v undef, []⟩ :: acc) (σ.put d (.v undef)) K) : Exec P X n ops (⟨d, op, ty, ps, af, some (j, true)⟩ :: os) acc σ K := x_skip rfl hj hT hc h
theorem x_skip_f {j dj : Nat} {c : Bool} {op : Op} {d : Option Nat} {ty : TypeId} {ps : String} {af : Array Edge} (hj : (ops[j]?).bind (·.dst) = some dj) (hT : σ.T dj = .v (.bool c)) (hc : c = true) (h : Exec P X n ops os (⟨[(dj, .v (.bool c))], [], d, .v undef, []⟩ :: acc) (σ.put d (.v undef)) K) : Exec P X n ops (⟨d, op, ty, ps, af, some (j, false)⟩ :: os) acc σ K := x_skip rfl hj hT hc h
theorem x_split {j dj : Nat} {b c : Bool} {op : Op} {d : Option Nat} {ty : TypeId} {ps : String} {af : Array Edge} (hj : (ops[j]?).bind (·.dst) = some dj) (hT : σ.T dj = .v (.bool c)) (h1 : c = true → Exec P X n ops (⟨d, op, ty, ps, af, some (j, b)⟩ :: os) acc σ K) (h2 : c = false → Exec P X n ops (⟨d, op, ty, ps, af, some (j, b)⟩ :: os) acc σ K) : Exec P X n ops (⟨d, op, ty, ps, af, some (j, b)⟩ :: os) acc σ K := by
  cases c
  · exact h2 rfl
  · exact h1 rfl
theorem x_skip' {j dj : Nat} {b : Bool} (hg : o.guard = some (j, b)) (hj : (ops[j]?).bind (·.dst) = some dj) (hT : σ.T dj = .v undef) (h : Exec P X n ops os (⟨[(dj, .v undef)], [], o.dst, .v undef, []⟩ :: acc) (σ.put o.dst (.v undef)) K) : Exec P X n ops (o :: os) acc σ K := by
  refine ⟨⟨[(dj, .v undef)], [], o.dst, .v undef, []⟩, fun hd M ρ σ a w hf hR K Q hK => ?_, ⟨fun p hp => by simp at hp; subst hp; exact hT, fun p hp => by cases hp⟩, h.run⟩
  have hy : yielded ops a.tmps j = none := by
    have h0 := hR.tm dj
    rw [show σ.T dj = _ from hf.1 (dj, .v undef) (by simp)] at h0
    have h1 := h0.v_inv
    unfold yielded
    rw [hj]
    simp only [Option.bind_some]
    cases hx : a.tmps[dj]? with
    | none => rfl
    | some v => simp [hx] at h1; subst h1; rfl
  rw [if_neg (by simp [Region.wanted, hg, hy])]
  exact hK M ρ _ w (hR.put (.v _ _) hd)
theorem rule_val {r : Rule} (hd : r.dst = o.dst) (h : ∀ M ρ σ a w, r.fires σ → Rel X n M ρ σ a w → ∃ u w' M' ρ', (execOp a.eval o).run P w = .ok (.value u) w' ∧ Rel X n M' ρ' (hups r.hw σ) a w' ∧ Rep M' ρ' r.y u) : RuleO P X n o r := by
  intro hlt M ρ σ a w hf hR K Q hK
  obtain ⟨u, w', M', ρ', h1, h2, h3⟩ := h M ρ σ a w hf hR
  unfold Oper.wp
  rw [h1, Oper.upon_value]
  refine hK M' ρ' _ w' ?_
  rw [← hd]
  exact h2.put h3 (fun i hi => hlt i (by rw [← hd]; exact hi))
theorem rule_unit {r : Rule} (hd : r.dst = o.dst) (hy : r.y = .v undef) (h : ∀ M ρ σ a w, r.fires σ → Rel X n M ρ σ a w → ∃ w' M' ρ', (execOp a.eval o).run P w = .ok .skip w' ∧ Rel X n M' ρ' (hups r.hw σ) a w') : RuleO P X n o r := by
  intro hlt M ρ σ a w hf hR K Q hK
  obtain ⟨w', M', ρ', h1, h2⟩ := h M ρ σ a w hf hR
  unfold Oper.wp
  rw [h1, Oper.upon_skip]
  refine hK M' ρ' _ w' ?_
  unfold Rule.apply
  rw [← hd, hy]
  exact h2.put (.v _ _) (fun i hi => hlt i (by rw [← hd]; exact hi))
end
end Go.Proofs.YtbacidnhjmdnlaaDoor
