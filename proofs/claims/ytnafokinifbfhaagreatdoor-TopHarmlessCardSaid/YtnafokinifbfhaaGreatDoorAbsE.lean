/- The operations of the abstract machine: values handed on, boxes made, read and written, fields; nothing of the program stands here; conditions: none. | The operations of the abstract machine, one law each; conditions: tables of types that agree with the program's. | The operations of the abstract machine on memory: boxes, loads, stores, slices; conditions: tables of types that agree with the program's. -/
import Derived.Test.YtnafokinifbfhaaGreatDoorAbsA
import Derived.Deep.MidRow
import Derived.Laws.Tables
import Derived.Great.BuildSlice
set_option linter.unusedVariables false
set_option linter.unusedSimpArgs false
namespace Go.Proofs.YtnafokinifbfhaaGreatDoor
open Go Go.RowKit
def putL {α : Type} : List α → Nat → List α → List α
  | cs, _, [] => cs
  | cs, o, x :: xs => putL (cs.set o x) (o + 1) xs
theorem zm {α : Type} : ∀ (xs cs : List α) (o : Nat), (putL cs o xs).length = cs.length
  | [], cs, o => rfl
  | x :: xs, cs, o => by rw [putL, zm xs]; simp
theorem eL {α β : Type} {R : α → β → Prop} : ∀ (xs cs : List α) (vs us : List β) (o : Nat), us.length = cs.length → vs.length = xs.length → (∀ (j : Nat) (x : α) (u : β), cs[j]? = some x → us[j]? = some u → R x u) →
    (∀ (j : Nat) (x : α) (u : β), xs[j]? = some x → vs[j]? = some u → R x u) → ∀ (j : Nat) (x : α) (u : β), (putL cs o xs)[j]? = some x → (putL us o vs)[j]? = some u → R x u
  | [], cs, vs, us, o, hl, hv, h, h' => by
    obtain rfl : vs = [] := List.eq_nil_of_length_eq_zero (by simpa using hv)
    exact h
  | x :: xs, cs, [], us, o, hl, hv, h, h' => by simp at hv
  | x :: xs, cs, v :: vs, us, o, hl, hv, h, h' => by
    refine eL xs (cs.set o x) vs (us.set o v) (o + 1) (by simpa using hl) (by simpa using hv) (fun j y u a b => ?_) (fun j y u a b => h' (j + 1) y u (by simpa using a) (by simpa using b))
    by_cases hj : o = j
    · subst hj
      rw [List.getElem?_set_self (by have := zM a; simpa using this)] at a
      rw [List.getElem?_set_self (by have := zM b; simpa using this)] at b
      injection a with a; injection b with b
      subst a; subst b
      exact h' 0 x v rfl rfl
    · rw [List.getElem?_set_ne hj] at a b
      exact h j y u a b
theorem ji {g : Nat} {t : TypeId} : ∀ (vs us : List Value) (o : Nat) (w : World), w.heap[g]? = some (.cells ⟨us⟩ t (0, 0)) → (w.setCells g o vs).heap[g]? = some (.cells ⟨putL us o vs⟩ t (0, 0))
  | [], us, o, w, h => h
  | v :: vs, us, o, w, h => by
    rw [World.setCells, putL]
    refine ji vs _ (o + 1) _ ?_
    have := Blk.set_ (t := t) h o v
    simpa [Blk] using this
theorem yB {g g' : Nat} (hne : g' ≠ g) : ∀ (vs : List Value) (o : Nat) (w : World), (w.setCells g o vs).heap[g']? = w.heap[g']?
  | [], o, w => rfl
  | v :: vs, o, w => by
    rw [World.setCells, yB hne vs (o + 1) _]
    exact Below.heap_setCell w ⟨g, o, none⟩ v g' hne
theorem jT {g : Nat} : ∀ (vs : List Value) (o : Nat) (w : World), (w.setCells g o vs).os = w.os ∧ (w.setCells g o vs).tape = w.tape ∧ (w.setCells g o vs).output = w.output ∧ (w.setCells g o vs).heap.size = w.heap.size
  | [], o, w => ⟨rfl, rfl, rfl, rfl⟩
  | v :: vs, o, w => by
    rw [World.setCells]
    obtain ⟨h1, h2, h3, h4⟩ := jT vs (o + 1) (w.setCell ⟨g, o, none⟩ v)
    exact ⟨h1, h2, h3, by rw [h4]; simp [World.setCell]⟩
section
variable {X : Ctx} {n : Nat} {M : Nat → Option (Array Value)} {ρ : Nat → Nat → Option Value} {σ : AS} {a : Act} {w : World}
/-- Cells of a box are stored. -/
theorem Rel.store (h : Rel X n M ρ σ a w) {s k g : Nat} {cs xs : List AV} {vs : List Value} (hH : σ.H s = ⟨k, .box cs⟩) (hg : ρ s k = some (.pointer (some ⟨g, 0, none⟩))) (o : Nat) (hl : vs.length = xs.length)
    (hx : ∀ (j : Nat) (x : AV) (u : Value), xs[j]? = some x → vs[j]? = some u → Rep M ρ x u) : Rel X n M ρ (σ.hup s ⟨k, .box (putL cs o xs)⟩) a (w.setCells g o vs) := by
  obtain ⟨g', t, us, h1, h2, h3, h4, h5, h6⟩ := h.box s k cs hH
  rw [hg] at h1
  obtain rfl : g = g' := by injection h1 with h1; injection h1 with h1; injection h1 with h1; injection h1
  have hb : zI ρ s (σ.H s) = some g := by rw [hH]; simp [zI, hg, vblk]
  obtain ⟨e1, e2, e3, e4⟩ := jT (g := g) vs o w
  have hother : ∀ s', s' ≠ s → (σ.hup s ⟨k, .box (putL cs o xs)⟩).H s' = σ.H s' := fun s' hs => by simp [AS.hup, zV hs]
  have hsame : (σ.hup s ⟨k, .box (putL cs o xs)⟩).H s = ⟨k, .box (putL cs o xs)⟩ := by simp [AS.hup, Nat.beq_refl]
  have hblk : ∀ s', zI ρ s' ((σ.hup s ⟨k, .box (putL cs o xs)⟩).H s') = zI ρ s' (σ.H s') := fun s' => by
    by_cases hs : s' = s
    · subst hs; rw [hsame, hH]; simp [zI]
    · rw [hother s' hs]
  have hfar : ∀ s' g', s' ≠ s → zI ρ s' (σ.H s') = some g' → g' ≠ g := fun s' g' hs hg' e => hs (h.sep s' s g' hg' (by rw [hb, e]))
  refine ⟨fun g' arr hg' => ?_, h.sz, h.tm, fun s' k' cs' e => ?_, fun s' k' e' sz L e => ?_, fun s1 s2 g' a1 a2 => h.sep s1 s2 g' (by rw [← hblk]; exact a1) (by rw [← hblk]; exact a2), fun s' k' hk => ?_, h.glob, h.base, h.root, e1.trans h.os, e2.trans h.tape, e3.trans h.output, by rw [e4]; exact h.size, fun g' hg' hn => ?_, h.df, fun s' k' L e => by
    obtain ⟨hs, e'⟩ := nP (by simp) e
    exact (h.mp s' k' L e').mono (fun _ _ _ e => e) (fun g' hg' => yB (hfar s' g' hs (h.mp_blk e' hg')) vs o w) (fun _ _ e => e)⟩
  · obtain ⟨t', fr, hh⟩ := h.live g' arr hg'
    exact ⟨t', fr, (yB (by rintro rfl; rw [h3] at hg'; cases hg') vs o w).trans hh⟩
  · by_cases hs : s' = s
    · subst hs
      rw [hsame] at e
      injection e with ek ec
      injection ec with ec
      subst ek; subst ec
      exact ⟨g, t, putL us o vs, hg, ji vs us o w h2, h3, h4, by rw [zm, zm, h5], eL xs cs vs us o h5 hl h6 hx⟩
    · rw [hother s' hs] at e
      refine (h.box s' k' cs' e).mono (fun _ _ e => e) (fun _ _ _ e => e) (fun g' hg' => yB ?_ vs o w) (fun _ _ e => e)
      exact hfar s' g' hs (by rw [e]; simp [zI, hg', vblk])
  · by_cases hs : s' = s
    · subst hs
      rw [hsame] at e
      injection e with _ e
      cases e
    · rw [hother s' hs] at e
      refine (h.buf s' k' e' sz L e).mono (fun _ _ e => e) (fun _ _ _ e => e) (fun u g' hu hg' => yB ?_ vs o w) (fun _ _ _ _ e => e)
      exact hfar s' g' hs (by rw [e]; simp [zI, hu, hg'])
  · by_cases hs : s' = s
    · subst hs
      rw [hsame] at hk
      exact h.fresh s' k' (by rw [hH]; exact hk)
    · rw [hother s' hs] at hk
      exact h.fresh s' k' hk
  · rw [yB (by
      rintro rfl
      rcases h4 with h4 | h4
      · omega
      · exact hn h4) vs o w]
    exact h.frame g' hg' hn
def ev (σ : AS) : Operand → AV
  | .tmp t => σ.T t
  | .const x => .v x
  | .global g => .v (.pointer (some ⟨g, 0, none⟩))
  | .func f => .fn f []
theorem Rel.ev (h : Rel X n M ρ σ a w) (x : Operand) : Rep M ρ (ev σ x) (a.eval x) := by
  cases x with
  | tmp t => exact h.tm t
  | const v => exact .v _ _
  | global g => exact .v _ _
  | func f => exact .fn _ f [] [] rfl (by simp)
def otr (σ : AS) : List Operand → List (Nat × AV)
  | [] => []
  | .tmp t :: r => (t, σ.T t) :: otr σ r
  | .const _ :: r => otr σ r
  | .global _ :: r => otr σ r
  | .func _ :: r => otr σ r
theorem jB (σ : AS) : ∀ (xs : List Operand), ∀ p ∈ otr σ xs, σ.T p.1 = p.2
  | [], p, h => by cases h
  | .tmp t :: r, p, h => by
    rcases List.mem_cons.1 h with rfl | h
    · rfl
    · exact jB σ r p h
  | .const _ :: r, p, h => jB σ r p h
  | .global _ :: r, p, h => jB σ r p h
  | .func _ :: r, p, h => jB σ r p h
theorem fI {σ τ : AS} : ∀ (xs : List Operand), (∀ p ∈ otr σ xs, τ.T p.1 = p.2) → ∀ x ∈ xs, Go.Proofs.YtnafokinifbfhaaGreatDoor.ev τ x = Go.Proofs.YtnafokinifbfhaaGreatDoor.ev σ x
  | [], _, x, h => by cases h
  | y :: r, hf, x, h => by
    rcases List.mem_cons.1 h with rfl | h
    · cases x with
      | tmp t => exact hf (t, σ.T t) (by simp [otr])
      | _ => rfl
    · refine fI r (fun p hp => hf p ?_) x h
      cases y <;> simp [otr, hp]
def ohr (σ : AS) (ss : List Nat) : List (Nat × HC) := ss.map fun s => (s, σ.H s)
def mkG (gt : List (Nat × AV)) (σ : AS) (xs : List Operand) (ss : List Nat) (d : Option Nat) (y : AV) (hw : List (Nat × HC)) : Rule := ⟨gt ++ otr σ xs, ohr σ ss, d, y, hw⟩
def mkR (σ : AS) (xs : List Operand) (ss : List Nat) (d : Option Nat) (y : AV) (hw : List (Nat × HC)) : Rule := ⟨otr σ xs, ohr σ ss, d, y, hw⟩
theorem zR (σ : AS) (xs : List Operand) (ss : List Nat) (d : Option Nat) (y : AV) (hw : List (Nat × HC)) : (mkR σ xs ss d y hw).fires σ := by
  refine ⟨jB σ xs, fun p hp => ?_⟩
  simp only [mkR, ohr, List.mem_map] at hp
  obtain ⟨s, _, rfl⟩ := hp
  rfl
theorem zP {σ τ : AS} {xs : List Operand} {ss : List Nat} {d : Option Nat} {y : AV} {hw : List (Nat × HC)} (h : (mkR σ xs ss d y hw).fires τ) {x : Operand} (hx : x ∈ xs) : Go.Proofs.YtnafokinifbfhaaGreatDoor.ev τ x = Go.Proofs.YtnafokinifbfhaaGreatDoor.ev σ x := fI xs h.1 x hx
theorem zo {σ τ : AS} {xs : List Operand} {ss : List Nat} {d : Option Nat} {y : AV} {hw : List (Nat × HC)} (h : (mkR σ xs ss d y hw).fires τ) {s : Nat} (hs : s ∈ ss) : τ.H s = σ.H s := h.2 (s, σ.H s) (by simp only [mkR, ohr, List.mem_map]; exact ⟨s, hs, rfl⟩)
end
def zb (P : Program) (X : Ctx) (n : Nat) (o : Oper) (r : Rule) : Prop :=
  (∀ d, o.dst = some d → d < n) → ∀ M ρ σ a w, r.fires σ → Rel X n M ρ σ a w → ∀ K Q, (∀ M' ρ' a' w', Rel X n M' ρ' (r.apply σ) a' w' → K a' w') → Oper.wp P o a w K Q
structure Op1 (P : Program) (X : Ctx) (n : Nat) (ops : Array Oper) (gt : List (Nat × AV)) (o : Oper) (os : List Oper) (acc : List Rule) (σ : AS) (K : List Rule → AS → Prop) : Prop where
  run : ∃ r, zb P X n o r ∧ r.fires σ ∧ Exec P X n ops os (⟨gt ++ r.tr, r.hr, r.dst, r.y, r.hw⟩ :: acc) (r.apply σ) K
section
variable {P : Program} {X : Ctx} {n : Nat} {ops : Array Oper} {os : List Oper} {acc : List Rule} {σ : AS} {K : List Rule → AS → Prop} {o : Oper}
theorem zu (hg : o.guard = none) (h : Op1 P X n ops [] o os acc σ K) : Exec P X n ops (o :: os) acc σ K := by
  obtain ⟨r, h1, h2, h3⟩ := h.run
  refine ⟨r, fun hd M ρ σ a w hf hR K Q hK => ?_, h2, h3.run⟩
  rw [if_pos (by simp [Region.wanted, hg])]
  exact h1 hd M ρ σ a w hf hR K Q hK
theorem hY {M : Nat → Option (Array Value)} {ρ : Nat → Nat → Option Value} {a : Act} {w : World} {j dj : Nat} {b : Bool} (hR : Rel X n M ρ σ a w) (hj : (ops[j]?).bind (·.dst) = some dj) (hT : σ.T dj = .v (.bool b)) : yielded ops a.tmps j = some b := by
  have h0 := hR.tm dj
  rw [hT] at h0
  have h1 := h0.v_inv
  unfold yielded
  rw [hj]
  simp only [Option.bind_some]
  cases hx : a.tmps[dj]? with
  | none => simp [hx] at h1; cases h1
  | some v => simp [hx] at h1; subst h1; rfl
theorem x_run {j dj : Nat} {b c : Bool} (hg : o.guard = some (j, b)) (hj : (ops[j]?).bind (·.dst) = some dj) (hT : σ.T dj = .v (.bool c)) (hc : c = b) (h : Op1 P X n ops [(dj, .v (.bool c))] o os acc σ K) : Exec P X n ops (o :: os) acc σ K := by
  subst hc
  obtain ⟨r, h1, h2, h3⟩ := h.run
  refine ⟨⟨[(dj, .v (.bool c))] ++ r.tr, r.hr, r.dst, r.y, r.hw⟩, fun hd M ρ σ a w hf hR K Q hK => ?_, ⟨fun p hp => ?_, h2.2⟩, h3.run⟩
  · have hy := hY hR hj (hf.1 (dj, .v (.bool c)) (by simp))
    rw [if_pos (by simp [Region.wanted, hg, hy])]
    exact h1 hd M ρ σ a w ⟨fun p hp => hf.1 p (by simp; exact .inr hp), hf.2⟩ hR K Q hK
  · rcases List.mem_append.1 hp with hp | hp
    · simp at hp; subst hp; exact hT
    · exact h2.1 p hp
theorem jA {j dj : Nat} {c : Bool} {op : Op} {d : Option Nat} {ty : TypeId} {ps : String} {af : Array Edge} (hj : (ops[j]?).bind (·.dst) = some dj) (hT : σ.T dj = .v (.bool c)) (hc : c = true) (h : Op1 P X n ops [(dj, .v (.bool c))] ⟨d, op, ty, ps, af, some (j, true)⟩ os acc σ K) : Exec P X n ops (⟨d, op, ty, ps, af, some (j, true)⟩ :: os) acc σ K := x_run rfl hj hT hc h
theorem yq {j dj : Nat} {c : Bool} {op : Op} {d : Option Nat} {ty : TypeId} {ps : String} {af : Array Edge} (hj : (ops[j]?).bind (·.dst) = some dj) (hT : σ.T dj = .v (.bool c)) (hc : c = false) (h : Op1 P X n ops [(dj, .v (.bool c))] ⟨d, op, ty, ps, af, some (j, false)⟩ os acc σ K) : Exec P X n ops (⟨d, op, ty, ps, af, some (j, false)⟩ :: os) acc σ K := x_run rfl hj hT hc h
theorem x_skip {j dj : Nat} {b c : Bool} (hg : o.guard = some (j, b)) (hj : (ops[j]?).bind (·.dst) = some dj) (hT : σ.T dj = .v (.bool c)) (hc : c = !b) (h : Exec P X n ops os (⟨[(dj, .v (.bool c))], [], o.dst, .v undef, []⟩ :: acc) (σ.put o.dst (.v undef)) K) : Exec P X n ops (o :: os) acc σ K := by
  refine ⟨⟨[(dj, .v (.bool c))], [], o.dst, .v undef, []⟩, fun hd M ρ σ a w hf hR K Q hK => ?_, ⟨fun p hp => by simp at hp; subst hp; exact hT, fun p hp => by cases hp⟩, h.run⟩
  have hy := hY hR hj (hf.1 (dj, .v (.bool c)) (by simp))
  rw [if_neg (by simp [Region.wanted, hg, hy, hc])]
  exact hK M ρ _ w (hR.put (.v _ _) hd)
theorem ym {j dj : Nat} {c : Bool} {op : Op} {d : Option Nat} {ty : TypeId} {ps : String} {af : Array Edge} (hj : (ops[j]?).bind (·.dst) = some dj) (hT : σ.T dj = .v (.bool c)) (hc : c = false) (h : Exec P X n ops os (⟨[(dj, .v (.bool c))], [], d, .v undef, []⟩ :: acc) (σ.put d (.v undef)) K) : Exec P X n ops (⟨d, op, ty, ps, af, some (j, true)⟩ :: os) acc σ K := x_skip rfl hj hT hc h
theorem qd {j dj : Nat} {c : Bool} {op : Op} {d : Option Nat} {ty : TypeId} {ps : String} {af : Array Edge} (hj : (ops[j]?).bind (·.dst) = some dj) (hT : σ.T dj = .v (.bool c)) (hc : c = true) (h : Exec P X n ops os (⟨[(dj, .v (.bool c))], [], d, .v undef, []⟩ :: acc) (σ.put d (.v undef)) K) : Exec P X n ops (⟨d, op, ty, ps, af, some (j, false)⟩ :: os) acc σ K := x_skip rfl hj hT hc h
theorem zX {j dj : Nat} {b c : Bool} {op : Op} {d : Option Nat} {ty : TypeId} {ps : String} {af : Array Edge} (hj : (ops[j]?).bind (·.dst) = some dj) (hT : σ.T dj = .v (.bool c)) (h1 : c = true → Exec P X n ops (⟨d, op, ty, ps, af, some (j, b)⟩ :: os) acc σ K) (h2 : c = false → Exec P X n ops (⟨d, op, ty, ps, af, some (j, b)⟩ :: os) acc σ K) : Exec P X n ops (⟨d, op, ty, ps, af, some (j, b)⟩ :: os) acc σ K := by
  cases c
  · exact h2 rfl
  · exact h1 rfl
theorem kI {j dj : Nat} {b : Bool} (hg : o.guard = some (j, b)) (hj : (ops[j]?).bind (·.dst) = some dj) (hT : σ.T dj = .v undef) (h : Exec P X n ops os (⟨[(dj, .v undef)], [], o.dst, .v undef, []⟩ :: acc) (σ.put o.dst (.v undef)) K) : Exec P X n ops (o :: os) acc σ K := by
  refine ⟨⟨[(dj, .v undef)], [], o.dst, .v undef, []⟩, fun hd M ρ σ a w hf hR K Q hK => ?_, ⟨fun p hp => by simp at hp; subst hp; exact hT, fun p hp => by cases hp⟩, h.run⟩
  have hy : yielded ops a.tmps j = none := by
    have h0 := hR.tm dj
    rw [show σ.T dj = _ from hf.1 (dj, .v undef) (by simp)] at h0
    have h1 := h0.v_inv
    unfold yielded
    rw [hj]
    simp only [Option.bind_some]
    cases hx : a.tmps[dj]? with
    | none => rfl
    | some v => simp [hx] at h1; subst h1; rfl
  rw [if_neg (by simp [Region.wanted, hg, hy])]
  exact hK M ρ _ w (hR.put (.v _ _) hd)
theorem zW {r : Rule} (hd : r.dst = o.dst) (h : ∀ M ρ σ a w, r.fires σ → Rel X n M ρ σ a w → ∃ u w' M' ρ', (execOp a.eval o).run P w = .ok (.value u) w' ∧ Rel X n M' ρ' (hups r.hw σ) a w' ∧ Rep M' ρ' r.y u) : zb P X n o r := by
  intro hlt M ρ σ a w hf hR K Q hK
  obtain ⟨u, w', M', ρ', h1, h2, h3⟩ := h M ρ σ a w hf hR
  unfold Oper.wp
  rw [h1, Oper.upon_value]
  refine hK M' ρ' _ w' ?_
  rw [← hd]
  exact h2.put h3 (fun i hi => hlt i (by rw [← hd]; exact hi))
theorem qO {r : Rule} (hd : r.dst = o.dst) (hy : r.y = .v undef) (h : ∀ M ρ σ a w, r.fires σ → Rel X n M ρ σ a w → ∃ w' M' ρ', (execOp a.eval o).run P w = .ok .skip w' ∧ Rel X n M' ρ' (hups r.hw σ) a w') : zb P X n o r := by
  intro hlt M ρ σ a w hf hR K Q hK
  obtain ⟨w', M', ρ', h1, h2⟩ := h M ρ σ a w hf hR
  unfold Oper.wp
  rw [h1, Oper.upon_skip]
  refine hK M' ρ' _ w' ?_
  unfold Rule.apply
  rw [← hd, hy]
  exact h2.put (.v _ _) (fun i hi => hlt i (by rw [← hd]; exact hi))
end
end Go.Proofs.YtnafokinifbfhaaGreatDoor
namespace Go.Proofs.YtnafokinifbfhaaGreatDoor
open Go Go.RowKit
def lk {β : Type} : List (Nat × β) → Nat → Option β
  | [], _ => none
  | (i, x) :: l, t => bif Nat.beq t i then some x else lk l t
theorem iH {β : Type} {f : Nat → Option β} : ∀ {l : List (Nat × β)}, l.map (fun p => f p.1) = l.map (fun p => some p.2) → ∀ {t : Nat} {x : β}, lk l t = some x → f t = some x
  | [], _, t, x, h => by cases h
  | (i, z) :: l, he, t, x, h => by
    simp only [List.map_cons, List.cons.injEq] at he
    unfold lk at h
    cases hb : Nat.beq t i
    · rw [hb] at h; exact iH he.2 h
    · rw [hb] at h; rw [Nat.eq_of_beq_eq_true hb, he.1]; exact h
structure Tabs where
  ty : List (Nat × Bool × Nat)
  sle : List (Nat × Nat)
  fld : List (Nat × List (Nat × Nat))
  zer : List (Nat × List Value)
  byt : List (Nat × Nat)
  ik : List (Nat × IntKind)
def ikOf (P : Program) (t : Nat) : Option IntKind := match P.underlying t with
  | some (.int k) => some k
  | _ => none
def tyOf (P : Program) (t : Nat) : Option (Bool × Nat) := match P.underlying t, P.info? t with
  | some d, some i => some (d.isRow, i.size)
  | _, _ => none
def sleOf (P : Program) (t : Nat) : Option Nat := match P.underlying t with
  | some (.slice e) => some e
  | _ => none
def fldOf (P : Program) (t : Nat) : Option (List (Nat × Nat)) := match P.underlying t with
  | some (.struct fs) => some (fs.toList.map fun f => (f.offset, f.type))
  | _ => none
def zerOf (P : Program) (t : Nat) : Option (List Value) := ((P.info? t).bind (·.zero)).map (·.cells.toList)
def bytOf (P : Program) (t : Nat) : Option Nat := (P.info? t).map (·.bytes)
structure TabsOk (P : Program) (TB : Tabs) : Prop where
  ty : TB.ty.map (fun p => tyOf P p.1) = TB.ty.map (fun p => some p.2)
  sle : TB.sle.map (fun p => sleOf P p.1) = TB.sle.map (fun p => some p.2)
  fld : TB.fld.map (fun p => fldOf P p.1) = TB.fld.map (fun p => some p.2)
  zer : TB.zer.map (fun p => zerOf P p.1) = TB.zer.map (fun p => some p.2)
  byt : TB.byt.map (fun p => bytOf P p.1) = TB.byt.map (fun p => some p.2)
  ik : TB.ik.map (fun p => ikOf P p.1) = TB.ik.map (fun p => some p.2)
section
variable {P : Program} {TB : Tabs} (hTB : TabsOk P TB)
include hTB
theorem jX {t : Nat} {b : Bool} {m : Nat} (h : lk TB.ty t = some (b, m)) : ∃ d, P.underlying t = some d ∧ d.isRow = b ∧ (P.info? t).map (·.size) = some m := by
  have h1 := iH hTB.ty h
  unfold tyOf at h1
  cases hd : P.underlying t with
  | none => rw [hd] at h1; cases h1
  | some d =>
    cases hi : P.info? t with
    | none => rw [hd, hi] at h1; cases h1
    | some i =>
      rw [hd, hi] at h1
      simp only [Option.some.injEq, Prod.mk.injEq] at h1
      exact ⟨d, rfl, h1.1, by simp [h1.2]⟩
theorem yM {t e : Nat} (h : lk TB.sle t = some e) : P.underlying t = some (.slice e) := by
  have h1 := iH hTB.sle h
  unfold sleOf at h1
  split at h1
  · rename_i hu; rw [hu]; injection h1 with h1; rw [h1]
  · cases h1
theorem cX {t : Nat} {fs : List (Nat × Nat)} (h : lk TB.fld t = some fs) : ∃ gs : Array Field, P.underlying t = some (.struct gs) ∧ gs.toList.map (fun f => (f.offset, f.type)) = fs := by
  have h1 := iH hTB.fld h
  unfold fldOf at h1
  split at h1
  · rename_i gs hu; injection h1 with h1; exact ⟨gs, hu, h1⟩
  · cases h1
theorem qE {t : Nat} {zs : List Value} (h : lk TB.zer t = some zs) : ∃ i z, P.info? t = some i ∧ i.zero = some z ∧ z.cells.toList = zs := by
  have h1 := iH hTB.zer h
  unfold zerOf at h1
  cases hi : P.info? t with
  | none => rw [hi] at h1; cases h1
  | some i =>
    rw [hi] at h1
    simp only [Option.bind_some] at h1
    cases hz : i.zero with
    | none => rw [hz] at h1; cases h1
    | some z => rw [hz] at h1; injection h1 with h1; exact ⟨i, z, rfl, hz, h1⟩
theorem nU {t : Nat} {k : IntKind} (h : lk TB.ik t = some k) : P.underlying t = some (.int k) := by
  have h1 := iH hTB.ik h
  unfold ikOf at h1
  split at h1
  · rename_i hu; rw [hu]; injection h1 with h1; rw [h1]
  · cases h1
theorem yA {t : Nat} {b : Bool} {m : Nat} (h : lk TB.ty t = some (b, m)) (w : World) : (sizeOf t).run P w = .ok m w := by
  obtain ⟨d, _, _, h3⟩ := jX hTB h
  cases hi : P.info? t with
  | none => rw [hi] at h3; cases h3
  | some i => rw [hi] at h3; injection h3 with h3; simp [sizeOf, typeInfo, hi, h3]
theorem qH {t : Nat} {b : Bool} {m : Nat} (h : lk TB.ty t = some (b, m)) (w : World) : (isAgg t).run P w = .ok b w := by
  obtain ⟨d, h1, h2, _⟩ := jX hTB h
  unfold isAgg
  rw [Sem.run_bind, run_underlying h1]
  cases d <;> subst h2 <;> rfl
end
section
variable {M : Nat → Option (Array Value)} {ρ : Nat → Nat → Option Value}
theorem Rep.ptr_inv {s k off : Nat} {u : Value} (h : Rep M ρ (.ptr s k off) u) : ∃ g, ρ s k = some (.pointer (some ⟨g, 0, none⟩)) ∧ u = .pointer (some ⟨g, off, none⟩) := by
  cases h with
  | ptr _ _ _ _ g h => exact ⟨g, h, rfl⟩
theorem Rep.ag_inv {cs : List AV} {u : Value} (h : Rep M ρ (.ag cs) u) : ∃ vs : List Value, u = .agg ⟨vs⟩ ∧ vs.length = cs.length ∧ ∀ (j : Nat) (x : AV) (u : Value), cs[j]? = some x → vs[j]? = some u → Rep M ρ x u := by
  cases h with
  | ag _ _ vs hl h => exact ⟨vs, rfl, hl, h⟩
theorem Rep.tu_inv {cs : List AV} {u : Value} (h : Rep M ρ (.tu cs) u) : ∃ vs : List Value, u = .tuple ⟨vs⟩ ∧ vs.length = cs.length ∧ ∀ (j : Nat) (x : AV) (u : Value), cs[j]? = some x → vs[j]? = some u → Rep M ρ x u := by
  cases h with
  | tu _ _ vs hl h => exact ⟨vs, rfl, hl, h⟩
theorem Rep.ep_inv {cs : List AV} {u : Value} (h : Rep M ρ (.ep cs) u) : ∃ (b o : Nat) (arr : Array Value) (us : Nat → Value), u = .pointer (some ⟨b, o, none⟩) ∧ M b = some arr ∧ (∀ j, j < cs.length → arr[o + j]? = some (us j)) ∧ ∀ (j : Nat) (x : AV), cs[j]? = some x → Rep M noρ x (us j) := by
  cases h with
  | ep _ _ b o arr us h1 h2 h3 => exact ⟨b, o, arr, us, rfl, h1, h2, h3⟩
theorem Rep.sl_inv {sz : Nat} {L : List AV} {u : Value} (h : Rep M ρ (.sl sz L) u) : ∃ (A : Option Addr) (c : Nat) (us : Nat → Nat → Value), u = .slice A L.length c ∧ L.length ≤ c ∧ c ≤ maxLen ∧
    (∀ (k : Nat) (x : AV) (j : Nat) (y : AV), L[k]? = some x → x.cells[j]? = some y → Rep M noρ y (us k j)) ∧
    (∀ (k : Nat) (x : AV), L[k]? = some x → x.cells.length = sz ∧ ∃ b o arr, A = some ⟨b, o, none⟩ ∧ M b = some arr ∧ ∀ j, j < sz → arr[o + k * sz + j]? = some (us k j)) := by
  cases h with
  | sl _ _ _ A c us h1 h2 h3 h4 => exact ⟨A, c, us, rfl, h1, h2, h3, h4⟩
end
def oneC : AV → Bool
  | .v x => x.oneCell'
  | .ag _ => false
  | .tu _ => false
  | .junk => false
  | _ => true
theorem cM {M : Nat → Option (Array Value)} {ρ : Nat → Nat → Option Value} {x : AV} {u : Value} (h : Rep M ρ x u) (ho : oneC x = true) : u.oneCell' = true := by
  cases h <;> first | exact ho | rfl | (cases ho; done) | assumption
def zn : List AV → Bool
  | [] => true
  | x :: l => bif oneC x then zn l else false
theorem yl : ∀ {l : List AV}, zn l = true → ∀ x ∈ l, oneC x = true
  | [], _, x, h => by cases h
  | y :: l, ho, x, h => by
    unfold zn at ho
    cases hy : oneC y
    · rw [hy] at ho; cases ho
    · rw [hy] at ho
      rcases List.mem_cons.1 h with rfl | h
      · exact hy
      · exact yl ho x h
/-- What a value lies as in cells. -/
theorem yx {M : Nat → Option (Array Value)} {ρ : Nat → Nat → Option Value} {x : AV} {u : Value} (h : Rep M ρ x u) (ho : zn x.cells = true) : u.cells.toList.length = x.cells.length ∧ (∀ (j : Nat) (y : AV) (z : Value), x.cells[j]? = some y → u.cells.toList[j]? = some z → Rep M ρ y z) ∧ ∀ z ∈ u.cells.toList, z.oneCell' = true := by
  have hone : ∀ (x : AV) (u : Value), Rep M ρ x u → oneC x = true → x.cells = [x] → u.cells.toList.length = x.cells.length ∧ (∀ (j : Nat) (y : AV) (z : Value), x.cells[j]? = some y → u.cells.toList[j]? = some z → Rep M ρ y z) ∧ ∀ z ∈ u.cells.toList, z.oneCell' = true := by
    intro x u h h1 hc
    have h2 := cM h h1
    have hu : u.cells = #[u] := by cases u <;> first | rfl | cases h2
    rw [hu, hc]
    refine ⟨rfl, fun j y z a b => ?_, fun z hz => by simp at hz; subst hz; exact h2⟩
    cases j with
    | zero => simp at a b; subst a; subst b; exact h
    | succ j => simp at a
  cases x with
  | ag cs =>
    obtain ⟨vs, rfl, h1, h2⟩ := h.ag_inv
    refine ⟨by simpa [Value.cells, AV.cells] using h1, fun j y z a b => h2 j y z a (by simpa [Value.cells] using b), fun z hz => ?_⟩
    obtain ⟨j, hj⟩ := List.getElem?_of_mem hz
    have hj' : vs[j]? = some z := by simpa [Value.cells] using hj
    obtain ⟨y, hy⟩ := zB (L := cs) (k := j) (by have := zM hj'; omega)
    exact cM (h2 j y z hy hj') (yl ho y (List.mem_of_getElem? hy))
  | tu xs => exact absurd (yl ho _ (by simp [AV.cells]) : oneC (.tu xs) = true) (by simp [oneC])
  | junk => exact absurd (yl ho _ (by simp [AV.cells]) : oneC .junk = true) (by simp [oneC])
  | v y => exact hone _ _ h (yl ho _ (by simp [AV.cells])) rfl
  | sl sz L => exact hone _ _ h rfl rfl
  | ptr s k off => exact hone _ _ h rfl rfl
  | ep cs => exact hone _ _ h rfl rfl
  | own s k => exact hone _ _ h rfl rfl
  | po s k o => exact hone _ _ h rfl rfl
  | os s k sz lo hi => exact hone _ _ h rfl rfl
  | bs s k sz len => exact hone _ _ h rfl rfl
  | qp s k o => exact hone _ _ h rfl rfl
  | fn f cs => exact hone _ _ h rfl rfl
section
variable {P : Program} {X : Ctx} {n : Nat} {ops : Array Oper} {os : List Oper} {acc : List Rule} {σ : AS} {K : List Rule → AS → Prop} {gt : List (Nat × AV)} {d : Option Nat} {ty : TypeId} {ps : String} {af : Array Edge} {g : Option (Nat × Bool)}
theorem x_move {x : Operand} (y : AV) (hx : ev σ x = y) (h : Exec P X n ops os (mkG gt σ [x] [] d y [] :: acc) (σ.put d y) K) : Op1 P X n ops gt ⟨d, .move x, ty, ps, af, g⟩ os acc σ K := by
  subst hx
  refine ⟨⟨mkR σ [x] [] d (ev σ x) [], zW rfl fun M ρ τ a w hf hR => ?_, zR _ _ _ _ _ _, h⟩⟩
  exact ⟨a.eval x, w, M, ρ, rfl, hR, by have := hR.ev x; rw [zP hf (by simp)] at this; exact this⟩
theorem x_assign {x : Operand} (y : AV) (hx : ev σ x = y) (h : Exec P X n ops os (mkG gt σ [x] [] d y [] :: acc) (σ.put d y) K) : Op1 P X n ops gt ⟨d, .assign x, ty, ps, af, g⟩ os acc σ K := by
  subst hx
  refine ⟨⟨mkR σ [x] [] d (ev σ x) [], zW rfl fun M ρ τ a w hf hR => ?_, zR _ _ _ _ _ _, h⟩⟩
  exact ⟨a.eval x, w, M, ρ, rfl, hR, by have := hR.ev x; rw [zP hf (by simp)] at this; exact this⟩
theorem x_pick {c x y : Operand} {b : Bool} (hc : ev σ c = .v (.bool b)) (h : Exec P X n ops os (mkG gt σ [c, x, y] [] d (bif b then ev σ x else ev σ y) [] :: acc) (σ.put d (bif b then ev σ x else ev σ y)) K) : Op1 P X n ops gt ⟨d, .pick c x y, ty, ps, af, g⟩ os acc σ K := by
  refine ⟨⟨mkR σ [c, x, y] [] d (bif b then ev σ x else ev σ y) [], zW rfl fun M ρ τ a w hf hR => ?_, zR _ _ _ _ _ _, h⟩⟩
  have h1 := hR.ev c
  rw [zP hf (by simp), hc] at h1
  have h1 := h1.v_inv
  refine ⟨if b then a.eval x else a.eval y, w, M, ρ, by simp [execOp, h1, asBool], hR, ?_⟩
  have h2 := hR.ev x
  have h3 := hR.ev y
  rw [zP hf (by simp)] at h2 h3
  cases b
  · exact h3
  · exact h2
theorem x_pick_t {c x y : Operand} {b : Bool} (z : AV) (hc : ev σ c = .v (.bool b)) (hb : b = true) (hz : ev σ x = z) (h : Exec P X n ops os (mkG gt σ [c, x, y] [] d z [] :: acc) (σ.put d z) K) : Op1 P X n ops gt ⟨d, .pick c x y, ty, ps, af, g⟩ os acc σ K := by
  subst hb; subst hz
  exact x_pick hc h
theorem x_pick_f {c x y : Operand} {b : Bool} (z : AV) (hc : ev σ c = .v (.bool b)) (hb : b = false) (hz : ev σ y = z) (h : Exec P X n ops os (mkG gt σ [c, x, y] [] d z [] :: acc) (σ.put d z) K) : Op1 P X n ops gt ⟨d, .pick c x y, ty, ps, af, g⟩ os acc σ K := by
  subst hb; subst hz
  exact x_pick hc h
/-- A value that the operands alone give. -/
theorem yb {op : Op} {xs : List Operand} {y : AV} (hrun : ∀ M ρ τ a w, (∀ x ∈ xs, ev τ x = ev σ x) → Rel X n M ρ τ a w → ∃ u, (execOp a.eval ⟨d, op, ty, ps, af, g⟩).run P w = .ok (.value u) w ∧ Rep M ρ y u)
    (h : Exec P X n ops os (mkG gt σ xs [] d y [] :: acc) (σ.put d y) K) : Op1 P X n ops gt ⟨d, op, ty, ps, af, g⟩ os acc σ K := by
  refine ⟨⟨mkR σ xs [] d y [], zW rfl fun M ρ τ a w hf hR => ?_, zR _ _ _ _ _ _, h⟩⟩
  obtain ⟨u, h1, h2⟩ := hrun M ρ τ a w (fun x hx => zP hf hx) hR
  exact ⟨u, w, M, ρ, h1, hR, h2⟩
theorem zT {M : Nat → Option (Array Value)} {ρ : Nat → Nat → Option Value} {τ : AS} {a : Act} {w : World} {x : Operand} {u : Value} (hR : Rel X n M ρ τ a w) (he : ev τ x = ev σ x) (hx : ev σ x = .v u) : a.eval x = u := by
  have h1 := hR.ev x
  rw [he, hx] at h1
  exact h1.v_inv
theorem jF {op : BinOp} {tx : TypeId} {x y : Operand} {yt : TypeId} {u v r : Value} (hx : ev σ x = .v u) (hy : ev σ y = .v v) (hrun : ∀ w, (do eqGuard op tx x y u v; binOp op tx u v : Sem Value).run P w = .ok r w)
    (h : Exec P X n ops os (mkG gt σ [x, y] [] d (.v r) [] :: acc) (σ.put d (.v r)) K) : Op1 P X n ops gt ⟨d, .binOp op tx x y yt, ty, ps, af, g⟩ os acc σ K :=
  yb (fun M ρ τ a w he hR => ⟨r, by
    unfold execOp
    simp only [zT hR (he x (by simp)) hx, zT hR (he y (by simp)) hy]
    rw [Sem.run_bind, hrun w]; rfl, .v _ _⟩) h
theorem x_un {op : UnOp} {tx : TypeId} {x : Operand} {u r : Value} (hx : ev σ x = .v u) (hrun : ∀ w, (Op.unary op u).run P w = .ok r w)
    (h : Exec P X n ops os (mkG gt σ [x] [] d (.v r) [] :: acc) (σ.put d (.v r)) K) : Op1 P X n ops gt ⟨d, .unOp op tx x, ty, ps, af, g⟩ os acc σ K :=
  yb (fun M ρ τ a w he hR => ⟨r, by
    unfold execOp
    simp only [zT hR (he x (by simp)) hx]
    rw [Sem.run_bind, hrun w]; rfl, .v _ _⟩) h
theorem x_conv {src dst : TypeId} {x : Operand} {u r : Value} (hx : ev σ x = .v u) (hrun : ∀ w, (convert src dst u).run P w = .ok r w)
    (h : Exec P X n ops os (mkG gt σ [x] [] d (.v r) [] :: acc) (σ.put d (.v r)) K) : Op1 P X n ops gt ⟨d, .convert src dst x, ty, ps, af, g⟩ os acc σ K :=
  yb (fun M ρ τ a w he hR => ⟨r, by
    unfold execOp
    simp only [zT hR (he x (by simp)) hx]
    rw [Sem.run_bind, hrun w]; rfl, .v _ _⟩) h
theorem jC {xt : TypeId} {x i : Operand} {u v r : Value} (hx : ev σ x = .v u) (hi : ev σ i = .v v) (hrun : ∀ w, (Instr.index xt u v).run P w = .ok r w)
    (h : Exec P X n ops os (mkG gt σ [x, i] [] d (.v r) [] :: acc) (σ.put d (.v r)) K) : Op1 P X n ops gt ⟨d, .index xt x i, ty, ps, af, g⟩ os acc σ K :=
  yb (fun M ρ τ a w he hR => ⟨r, by
    unfold execOp
    simp only [zT hR (he x (by simp)) hx, zT hR (he i (by simp)) hi]
    rw [Sem.run_bind, hrun w]; rfl, .v _ _⟩) h
theorem xU {xt : TypeId} {x i : Operand} {u v : Value} {rs : List Value} (hx : ev σ x = .v u) (hi : ev σ i = .v v) (hrun : ∀ w, (Instr.index xt u v).run P w = .ok (.agg ⟨rs⟩) w)
    (h : Exec P X n ops os (mkG gt σ [x, i] [] d (.ag (rs.map .v)) [] :: acc) (σ.put d (.ag (rs.map .v))) K) : Op1 P X n ops gt ⟨d, .index xt x i, ty, ps, af, g⟩ os acc σ K :=
  yb (fun M ρ τ a w he hR => ⟨.agg ⟨rs⟩, by
    unfold execOp
    simp only [zT hR (he x (by simp)) hx, zT hR (he i (by simp)) hi]
    rw [Sem.run_bind, hrun w]; rfl, .ag _ _ rs (by simp) (fun j y u a b => by
      rw [List.getElem?_map, b] at a
      injection a with a
      subst a
      exact .v _ _)⟩) h
theorem aC {t : Operand} {i : Nat} {xs : List AV} {y : AV} (ht : ev σ t = .tu xs) (hi : xs[i]? = some y) (h : Exec P X n ops os (mkG gt σ [t] [] d y [] :: acc) (σ.put d y) K) : Op1 P X n ops gt ⟨d, .extract t i, ty, ps, af, g⟩ os acc σ K :=
  yb (fun M ρ τ a w he hR => by
    have h1 := hR.ev t
    rw [he t (by simp), ht] at h1
    obtain ⟨vs, e1, e2, e3⟩ := h1.tu_inv
    obtain ⟨u, hu⟩ := zB (L := vs) (k := i) (by rw [e2]; exact zM hi)
    refine ⟨u, ?_, e3 i y u hi hu⟩
    unfold execOp
    simp only [e1, Instr.extract]
    have : (⟨vs⟩ : Array Value)[i]? = some u := by simpa using hu
    simp [this]) h
theorem jd {x : Operand} {s k off : Nat} (hx : ev σ x = .ptr s k off) (h : Exec P X n ops os (mkG gt σ [x] [] d (.ptr s k off) [] :: acc) (σ.put d (.ptr s k off)) K) : Op1 P X n ops gt ⟨d, .nilCheck x, ty, ps, af, g⟩ os acc σ K :=
  yb (fun M ρ τ a w he hR => by
    have h1 := hR.ev x
    rw [he x (by simp), hx] at h1
    obtain ⟨g', e1, e2⟩ := h1.ptr_inv
    refine ⟨a.eval x, ?_, h1⟩
    unfold execOp
    simp only [e2]
    rfl) h
section
variable {TB : Tabs} (hTB : TabsOk P TB)
include hTB
theorem zN {t : TypeId} {x : Operand} {f s k off off' ft : Nat} {b : Bool} {m : Nat} {fs : List (Nat × Nat)} (hx : ev σ x = .ptr s k off) (hf : lk TB.fld t = some fs) (hf2 : fs[f]? = some (off', ft)) (hm : lk TB.ty ft = some (b, m + 1))
    (h : Exec P X n ops os (mkG gt σ [x] [] d (.ptr s k (off + off')) [] :: acc) (σ.put d (.ptr s k (off + off'))) K) : Op1 P X n ops gt ⟨d, .fieldAddr t x f, ty, ps, af, g⟩ os acc σ K :=
  yb (fun M ρ τ a w he hR => by
    have h1 := hR.ev x
    rw [he x (by simp), hx] at h1
    obtain ⟨g', e1, e2⟩ := h1.ptr_inv
    obtain ⟨gs, u1, u2⟩ := cX hTB hf
    refine ⟨.pointer (some ⟨g', off + off', none⟩), ?_, .ptr _ s k _ g' e1⟩
    rw [← u2] at hf2
    simp only [List.getElem?_map, Option.map_eq_some_iff, Array.getElem?_toList, Prod.mk.injEq] at hf2
    obtain ⟨fd, h3, h4, h5⟩ := hf2
    unfold execOp
    simp only [e2, Instr.fieldAt, Sem.run_bind, run_underlying u1, Result.andThen_ok, h3, Instr.sureAddr, Sem.run_pure, fieldPlace]
    rw [h5, yA hTB hm]
    simp only [Result.andThen_ok, Nat.succ_ne_zero, if_false, Sem.run_pure, Nat.add_eq_zero_iff, and_false]
    rw [h4, Addr.add_mid]) h
theorem aY {t : TypeId} {x : Operand} {f off' ft : Nat} {cs : List AV} {b : Bool} {m : Nat} {fs : List (Nat × Nat)} (hx : ev σ x = .ep cs) (hf : lk TB.fld t = some fs) (hf2 : fs[f]? = some (off', ft)) (hm : lk TB.ty ft = some (b, m + 1))
    (h : Exec P X n ops os (mkG gt σ [x] [] d (.ep (cs.drop off')) [] :: acc) (σ.put d (.ep (cs.drop off'))) K) : Op1 P X n ops gt ⟨d, .fieldAddr t x f, ty, ps, af, g⟩ os acc σ K :=
  yb (fun M ρ τ a w he hR => by
    have h1 := hR.ev x
    rw [he x (by simp), hx] at h1
    obtain ⟨b', o, arr, us, e1, e2, e3, e4⟩ := h1.ep_inv
    obtain ⟨gs, u1, u2⟩ := cX hTB hf
    refine ⟨.pointer (some ⟨b', o + off', none⟩), ?_, .ep _ _ b' (o + off') arr (fun j => us (off' + j)) e2 (fun j hj => ?_) (fun j y hj => ?_)⟩
    · rw [← u2] at hf2
      simp only [List.getElem?_map, Option.map_eq_some_iff, Array.getElem?_toList, Prod.mk.injEq] at hf2
      obtain ⟨fd, h3, h4, h5⟩ := hf2
      unfold execOp
      simp only [e1, Instr.fieldAt, Sem.run_bind, run_underlying u1, Result.andThen_ok, h3, Instr.sureAddr, Sem.run_pure, fieldPlace]
      rw [h5, yA hTB hm]
      simp only [Result.andThen_ok, Nat.succ_ne_zero, if_false, Sem.run_pure, Nat.add_eq_zero_iff, and_false]
      rw [h4, Addr.add_mid]
    · rw [List.length_drop] at hj
      rw [Nat.add_assoc]
      exact e3 _ (by omega)
    · rw [List.getElem?_drop] at hj
      exact e4 _ y hj) h
end
end
end Go.Proofs.YtnafokinifbfhaaGreatDoor
namespace Go.Proofs.YtnafokinifbfhaaGreatDoor
open Go Go.RowKit
theorem dD {P : Program} {w : World} {b o : Nat} {ty : TypeId} {v : Value} (ht : w.there b o v.cells.toList.length) (hi : (P.info? ty).map (·.size) = some v.cells.toList.length) (h1 : ∀ z ∈ v.cells.toList, z.oneCell' = true) :
    (Instr.storeAt ty (.pointer (some ⟨b, o, none⟩)) v).run P w = .ok () (w.setCells b o v.cells.toList) := by
  have := run_storeCells_cells (P := P) b o v.cells.toList 0 w (fun j hj => by simpa using (ht j hj).1) (fun j hj => by simpa using (ht j hj).2) h1
  cases hq : P.info? ty with
  | none => simp [hq] at hi
  | some i =>
    have hs : v.cells.size = i.size := by simp [hq] at hi; omega
    simp only [Nat.add_zero] at this
    simp [Instr.storeAt, Instr.sureAddr, storeVar, sizeOf, typeInfo, hq, hs, this]
theorem lN {w : World} {g : Nat} {t : TypeId} {us : List Value} (h : w.heap[g]? = some (.cells ⟨us⟩ t (0, 0))) {o m : Nat} (hm : o + m ≤ us.length) : w.there g o m := fun j hj => by
  refine ⟨?_, Blk.frozen (t := t) h _⟩
  rw [cell_of_row w g (o + j) ⟨us⟩ t (0, 0) h]
  simp
  omega
theorem jb {w : World} {g : Nat} {t : TypeId} {fr : Nat × Nat} {arr : Array Value} (h : w.heap[g]? = some (.cells arr t fr)) {o : Nat} {vs : List Value} (hv : ∀ j u, vs[j]? = some u → arr[o + j]? = some u) : w.rangeAt g o vs := fun j u hu => by
  rw [cell_of_row w g (o + j) arr t fr h]
  exact hv j u hu
section
variable {P : Program} {X : Ctx} {n : Nat} {ops : Array Oper} {os : List Oper} {acc : List Rule} {σ : AS} {K : List Rule → AS → Prop} {gt : List (Nat × AV)} {ty : TypeId} {ps : String} {af : Array Edge} {g : Option (Nat × Bool)}
variable {TB : Tabs} (hTB : TabsOk P TB)
include hTB
theorem nJ {d : Nat} {e : TypeId} {zs : List Value} {k0 : Nat} {c0 : Cont} (hz : lk TB.zer e = some zs) (hH : σ.H d = ⟨k0, c0⟩) (h : Exec P X n ops os (mkG gt σ [] [d] (some d) (.ptr d (k0 + 1) 0) [(d, ⟨k0 + 1, .box (zs.map .v)⟩)] :: acc) ((σ.hup d ⟨k0 + 1, .box (zs.map .v)⟩).put (some d) (.ptr d (k0 + 1) 0)) K) :
    Op1 P X n ops gt ⟨some d, .alloc e, ty, ps, af, g⟩ os acc σ K := by
  obtain rfl : (σ.H d).k = k0 := by rw [hH]
  refine ⟨⟨mkR σ [] [d] (some d) (.ptr d ((σ.H d).k + 1) 0) [(d, ⟨(σ.H d).k + 1, .box (zs.map .v)⟩)], zW rfl fun M ρ τ a w hf hR => ?_, zR _ _ _ _ _ _, h⟩⟩
  obtain ⟨i, z, h1, h2, rfl⟩ := qE hTB hz
  have hH := zo hf (s := d) (by simp)
  have hN := hR.newBox d e (cs := z.cells.toList.map .v) (us := z.cells.toList) (by simp) (fun j x u a b => by
    rw [List.getElem?_map, b] at a
    injection a with a
    subst a
    exact .v _ _)
  refine ⟨.pointer (some ⟨w.heap.size, 0, none⟩), _, M, _, ?_, by rw [← hH]; exact hN, .ptr _ _ _ _ _ (by rw [← hH]; simp [updρ])⟩
  simp [execOp, Instr.alloc, zeroValue, typeInfo, h1, h2, newVar, newRow]
omit hTB in
theorem x_box {d : Nat} {e : TypeId} {x : Operand} {k0 : Nat} {c0 : Cont} (y : AV) (hy : ev σ x = y) (ho : zn y.cells = true) (hH : σ.H d = ⟨k0, c0⟩) (h : Exec P X n ops os (mkG gt σ [x] [d] (some d) (.ptr d (k0 + 1) 0) [(d, ⟨k0 + 1, .box y.cells⟩)] :: acc) ((σ.hup d ⟨k0 + 1, .box y.cells⟩).put (some d) (.ptr d (k0 + 1) 0)) K) :
    Op1 P X n ops gt ⟨some d, .box e x, ty, ps, af, g⟩ os acc σ K := by
  obtain rfl : (σ.H d).k = k0 := by rw [hH]
  subst hy
  refine ⟨⟨mkR σ [x] [d] (some d) (.ptr d ((σ.H d).k + 1) 0) [(d, ⟨(σ.H d).k + 1, .box (ev σ x).cells⟩)], zW rfl fun M ρ τ a w hf hR => ?_, zR _ _ _ _ _ _, h⟩⟩
  have hH := zo hf (s := d) (by simp)
  have he := zP hf (x := x) (by simp)
  have hx := hR.ev x
  rw [he] at hx
  obtain ⟨h1, h2, h3⟩ := yx hx ho
  have hN := hR.newBox d e h1 h2
  refine ⟨.pointer (some ⟨w.heap.size, 0, none⟩), _, M, _, ?_, by rw [← hH]; exact hN, .ptr _ _ _ _ _ (by rw [← hH]; simp [updρ])⟩
  simp [execOp, Instr.box, newVar, newRow]
theorem jO {d : Option Nat} {t : TypeId} {x : Operand} {s k k' off m : Nat} {cs : List AV} (ht : lk TB.ty t = some (true, m)) (hx : ev σ x = .ptr s k off) (hH : σ.H s = ⟨k', .box cs⟩) (hk : k = k') (hm : off + m ≤ cs.length)
    (h : Exec P X n ops os (mkG gt σ [x] [s] d (.ag ((cs.drop off).take m)) [] :: acc) (σ.put d (.ag ((cs.drop off).take m))) K) : Op1 P X n ops gt ⟨d, .load t x, ty, ps, af, g⟩ os acc σ K := by
  refine ⟨⟨mkR σ [x] [s] d (.ag ((cs.drop off).take m)) [], zW rfl fun M ρ τ a w hf hR => ?_, zR _ _ _ _ _ _, h⟩⟩
  subst hk
  have hHs := (zo hf (s := s) (by simp)).trans hH
  have h1 := hR.ev x
  rw [zP hf (by simp), hx] at h1
  obtain ⟨g', e1, e2⟩ := h1.ptr_inv
  obtain ⟨g'', t', us, b1, b2, _, _, b5, b6⟩ := hR.box s k cs hHs
  rw [e1] at b1
  obtain rfl : g' = g'' := by injection b1 with b1; injection b1 with b1; injection b1 with b1; injection b1
  obtain ⟨dd, u1, u2, u3⟩ := jX hTB ht
  have hlen : ((us.drop off).take m).length = m := by simp; omega
  refine ⟨.agg ⟨(us.drop off).take m⟩, w, M, ρ, ?_, hR, .ag _ _ _ (by simp; omega) (fun j y u a b => ?_)⟩
  · have hr : w.rangeAt g' off ((us.drop off).take m) := jb b2 fun j u hu => by
      rw [List.getElem?_take] at hu
      split at hu
      · rw [List.getElem?_drop] at hu; simpa using hu
      · cases hu
    have := run_loadAt_mid (P := P) w g' off t ((us.drop off).take m) dd hr u1 u2 (by rw [hlen]; exact u3)
    unfold execOp
    simp only [e2, Sem.run_bind, this, Result.andThen_ok]
    rfl
  · rw [List.getElem?_take] at a b
    split at a
    · rename_i hj
      rw [if_pos hj] at b
      rw [List.getElem?_drop] at a b
      exact b6 _ y u a b
    · cases a
theorem zY {d : Option Nat} {t : TypeId} {x : Operand} {s k k' off m : Nat} {cs : List AV} {y : AV} (ht : lk TB.ty t = some (false, m)) (hx : ev σ x = .ptr s k off) (hH : σ.H s = ⟨k', .box cs⟩) (hk : k = k') (hy : cs[off]? = some y)
    (h : Exec P X n ops os (mkG gt σ [x] [s] d y [] :: acc) (σ.put d y) K) : Op1 P X n ops gt ⟨d, .load t x, ty, ps, af, g⟩ os acc σ K := by
  refine ⟨⟨mkR σ [x] [s] d y [], zW rfl fun M ρ τ a w hf hR => ?_, zR _ _ _ _ _ _, h⟩⟩
  subst hk
  have hHs := (zo hf (s := s) (by simp)).trans hH
  have h1 := hR.ev x
  rw [zP hf (by simp), hx] at h1
  obtain ⟨g', e1, e2⟩ := h1.ptr_inv
  obtain ⟨g'', t', us, b1, b2, _, _, b5, b6⟩ := hR.box s k cs hHs
  rw [e1] at b1
  obtain rfl : g' = g'' := by injection b1 with b1; injection b1 with b1; injection b1 with b1; injection b1
  obtain ⟨u, hu⟩ := zB (L := us) (k := off) (by have := zM hy; omega)
  refine ⟨u, w, M, ρ, ?_, hR, b6 off y u hy hu⟩
  have hc : w.cell? ⟨g', off, none⟩ = some u := by rw [cell_of_row w g' off ⟨us⟩ t' (0, 0) b2]; simpa using hu
  unfold execOp
  simp only [e2, Instr.loadAt, Instr.sureAddr, loadVar, Sem.run_bind, Sem.run_pure, Result.andThen_ok, qH hTB ht, Bool.false_eq_true, if_false, run_load, hc]
theorem gP {d : Option Nat} {t : TypeId} {x : Operand} {m : Nat} {cs : List AV} (ht : lk TB.ty t = some (true, m)) (hx : ev σ x = .ep cs) (hm : m ≤ cs.length)
    (h : Exec P X n ops os (mkG gt σ [x] [] d (.ag (cs.take m)) [] :: acc) (σ.put d (.ag (cs.take m))) K) : Op1 P X n ops gt ⟨d, .load t x, ty, ps, af, g⟩ os acc σ K :=
  yb (fun M ρ τ a w he hR => by
    have h1 := hR.ev x
    rw [he x (by simp), hx] at h1
    obtain ⟨b, o, arr, us, e1, e2, e3, e4⟩ := h1.ep_inv
    obtain ⟨t', fr, hh⟩ := hR.live b arr e2
    obtain ⟨dd, u1, u2, u3⟩ := jX hTB ht
    refine ⟨.agg ⟨(List.range m).map us⟩, ?_, .ag _ _ _ (by simp; omega) (fun j y u a b => ?_)⟩
    · have hr : w.rangeAt b o ((List.range m).map us) := jb hh fun j u hu => by
        rw [List.getElem?_map] at hu
        cases hj : (List.range m)[j]? with
        | none => rw [hj] at hu; cases hu
        | some i =>
          rw [hj] at hu
          have hlt := zM hj
          simp at hlt
          rw [List.getElem?_range hlt] at hj
          injection hj with hj
          subst hj
          injection hu with hu
          subst hu
          exact e3 j (by omega)
      have := run_loadAt_mid (P := P) w b o t ((List.range m).map us) dd hr u1 u2 (by simpa using u3)
      unfold execOp
      simp only [e1, Sem.run_bind, this, Result.andThen_ok]
      rfl
    · rw [List.getElem?_take] at a
      split at a
      · rename_i hj
        rw [List.getElem?_map, List.getElem?_range hj] at b
        injection b with b
        subst b
        exact (e4 j y a).mono' (fun _ _ e => e) (fun _ _ _ e => by cases e)
      · cases a) h
theorem jV {d : Option Nat} {t : TypeId} {x : Operand} {m : Nat} {cs : List AV} {y : AV} (ht : lk TB.ty t = some (false, m)) (hx : ev σ x = .ep cs) (hy : cs[0]? = some y)
    (h : Exec P X n ops os (mkG gt σ [x] [] d y [] :: acc) (σ.put d y) K) : Op1 P X n ops gt ⟨d, .load t x, ty, ps, af, g⟩ os acc σ K :=
  yb (fun M ρ τ a w he hR => by
    have h1 := hR.ev x
    rw [he x (by simp), hx] at h1
    obtain ⟨b, o, arr, us, e1, e2, e3, e4⟩ := h1.ep_inv
    obtain ⟨t', fr, hh⟩ := hR.live b arr e2
    refine ⟨us 0, ?_, (e4 0 y hy).mono' (fun _ _ e => e) (fun _ _ _ e => by cases e)⟩
    have hc : w.cell? ⟨b, o, none⟩ = some (us 0) := by rw [cell_of_row w b o arr t' fr hh]; exact e3 0 (zM hy)
    unfold execOp
    simp only [e1, Instr.loadAt, Instr.sureAddr, loadVar, Sem.run_bind, Sem.run_pure, Result.andThen_ok, qH hTB ht, Bool.false_eq_true, if_false, run_load, hc]) h
theorem wK {d : Option Nat} {t : TypeId} {x : Operand} {m gl : Nat} {vs : List Value} (ht : lk TB.ty t = some (true, m)) (hx : ev σ x = .v (.pointer (some ⟨gl, 0, none⟩))) (hG : X.G gl = some vs) (hm : vs.length = m)
    (h : Exec P X n ops os (mkG gt σ [x] [] d (.v (.agg ⟨vs⟩)) [] :: acc) (σ.put d (.v (.agg ⟨vs⟩))) K) : Op1 P X n ops gt ⟨d, .load t x, ty, ps, af, g⟩ os acc σ K :=
  yb (fun M ρ τ a w he hR => by
    have h1 := zT hR (he x (by simp)) hx
    obtain ⟨t', fr, hh⟩ := hR.live gl ⟨vs⟩ (hR.glob gl vs hG)
    obtain ⟨dd, u1, u2, u3⟩ := jX hTB ht
    refine ⟨.agg ⟨vs⟩, ?_, .v _ _⟩
    have hr : w.rangeAt gl 0 vs := jb hh fun j u hu => by simpa using hu
    have := run_loadAt_mid (P := P) w gl 0 t vs dd hr u1 u2 (by rw [hm]; exact u3)
    unfold execOp
    simp only [h1, Sem.run_bind, this, Result.andThen_ok]
    rfl) h
theorem x_store {t : TypeId} {x y : Operand} {s k k' off m : Nat} {b : Bool} {cs xs : List AV} (ht : lk TB.ty t = some (b, m)) (hx : ev σ x = .ptr s k off) (hH : σ.H s = ⟨k', .box cs⟩) (hk : k = k') (z : AV) (hz : ev σ y = z) (hxs : z.cells = xs) (hl : xs.length = m) (hm : off + m ≤ cs.length) (ho : zn xs = true)
    (h : Exec P X n ops os (mkG gt σ [x, y] [s] none (.v undef) [(s, ⟨k', .box (putL cs off xs)⟩)] :: acc) (σ.hup s ⟨k', .box (putL cs off xs)⟩) K) : Op1 P X n ops gt ⟨none, .store t x y, ty, ps, af, g⟩ os acc σ K := by
  subst hz
  refine ⟨⟨mkR σ [x, y] [s] none (.v undef) [(s, ⟨k', .box (putL cs off xs)⟩)], qO rfl rfl fun M ρ τ a w hf hR => ?_, zR _ _ _ _ _ _, h⟩⟩
  subst hk
  have hHs := (zo hf (s := s) (by simp)).trans hH
  have h1 := hR.ev x
  rw [zP hf (by simp), hx] at h1
  obtain ⟨g', e1, e2⟩ := h1.ptr_inv
  have h2 := hR.ev y
  rw [zP hf (by simp)] at h2
  obtain ⟨c1, c2, c3⟩ := yx h2 (by rw [hxs]; exact ho)
  rw [hxs] at c1 c2
  obtain ⟨g'', t', us, b1, b2, _, _, b5, b6⟩ := hR.box s k cs hHs
  rw [e1] at b1
  obtain rfl : g' = g'' := by injection b1 with b1; injection b1 with b1; injection b1 with b1; injection b1
  obtain ⟨dd, u1, u2, u3⟩ := jX hTB ht
  refine ⟨_, M, ρ, ?_, hR.store hHs e1 off c1 c2⟩
  have := dD (P := P) (w := w) (b := g') (o := off) (ty := t) (v := a.eval y) (lN b2 (by omega)) (by rw [c1, hl]; exact u3) c3
  unfold execOp
  simp only [e2, Sem.run_bind, this, Result.andThen_ok]
  rfl
theorem qe {d : Option Nat} {t : TypeId} {x i : Operand} {sz e : Nat} {b : Bool} {L : List AV} {kk : IntKind} {z : Int} {y : AV} (hs : lk TB.sle t = some e) (hz : lk TB.ty e = some (b, sz)) (hx : ev σ x = .sl sz L) (hi : ev σ i = .v (.int kk z)) (h0 : 0 ≤ z) (hy : L[z.toNat]? = some y)
    (h : Exec P X n ops os (mkG gt σ [x, i] [] d (.ep y.cells) [] :: acc) (σ.put d (.ep y.cells)) K) : Op1 P X n ops gt ⟨d, .indexAddr t x i, ty, ps, af, g⟩ os acc σ K :=
  yb (fun M ρ τ a w he hR => by
    have h1 := hR.ev x
    rw [he x (by simp), hx] at h1
    obtain ⟨A, c, us, e1, e2, e2', e3, e4⟩ := h1.sl_inv
    have h2 := zT hR (he i (by simp)) hi
    obtain ⟨f1, b', o, arr, rfl, f3, f4⟩ := e4 z.toNat y hy
    have hlt := zM hy
    refine ⟨.pointer (some ⟨b', o + z.toNat * sz, none⟩), ?_, .ep _ _ b' (o + z.toNat * sz) arr (us z.toNat) f3 (fun j hj => f4 j (by omega)) (fun j q hq => e3 _ y j q hy hq)⟩
    have hc : 0 ≤ z ∧ z < (L.length : Int) := ⟨h0, by omega⟩
    unfold execOp
    simp only [e1, h2, Instr.indexAt, asIntOf, Sem.run_bind, Sem.run_pure, run_underlying (yM hTB hs), Result.andThen_ok, Sem.run_ite, if_pos hc, yA hTB hz, Addr.add_mid]) h
theorem jU {d : Option Nat} {t : TypeId} {x i : Operand} {sz e k : Nat} {b : Bool} {L : List AV} {kk : IntKind} {y : AV} (hs : lk TB.sle t = some e) (hz : lk TB.ty e = some (b, sz)) (hx : ev σ x = .sl sz L) (hi : ev σ i = .v (.int kk (k : Int))) (hy : L[k]? = some y)
    (h : Exec P X n ops os (mkG gt σ [x, i] [] d (.ep y.cells) [] :: acc) (σ.put d (.ep y.cells)) K) : Op1 P X n ops gt ⟨d, .indexAddr t x i, ty, ps, af, g⟩ os acc σ K :=
  qe hTB hs hz hx hi (by omega) (by simpa using hy) h
theorem dT {d : Option Nat} {t : TypeId} {x : Operand} {sz e : Nat} {L : List AV} (hs : lk TB.sle t = some e) (hx : ev σ x = .sl sz L)
    (h : Exec P X n ops os (mkG gt σ [x] [] d (.v (.int .i64 L.length)) [] :: acc) (σ.put d (.v (.int .i64 L.length))) K) : Op1 P X n ops gt ⟨d, .call ⟨.builtin .len, #[x], #[t]⟩, ty, ps, af, g⟩ os acc σ K :=
  yb (fun M ρ τ a w he hR => by
    have h1 := hR.ev x
    rw [he x (by simp), hx] at h1
    obtain ⟨A, c, us, e1, e2, e2', e3, e4⟩ := h1.sl_inv
    refine ⟨goInt L.length, ?_, .v _ _⟩
    unfold execOp
    simp [resolve, invoke, builtin, e1, Builtin.len_, run_underlying (yM hTB hs)]) h
end
section
variable {P : Program} {X : Ctx} {n : Nat} {ops : Array Oper} {os : List Oper} {acc : List Rule} {σ : AS} {K : List Rule → AS → Prop} {gt : List (Nat × AV)} {ty : TypeId} {ps : String} {af : Array Edge} {g : Option (Nat × Bool)}
theorem lD {d : Option Nat} {t : TypeId} {x : Operand} {s : ByteArray} (hs : P.underlying t = some .string) (hx : ev σ x = .v (.string s))
    (h : Exec P X n ops os (mkG gt σ [x] [] d (.v (.int .i64 s.size)) [] :: acc) (σ.put d (.v (.int .i64 s.size))) K) : Op1 P X n ops gt ⟨d, .call ⟨.builtin .len, #[x], #[t]⟩, ty, ps, af, g⟩ os acc σ K :=
  yb (fun M ρ τ a w he hR => by
    have h1 := zT hR (he x (by simp)) hx
    refine ⟨goInt s.size, ?_, .v _ _⟩
    unfold execOp
    simp [resolve, invoke, builtin, h1, Builtin.len_, run_underlying hs]) h
theorem xJ {d : Option Nat} {f : FuncId} {x : Operand} (y : AV) (hy : ev σ x = y) (h : Exec P X n ops os (mkG gt σ [x] [] d (.fn f [y]) [] :: acc) (σ.put d (.fn f [y])) K) : Op1 P X n ops gt ⟨d, .makeFunc (.func f) #[] #[x], ty, ps, af, g⟩ os acc σ K :=
  yb (fun M ρ τ a w he hR => by
    have h1 := hR.ev x
    rw [he x (by simp), hy] at h1
    refine ⟨.func (.func f) #[] ⟨[a.eval x]⟩, by unfold execOp; simp [Instr.makeFunc], .fn _ f _ _ rfl (fun j y u a b => ?_)⟩
    cases j with
    | zero => simp at a b; subst a; subst b; exact h1
    | succ j => simp at a) h
end
end Go.Proofs.YtnafokinifbfhaaGreatDoor
