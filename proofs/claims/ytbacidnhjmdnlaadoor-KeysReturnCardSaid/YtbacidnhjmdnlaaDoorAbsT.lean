/- Own buffers: a call gives one back, an empty one begins as nil, and one that is no longer written becomes an immutable slice; conditions: none. -/
import Derived.Test.YtbacidnhjmdnlaaDoorAbsS
set_option linter.unusedVariables false
set_option linter.unusedSimpArgs false
namespace Go.Proofs.YtbacidnhjmdnlaaDoor
open Go Go.RowKit
def CallPostO (M : Nat → Option (Array Value)) (w : World) (e sz : Nat) (L : List AV) (en : Ending) (w' : World) : Prop :=
  ∃ u us, en = .returned u ∧ Below w.heap.size w w' ∧ w'.ownsRow w.heap.size e sz u L.length us ∧ us.length = (L.flatMap AV.cells).length ∧ (∀ x ∈ L, x.cells.length = sz) ∧ ∀ (j : Nat) (x : AV) (y : Value), (L.flatMap AV.cells)[j]? = some x → us[j]? = some y → Rep M noρ x y ∧ y.oneCell' = true
/-- A call that gives back a new slice of its own. -/
def ACallsO (P : Program) (f : FuncId) (args : List AV) (e sz : Nat) (L : List AV) : Prop :=
  Enter P f ∧ ∀ M w (vs : List Value), LiveM M w → vs.length = args.length → (∀ (j : Nat) (x : AV) (u : Value), args[j]? = some x → vs[j]? = some u → Rep M (refρ []) x u) → Calls P f ⟨vs⟩ w (CallPostO M w e sz L)
theorem owns_base {w : World} {b b' e sz n : Nat} {u : Value} {us : List Value} (h : w.ownsRow b e sz u n us) (hb : b' ≤ b) : w.ownsRow b' e sz u n us := by
  refine ⟨h.1, ?_⟩
  rcases h.2 with h2 | ⟨g, cap, cur, e1, e2, rest⟩
  · exact .inl h2
  · exact .inr ⟨g, cap, cur, e1, Nat.le_trans hb e2, rest⟩
theorem nil_owns (w : World) (b e sz : Nat) : w.ownsRow b e sz (.slice none 0 0) 0 [] := ⟨by simp, .inl ⟨rfl, rfl⟩⟩
section
variable {P : Program} {X : Ctx} {n : Nat} {ops : Array Oper} {os : List Oper} {acc : List Rule} {σ : AS} {K : List Rule → AS → Prop} {gt : List (Nat × AV)} {ty : TypeId} {ps : String} {af : Array Edge} {g : Option (Nat × Bool)} {Q : Exit → AS → Prop} {c : Code}
theorem x_call_own {f : FuncId} {tys : Array TypeId} {xs : List Operand} {args : List AV} {d k0 e sz : Nat} {q0 : Cont} {L : List AV} (hc : ACallsO P f args e sz L) (hargs : RenL noB (πs []) args (xs.map (ev σ))) (hH0 : σ.H d = ⟨k0, q0⟩)
    (h : Exec P X n ops os (mkG gt σ xs [d] (some d) (.own d (k0 + 1)) [(d, ⟨k0 + 1, .buf e sz L⟩)] :: acc) ((σ.hup d ⟨k0 + 1, .buf e sz L⟩).put (some d) (.own d (k0 + 1))) K) :
    Op1 P X n ops gt ⟨some d, .call ⟨.value (.func f), xs.toArray, tys⟩, ty, ps, af, g⟩ os acc σ K := by
  obtain rfl : (σ.H d).k = k0 := by rw [hH0]
  refine ⟨⟨mkR σ xs [d] (some d) (.own d ((σ.H d).k + 1)) [(d, ⟨(σ.H d).k + 1, .buf e sz L⟩)], fun hlt M ρ τ a w hf hR K Q hK => ?_, mkR_fires _ _ _ _ _ _, h⟩⟩
  have hH := mkR_H hf (s := d) (by simp)
  obtain ⟨c1, c2, c3, c4⟩ := call_in (ss := []) (refs := []) hR (by simp) trivial
  obtain ⟨a1, a2⟩ := args_rep hR (fun x hx => mkR_ev hf hx) hargs c3
  unfold Oper.wp
  rw [run_callF hc.1, Oper.upon_enter]
  refine (hc.2 M w _ hR.live a1 a2).mono ?_
  rintro en w' ⟨u, us, rfl, hb, hown, q1, q2, q3⟩
  have hat : u.ownBlock = (Value.slice none 0 0).ownBlock ∨ ∃ g, w.heap.size ≤ g ∧ u.ownBlock = some g := by
    rcases hown.2 with ⟨rfl, _⟩ | ⟨g, cap, cur, rfl, hg, _⟩
    · exact .inl rfl
    · exact .inr ⟨g, hg, rfl⟩
  have hA := hR.appendTo d (L := L) (nil_owns w X.w0.heap.size e sz) (by rw [List.nil_append]; exact owns_base hown hR.size) ⟨hb.os, hb.tape, hb.output, hb.size, fun k hk _ => hb.block k hk⟩ hat (by simp [vblk]) (by simp [vblk]) (by simpa using q1) q2 (by simpa using q3)
  rw [hH] at hA
  refine hK M _ _ w' (hA.put (.own _ _ _ _ ?_ (vblk_own hown).2) hlt)
  simp [updρ]
/-- nil as an empty buffer. -/
theorem awp_own {t s k : Nat} {c0 : Cont} (e sz : Nat) (hT : σ.T t = .v (.slice none 0 0)) (hH : σ.H s = ⟨k, c0⟩) (h : AWp P X n c Q ((σ.hup s ⟨k + 1, .buf e sz []⟩).put (some t) (.own s (k + 1)))) : AWp P X n c Q σ := by
  refine ⟨fun M ρ a w hR => ?_⟩
  obtain rfl : (σ.H s).k = k := by rw [hH]
  have hA := hR.appendTo s (L := []) (w' := w) (news := []) (v' := .slice none 0 0) (nil_owns w X.w0.heap.size e sz) (nil_owns w X.w0.heap.size e sz) ⟨rfl, rfl, rfl, Nat.le_refl _, fun _ _ _ => rfl⟩ (.inl rfl) (by simp [vblk]) (by simp [vblk]) (by simp) (by simp) (by simp)
  refine h.run M _ a w ⟨hA.live, hA.sz, fun j => ?_, hA.box, hA.buf, hA.sep, hA.fresh, hA.glob, hA.base, hA.root, hA.os, hA.tape, hA.output, hA.size, hA.frame, hA.df⟩
  show Rep M _ (bif Nat.beq j t then .own s ((σ.H s).k + 1) else σ.T j) _
  by_cases he : j = t
  · subst he
    rw [Nat.beq_refl]
    have h1 := hR.tm j
    rw [hT] at h1
    rw [h1.v_inv]
    exact .own _ _ _ _ (by simp [updρ]) rfl
  · rw [beq_ne he]; exact hA.tm j
end
section
variable {X : Ctx} {n : Nat} {M : Nat → Option (Array Value)} {ρ : Nat → Nat → Option Value} {σ : AS} {a : Act} {w : World}
/-- A block of the frame's own that nobody writes any more. -/
theorem Rel.addM (h : Rel X n M ρ σ a w) {g : Nat} {arr : Array Value} {t : TypeId} {fr : Nat × Nat} (hg : w.heap[g]? = some (.cells arr t fr)) (hM : M g = none) (hX : X.w0.heap.size ≤ g) (hne : ∀ s', blkOf ρ s' (σ.H s') ≠ some g) : Rel X n (updM M g arr) ρ σ a w := by
  have hm : ∀ g' x, M g' = some x → updM M g arr g' = some x := fun g' x e => by
    unfold updM
    rw [if_neg (by rintro rfl; rw [hM] at e; cases e)]
    exact e
  have hn : ∀ g', g' ≠ g → M g' = none → updM M g arr g' = none := fun g' e1 e2 => by
    unfold updM
    rw [if_neg e1]
    exact e2
  refine ⟨fun g' x e => ?_, h.sz, fun i => (h.tm i).mono' hm (fun _ _ _ e => e), fun s k cs e => ?_, fun s k e sz L he => ?_, h.sep, h.fresh, fun g' vs e => hm _ _ (h.glob g' vs e), fun g' hlt => ?_, h.root, h.os, h.tape, h.output, h.size, h.frame, h.df⟩
  · unfold updM at e
    split at e
    · rename_i h1; injection e with e; subst e; subst h1; exact ⟨t, fr, hg⟩
    · exact h.live g' x e
  · exact (h.box s k cs e).mono hm (fun _ _ _ e => e) (fun _ _ => rfl) (fun g' hg' e2 => hn g' (fun h1 => hne s (by rw [e]; simp [blkOf, hg', vblk, h1])) e2)
  · exact (h.buf s k e sz L he).mono hm (fun _ _ _ e => e) (fun _ _ _ _ => rfl) (fun u g' hu hg' e2 => hn g' (fun h1 => hne s (by rw [he, ← h1]; simp [blkOf, hu, hg'])) e2)
  · unfold updM
    rw [if_neg (by omega)]
    exact h.base g' hlt
end
section
variable {P : Program} {X : Ctx} {n : Nat} {σ : AS} {Q : Exit → AS → Prop} {c : Code}
theorem awp_freeze {t s k e sz : Nat} {L : List AV} (hT : σ.T t = .own s k) (hH : σ.H s = ⟨k, .buf e sz L⟩) (h : AWp P X n c Q ((σ.hup s ⟨k, .dead⟩).put (some t) (.sl sz L))) : AWp P X n c Q σ := by
  refine ⟨fun M ρ a w hR => ?_⟩
  have hdead : Rel X n M ρ (σ.hup s ⟨k, .dead⟩) a w := hR.weak ⟨fun _ => .inl rfl, fun s' => by
    simp only [AS.hup]
    by_cases hs' : s' = s
    · subst hs'; rw [Nat.beq_refl]; exact ⟨by rw [hH]; rfl, .inr rfl⟩
    · rw [beq_ne hs']; exact ⟨rfl, .inl rfl⟩⟩
  have hbuf := hR.buf s k e sz L hH
  have hto := hR.tm t
  rw [hT] at hto
  have fin : ∀ M', Rel X n M' ρ (σ.hup s ⟨k, .dead⟩) a w → Rep M' ρ (.sl sz L) (a.tmps.getD t undef) → ∃ M' ρ', Rel X n M' ρ' ((σ.hup s ⟨k, .dead⟩).put (some t) (.sl sz L)) a w := fun M' hA hr =>
    ⟨M', ρ, hA.live, hA.sz, fun j => by
      show Rep M' ρ (bif Nat.beq j t then .sl sz L else σ.T j) _
      by_cases he : j = t
      · subst he; rw [Nat.beq_refl]; exact hr
      · rw [beq_ne he]; exact hA.tm j, hA.box, hA.buf, hA.sep, hA.fresh, hA.glob, hA.base, hA.root, hA.os, hA.tape, hA.output, hA.size, hA.frame, hA.df⟩
  suffices hs : ∃ M' ρ', Rel X n M' ρ' ((σ.hup s ⟨k, .dead⟩).put (some t) (.sl sz L)) a w by
    obtain ⟨M', ρ', hs⟩ := hs
    exact h.run M' ρ' a w hs
  have hbuf' := hbuf
  obtain ⟨u, us, b1, b2, b3, b4, b5, b6⟩ := hbuf
  have hu := hto.own_inv
  rw [b1] at hu
  injection hu with hu
  rcases b2.2 with ⟨rfl, h0⟩ | ⟨g, cap, cur, rfl, e2, e3, -⟩
  · refine fin M hdead ?_
    rw [← hu]
    obtain rfl : L = [] := List.eq_nil_of_length_eq_zero h0
    exact .sl _ sz [] none 0 (fun _ _ => undef) (by simp) (by simp) (by simp) (by simp)
  · have hMg := b3 g rfl
    have hbs : blkOf ρ s (σ.H s) = some g := by rw [hH]; simp [blkOf, b1, vblk]
    have hA := hdead.addM (g := g) e3 hMg e2 (fun s' hs' => by
      simp only [AS.hup] at hs'
      by_cases he : s' = s
      · subst he; rw [Nat.beq_refl] at hs'; simp [blkOf] at hs'
      · rw [beq_ne he] at hs'; exact he (hR.sep s' s g hs' hbs))
    refine fin _ hA ?_
    have hmono : ∀ g' x, M g' = some x → updM M g cur g' = some x := fun g' x e => by
      unfold updM
      rw [if_neg (by rintro rfl; rw [hMg] at e; cases e)]
      exact e
    have := own_sl hbuf' hmono (M' := updM M g cur) (ρ' := ρ) (fun v g' t fr arr h1 h2 h3 => by
      rw [b1] at h1
      injection h1 with h1
      subst h1
      injection h2 with h2
      subst h2
      rw [e3] at h3
      injection h3 with h3
      injection h3 with h3
      subst h3
      simp [updM]) hto
    exact this
end
/-- Ends with two results. -/
theorem ret0_2 {TB : Tabs} {σ : AS} {fn : Func} {r : AV} {e : Exit} {t1 t2 : Nat} {y z : AV} (he : e = .normal ∨ e = .ret) (hfn : fn.results = #[.tmp t1, .tmp t2]) (h1 : vf (σ.T t1) = some y) (h2 : vf (σ.T t2) = some z) (hr : Ren (bufs σ) (frameπ 0 []) r (.tu [y, z])) : RetQ TB fn 0 r [] e σ := by
  refine ret0 he (xs := [σ.T t1, σ.T t2]) ?_ (by rw [vf_eq h1, vf_eq h2]; exact hr)
  rw [hfn]
  exact ⟨.tmp t1, .tmp t2, trivial⟩
theorem ret0_ct {TB : Tabs} {σ : AS} {fn : Func} {r : AV} {e : Exit} {p ty t s k m : Nat} {cs : List AV} {z : AV} (he : e = .normal ∨ e = .ret) (hfn : fn.results = #[.cell p ty, .tmp t]) (hT : σ.T p = .ptr s k 0) (hH : σ.H s = ⟨k, .box cs⟩) (ht : lk TB.ty ty = some (true, m)) (hl : cs.length = m) (hT2 : vf (σ.T t) = some z) (hr : Ren (bufs σ) (frameπ 0 []) r (.tu [.ag cs, z])) : RetQ TB fn 0 r [] e σ := by
  refine ret0 he (xs := [.ag cs, σ.T t]) ?_ (by rw [vf_eq hT2]; exact hr)
  rw [hfn]
  exact ⟨.agg p ty s k m cs hT hH ht hl, .tmp t, trivial⟩
theorem ret0_1 {TB : Tabs} {σ : AS} {fn : Func} {r : AV} {e : Exit} {t1 : Nat} {y : AV} (he : e = .normal ∨ e = .ret) (hfn : fn.results = #[.tmp t1]) (h1 : vf (σ.T t1) = some y) (hr : Ren (bufs σ) (frameπ 0 []) r y) : RetQ TB fn 0 r [] e σ := by
  refine ret0 he (xs := [σ.T t1]) ?_ (by rw [vf_eq h1]; exact hr)
  rw [hfn]
  exact ⟨.tmp t1, trivial⟩
end Go.Proofs.YtbacidnhjmdnlaaDoor
