/- Calls as operations of the abstract machine; conditions: none. -/
import Derived.Test.YtbacidnhjmdnlaaDoorAbsJ
set_option linter.unusedVariables false
set_option linter.unusedSimpArgs false
namespace Go.Proofs.YtbacidnhjmdnlaaDoor
open Go Go.RowKit
section
variable {X : Ctx} {n : Nat} {M : Nat → Option (Array Value)} {ρ : Nat → Nat → Option Value} {σ : AS} {a : Act} {w : World}
/-- A box that another has made. -/
theorem Rel.addBox (h : Rel X n M ρ σ a w) (s g : Nat) (t : TypeId) {cs : List AV} {us : List Value} (hg : w.heap[g]? = some (.cells ⟨us⟩ t (0, 0))) (hM : M g = none) (hX : X.w0.heap.size ≤ g) (hne : ∀ s', blkOf ρ s' (σ.H s') ≠ some g)
    (hl : us.length = cs.length) (hc : ∀ (j : Nat) (x : AV) (u : Value), cs[j]? = some x → us[j]? = some u → Rep M (updρ ρ s ((σ.H s).k + 1) (.pointer (some ⟨g, 0, none⟩))) x u) :
    Rel X n M (updρ ρ s ((σ.H s).k + 1) (.pointer (some ⟨g, 0, none⟩))) (σ.hup s ⟨(σ.H s).k + 1, .box cs⟩) a w := by
  have hm := updρ_mono (u := .pointer (some ⟨g, 0, none⟩)) (fresh_next h s)
  have hother : ∀ s', s' ≠ s → (σ.hup s ⟨(σ.H s).k + 1, .box cs⟩).H s' = σ.H s' := fun s' hs => by simp [AS.hup, beq_ne hs]
  have hsame : (σ.hup s ⟨(σ.H s).k + 1, .box cs⟩).H s = ⟨(σ.H s).k + 1, .box cs⟩ := by simp [AS.hup, Nat.beq_refl]
  have hblk : ∀ s', s' ≠ s → blkOf (updρ ρ s ((σ.H s).k + 1) (.pointer (some ⟨g, 0, none⟩))) s' (σ.H s') = blkOf ρ s' (σ.H s') := fun s' hs => by
    unfold blkOf updρ
    cases (σ.H s').c <;> simp [hs]
  have hblks : blkOf (updρ ρ s ((σ.H s).k + 1) (.pointer (some ⟨g, 0, none⟩))) s ⟨(σ.H s).k + 1, .box cs⟩ = some g := by
    simp [blkOf, updρ, vblk]
  refine ⟨h.live, h.sz, fun i => (h.tm i).mono' (fun _ _ e => e) hm, fun s' k cs' e => ?_, fun s' k e sz L he => ?_, fun s1 s2 g1 e1 e2 => ?_, fun s' k hk => ?_, h.glob, h.base, fun i g e => hm _ _ _ (h.root i g e), h.os, h.tape, h.output, h.size, h.frame, h.df⟩
  · by_cases hs : s' = s
    · subst hs
      rw [hsame] at e
      injection e with e1 e2
      injection e2 with e2
      subst e1; subst e2
      exact ⟨g, t, us, by simp [updρ], hg, hM, .inl hX, hl, hc⟩
    · rw [hother s' hs] at e
      exact (h.box s' k cs' e).mono (fun _ _ e => e) hm (fun _ _ => rfl) (fun _ _ e => e)
  · by_cases hs : s' = s
    · subst hs
      rw [hsame] at he
      injection he with _ he
      cases he
    · rw [hother s' hs] at he
      exact (h.buf s' k e sz L he).mono (fun _ _ e => e) hm (fun _ _ _ _ => rfl) (fun _ _ _ _ e => e)
  · by_cases h1 : s1 = s
    · by_cases h2 : s2 = s
      · rw [h1, h2]
      · exfalso
        subst h1
        rw [hsame, hblks] at e1
        rw [hother s2 h2, hblk s2 h2] at e2
        injection e1 with e1
        exact hne s2 (by rw [e1]; exact e2)
    · by_cases h2 : s2 = s
      · exfalso
        subst h2
        rw [hsame, hblks] at e2
        rw [hother s1 h1, hblk s1 h1] at e1
        injection e2 with e2
        exact hne s1 (by rw [e2]; exact e1)
      · rw [hother s1 h1, hblk s1 h1] at e1
        rw [hother s2 h2, hblk s2 h2] at e2
        exact h.sep s1 s2 g1 e1 e2
  · by_cases hs : s' = s
    · subst hs
      rw [hsame] at hk
      simp only at hk
      unfold updρ
      rw [if_neg (by omega)]
      exact h.fresh s' k (by omega)
    · rw [hother s' hs] at hk
      unfold updρ
      rw [if_neg (fun e => hs e.1)]
      exact h.fresh s' k hk
def gsOf (ρ : Nat → Nat → Option Value) (ss : List (Nat × Nat)) : List Nat := ss.map fun p => ((ρ p.1 p.2).bind vblk).getD 0
def πs (ss : List (Nat × Nat)) : Nat → Option (Nat × Nat) := fun i => ss[i]?
/-- What a call is given, as it wants it. -/
theorem call_in (h : Rel X n M ρ σ a w) {ss : List (Nat × Nat)} {refs : List (List AV)} (hss : (ss.map (·.1)).Nodup) (hin : RefsIn σ (πs ss) ss refs) :
    (gsOf ρ ss).Nodup ∧ Refs M (refρ (gsOf ρ ss)) w (gsOf ρ ss) refs ∧ (∀ i s k, πs ss i = some (s, k) → refρ (gsOf ρ ss) (refB + i) 0 = ρ s k) ∧
      ∀ (i : Nat) (p : Nat × Nat) (g : Nat), ss[i]? = some p → (gsOf ρ ss)[i]? = some g → ρ p.1 p.2 = some (.pointer (some ⟨g, 0, none⟩)) ∧ ∃ c, σ.H p.1 = ⟨p.2, .box c⟩ := by
  obtain ⟨hl, hat⟩ := refsIn_at hin
  have hg : ∀ (i : Nat) (p : Nat × Nat) (g : Nat), ss[i]? = some p → (gsOf ρ ss)[i]? = some g → ρ p.1 p.2 = some (.pointer (some ⟨g, 0, none⟩)) ∧ ∃ c, σ.H p.1 = ⟨p.2, .box c⟩ := fun i p g hp hg => by
    obtain ⟨c, hc⟩ := some_at (L := refs) (k := i) (by rw [← hl]; exact lt_at hp)
    obtain ⟨c', h1, h2⟩ := hat i p c hp hc
    obtain ⟨g', t, us, b1, _⟩ := h.box _ _ _ h1
    simp only [gsOf, List.getElem?_map, hp, Option.map_some, b1, Option.bind_some, vblk, Option.getD_some, Option.some.injEq] at hg
    subst hg
    exact ⟨b1, c', h1⟩
  have hπ : ∀ i s k, πs ss i = some (s, k) → refρ (gsOf ρ ss) (refB + i) 0 = ρ s k := fun i s k hi => by
    have hi' : ss[i]? = some (s, k) := hi
    obtain ⟨g, hgg⟩ := some_at (L := gsOf ρ ss) (k := i) (by simp [gsOf]; exact lt_at hi')
    rw [refρ_at hgg, (hg i (s, k) g hi' hgg).1]
  refine ⟨?_, ⟨by simp [gsOf, hl], fun i g c hgg hc => ?_⟩, hπ, hg⟩
  · unfold List.Nodup at hss
    rw [List.pairwise_map] at hss
    unfold List.Nodup gsOf
    rw [List.pairwise_map]
    refine hss.imp_of_mem fun {p q} hp hq hpq he => hpq ?_
    have hb : ∀ p ∈ ss, blkOf ρ p.1 (σ.H p.1) = some (((ρ p.1 p.2).bind vblk).getD 0) := fun p hp => by
      obtain ⟨i, hi⟩ := List.getElem?_of_mem hp
      obtain ⟨g, hgg⟩ := some_at (L := gsOf ρ ss) (k := i) (by simp [gsOf]; exact lt_at hi)
      obtain ⟨e1, c, e2⟩ := hg i p g hi hgg
      rw [e2]
      simp [blkOf, e1, vblk]
    exact h.sep p.1 q.1 _ (hb p hp) (by rw [he]; exact hb q hq)
  · obtain ⟨p, hp⟩ := some_at (L := ss) (k := i) (by have := lt_at hgg; simpa [gsOf] using this)
    obtain ⟨c', h1, h2⟩ := hat i p c hp hc
    obtain ⟨g', t, us, b1, b2, b3, b4, b5, b6⟩ := h.box _ _ _ h1
    have := (hg i p g hp hgg).1
    rw [b1] at this
    obtain rfl : g' = g := by injection this with this; injection this with this; injection this with this; injection this
    refine ⟨b3, t, us, b2, by rw [b5]; exact h2.spec.1.symm, fun j x u hx hu => ?_⟩
    obtain ⟨y, hy⟩ := some_at (L := c') (k := j) (by rw [← h2.spec.1]; exact lt_at hx)
    exact Ren.out hπ (fun _ _ e => e) (fun _ _ _ _ _ hb _ => hb.elim) (h2.spec.2 j x y hx hy) (b6 j y u hy hu)
end
section
variable {P : Program} {X : Ctx} {n : Nat} {ops : Array Oper} {os : List Oper} {acc : List Rule} {σ : AS} {K : List Rule → AS → Prop} {gt : List (Nat × AV)} {d : Option Nat} {ty : TypeId} {ps : String} {af : Array Edge} {g : Option (Nat × Bool)}
theorem fires_in {σ τ : AS} {xs : List Operand} {ss : List (Nat × Nat)} {y : AV} {hw : List (Nat × HC)} (hf : (mkR σ xs (ss.map (·.1)) d y hw).fires τ) {π : Nat → Option (Nat × Nat)} : ∀ {ss' : List (Nat × Nat)} {cs : List (List AV)}, (∀ p ∈ ss', p ∈ ss) → RefsIn σ π ss' cs → RefsIn τ π ss' cs
  | [], [], _, h => h
  | (s, k) :: ss', c :: cs, hs, h => by
    obtain ⟨⟨c', h1, h2⟩, h3⟩ := h
    exact ⟨⟨c', (mkR_H hf (s := s) (List.mem_map_of_mem (f := (·.1)) (hs (s, k) (by simp)))).trans h1, h2⟩, fires_in hf (fun p hp => hs p (by simp [hp])) h3⟩
  | [], c :: cs, _, h => h.elim
  | p :: ss', [], _, h => h.elim
theorem args_rep {M : Nat → Option (Array Value)} {ρ : Nat → Nat → Option Value} {τ : AS} {a : Act} {w : World} (hR : Rel X n M ρ τ a w) {xs : List Operand} (he : ∀ x ∈ xs, ev τ x = ev σ x) {π : Nat → Option (Nat × Nat)} {args : List AV} (hargs : RenL noB π args (xs.map (ev σ))) {ρb : Nat → Nat → Option Value} (hπ : ∀ i s k, π i = some (s, k) → ρb (refB + i) 0 = ρ s k) :
    (xs.map a.eval).length = args.length ∧ ∀ (j : Nat) (x : AV) (u : Value), args[j]? = some x → (xs.map a.eval)[j]? = some u → Rep M ρb x u := by
  obtain ⟨h1, h2⟩ := hargs.spec
  refine ⟨by simp at h1 ⊢; omega, fun j x u hx hu => ?_⟩
  rw [List.getElem?_map] at hu
  cases ho : xs[j]? with
  | none => rw [ho] at hu; cases hu
  | some o =>
    rw [ho] at hu
    injection hu with hu
    subst hu
    have h3 := hR.ev o
    rw [he o (List.mem_of_getElem? ho)] at h3
    exact Ren.out hπ (fun _ _ e => e) (fun _ _ _ _ _ hb _ => hb.elim) (h2 j x _ hx (by rw [List.getElem?_map, ho]; rfl)) h3
theorem run_callF {f : FuncId} {tys : Array TypeId} {xs : List Operand} {a : Act} {w : World} (he : Enter P f) : (execOp a.eval ⟨d, .call ⟨.value (.func f), xs.toArray, tys⟩, ty, ps, af, g⟩).run P w = .ok (.enter f ⟨xs.map a.eval⟩) w := by
  unfold execOp
  simp [resolve, Act.eval, Deferred.ofValue, invoke, he _ w]
/-- A call. -/
theorem x_call {f : FuncId} {tys : Array TypeId} {xs : List Operand} {args : List AV} {refs refs' cs' : List (List AV)} {r y : AV} {ss : List (Nat × Nat)} (hc : ACalls P X.G f args refs r refs') (hargs : RenL noB (πs ss) args (xs.map (ev σ)))
    (hss : (ss.map (·.1)).Nodup) (hin : RefsIn σ (πs ss) ss refs) (hlen : ss.length = refs'.length) (hback : RefsBack (πs ss) refs' cs') (hr : RenB (πs ss) r y)
    (h : Exec P X n ops os (mkG gt σ xs (ss.map (·.1)) d y (hwOf ss cs') :: acc) ((hups (hwOf ss cs') σ).put d y) K) : Op1 P X n ops gt ⟨d, .call ⟨.value (.func f), xs.toArray, tys⟩, ty, ps, af, g⟩ os acc σ K := by
  refine ⟨⟨mkR σ xs (ss.map (fun p : Nat × Nat => p.1)) d y (hwOf ss cs'), fun hlt M ρ τ a w hf hR K Q hK => ?_, mkR_fires _ _ _ _ _ _, h⟩⟩
  obtain ⟨c1, c2, c3, c4⟩ := call_in hR hss (fires_in hf (fun p hp => hp) hin)
  obtain ⟨a1, a2⟩ := args_rep hR (fun x hx => mkR_ev hf hx) hargs c3
  unfold Oper.wp
  rw [run_callF hc.1, Oper.upon_enter]
  refine (hc.2 M w (gsOf ρ ss) _ hR.live hR.glob c1 c2 a1 a2).mono ?_
  rintro e w' ⟨u, M', gs', rfl, p1, p2, p3, p4, p5, p6, p7, p8, p9, p10, p11, p12⟩
  have hgl : (gsOf ρ ss).length = ss.length := by simp [gsOf]
  have hg0 : gs' = [] := by
    have := p11.len
    simp [hgl] at this
    exact List.eq_nil_of_length_eq_zero (by omega)
  subst hg0
  simp only [List.append_nil] at p11 p12
  obtain ⟨b1, b2⟩ := refsBack_at hback
  have hR' := hR.call (cs' := cs') (w' := w') hss (by omega) hgl c4 p1 p2 p3 p4 p5 p6 p7 p8 (fun i g' c hg' hc' => by
    obtain ⟨c0, hc0⟩ := some_at (L := refs') (k := i) (by have := lt_at hc'; omega)
    obtain ⟨_, t, us, e1, e2, e3⟩ := p11.at_ i g' c0 hg' hc0
    have hb := (b2 i c0 c hc0 hc').spec
    refine ⟨t, us, e1, by omega, fun j x z hx hz => ?_⟩
    obtain ⟨x0, hx0⟩ := some_at (L := c0) (k := j) (by have := lt_at hx; omega)
    exact RenB.back c3 (hb.2 j x0 x hx0 hx) (e3 j x0 z hx0 hz))
  exact hK M' ρ _ w' (hR'.put (RenB.back c3 hr p12) hlt)
/-- A call that hands back a new box. -/
theorem x_call_new {f : FuncId} {tys : Array TypeId} {xs : List Operand} {args : List AV} {i0 : Nat} {c0 : List AV} {k0 : Nat} {q0 : Cont} (hc : ACalls P X.G f args [] (.ptr (refB + 0) 0 0) [c0]) (hargs : RenL noB (πs []) args (xs.map (ev σ))) (hc0 : RenBL (πs []) c0 c0) (hH0 : σ.H i0 = ⟨k0, q0⟩)
    (h : Exec P X n ops os (mkG gt σ xs [i0] (some i0) (.ptr i0 (k0 + 1) 0) [(i0, ⟨k0 + 1, .box c0⟩)] :: acc) ((σ.hup i0 ⟨k0 + 1, .box c0⟩).put (some i0) (.ptr i0 (k0 + 1) 0)) K) :
    Op1 P X n ops gt ⟨some i0, .call ⟨.value (.func f), xs.toArray, tys⟩, ty, ps, af, g⟩ os acc σ K := by
  obtain rfl : (σ.H i0).k = k0 := by rw [hH0]
  refine ⟨⟨mkR σ xs [i0] (some i0) (.ptr i0 ((σ.H i0).k + 1) 0) [(i0, ⟨(σ.H i0).k + 1, .box c0⟩)], fun hlt M ρ τ a w hf hR K Q hK => ?_, mkR_fires _ _ _ _ _ _, h⟩⟩
  have hH := mkR_H hf (s := i0) (by simp)
  obtain ⟨c1, c2, c3, c4⟩ := call_in (ss := []) (refs := []) hR (by simp) trivial
  obtain ⟨a1, a2⟩ := args_rep hR (fun x hx => mkR_ev hf hx) hargs c3
  unfold Oper.wp
  rw [run_callF hc.1, Oper.upon_enter]
  refine (hc.2 M w (gsOf ρ []) _ hR.live hR.glob c1 c2 a1 a2).mono ?_
  rintro e w' ⟨u, M', gs', rfl, p1, p2, p3, p4, p5, p6, p7, p8, p9, p10, p11, p12⟩
  have hgl : gsOf ρ [] = [] := rfl
  rw [hgl] at p7 p9 p11 p12
  simp only [List.nil_append] at p9 p11 p12
  obtain ⟨g1, rfl⟩ : ∃ g1, gs' = [g1] := by
    have := p11.len
    simp at this
    exact List.length_eq_one_iff.1 this
  have hR' := hR.call (ss := []) (gs := []) (cs' := []) (w' := w') (by simp) rfl rfl (by simp) p1 p2 p3 p4 p5 p6 p7 p8 (by simp)
  have hR' : Rel X n M' ρ τ a w' := hR'
  obtain ⟨q1, t, us, q2, q3, q4⟩ := p11.at_ 0 g1 c0 rfl rfl
  have hge := p10 g1 (by simp)
  have hpt : u = .pointer (some ⟨g1, 0, none⟩) := by
    obtain ⟨g2, e1, e2⟩ := p12.ptr_inv
    rw [refρ_at (gs := [g1]) (i := 0) (g := g1) rfl] at e1
    injection e1 with e1
    injection e1 with e1
    injection e1 with e1
    injection e1 with e1
    rw [e2, e1]
  subst hpt
  have hR2 := hR'.addBox i0 g1 t (cs := c0) q2 q1 (Nat.le_trans hR.size hge) (fun s' hs' => by
    have hs2 : blkOf ρ s' (τ.H s') = some g1 := hs'
    have := (hR.blk_lt hs2).1
    omega) q3 (fun j x z hx hz => by
      have h1 := q4 j x z hx hz
      have h2 := hc0.spec.2 j x x hx hx
      exact (RenB.back (ρ := ρ) (fun i s k hi => by simp [πs] at hi) h2 h1).mono' (fun _ _ e => e) (updρ_mono (fresh_next hR' i0)))
  rw [hH] at hR2
  refine hK M' _ _ w' (hR2.put (.ptr _ _ _ _ g1 ?_) hlt)
  simp [updρ]
/-- A call without boxes. -/
theorem x_call0 {f : FuncId} {tys : Array TypeId} {xs : List Operand} {args : List AV} {r : AV} (hc : ACalls P X.G f args [] r []) (hargs : RenL noB (πs []) args (xs.map (ev σ))) (hr : RenB (πs []) r r)
    (h : Exec P X n ops os (mkG gt σ xs [] d r [] :: acc) (σ.put d r) K) : Op1 P X n ops gt ⟨d, .call ⟨.value (.func f), xs.toArray, tys⟩, ty, ps, af, g⟩ os acc σ K :=
  x_call (ss := []) (cs' := []) hc hargs (by simp) trivial rfl trivial hr h
end
end Go.Proofs.YtbacidnhjmdnlaaDoor
