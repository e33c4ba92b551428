/- Calls that give back a new slice of their own whose elements may hold new slices, from a walk and in a walk; conditions: tables of types that agree with the program's. -/
import Derived.Test.YtamihjgfncjdoaaDoorInsA
set_option linter.unusedVariables false
set_option linter.unusedSimpArgs false
namespace Go.Proofs.YtamihjgfncjdoaaDoor
open Go Go.RowKit
def CallPostW (M : Nat → Option (Array Value)) (w : World) (e sz : Nat) (L : List AV) (en : Ending) (w' : World) : Prop :=
  ∃ u us M', en = .returned u ∧ (∀ g a, M g = some a → M' g = some a) ∧ LiveM M' w' ∧ (∀ g, g < w.heap.size → M g = none → M' g = none) ∧ Below w.heap.size w w' ∧ w'.ownsRow w.heap.size e sz u L.length us ∧ (∀ g, vblk u = some g → M' g = none) ∧
    us.length = (L.flatMap AV.cells).length ∧ (∀ x ∈ L, x.cells.length = sz) ∧ ∀ (j : Nat) (x : AV) (y : Value), (L.flatMap AV.cells)[j]? = some x → us[j]? = some y → Rep M' noρ x y ∧ y.oneCell' = true
def ACallsW (P : Program) (G : Nat → Option (List Value)) (f : FuncId) (args : List AV) (e sz : Nat) (L : List AV) : Prop :=
  Enter P f ∧ ∀ M w (vs : List Value), LiveM M w → (∀ g us, G g = some us → M g = some ⟨us⟩) → vs.length = args.length → (∀ (j : Nat) (x : AV) (u : Value), args[j]? = some x → vs[j]? = some u → Rep M (refρ []) x u) → Calls P f ⟨vs⟩ w (CallPostW M w e sz L)
def RetW (TB : Tabs) (fn : Func) (e sz : Nat) (L : List AV) : Exit → AS → Prop := fun ex σ =>
  (ex = .normal ∨ ex = .ret) ∧ ∃ s k, ResL TB σ fn.results.toList [.own s k] ∧ σ.H s = ⟨k, .buf e sz L⟩
theorem retW {TB : Tabs} {fn : Func} {e sz s k t1 : Nat} {L : List AV} {σ : AS} {ex : Exit} (he : ex = .normal ∨ ex = .ret) (hfn : fn.results = #[.tmp t1]) (h1 : σ.T t1 = .own s k) (hH : σ.H s = ⟨k, .buf e sz L⟩) : RetW TB fn e sz L ex σ := by
  refine ⟨he, s, k, ?_, hH⟩
  rw [hfn, ← h1]
  exact ⟨.tmp t1, trivial⟩
section
variable {P : Program} {TB : Tabs} {G : Nat → Option (List Value)} {f : FuncId} {args : List AV} {e sz : Nat} {L : List AV}
theorem acallsW_of (hTB : TabsOk P TB) {fn : Func} {c : Code} (he : Enter P f) (hf : P.funcs[f]? = some fn) (hb : fn.body = some c) (n : Nat) (hn : fn.ntmps = n) (hle : args.length ≤ n)
    (h : ∀ X : Ctx, X.G = G → AWp P X n c (RetW TB fn e sz L) (start0 args [])) : ACallsW P G f args e sz L := by
  refine ⟨he, fun M w vs hl hG hv hrep => ?_⟩
  refine calls_of_wp hf hb ?_
  rw [hn]
  have hR := start_rel (n := n) (gs := []) (refs := []) hl hG (by simp) ⟨rfl, by simp⟩ hv hrep hle
  refine wp_mono ((h ⟨w, [], [], G, M⟩ rfl).run M (refρ []) _ w hR) ?_
  rintro ex a' w' ⟨M', ρ', σ', hR', hex, s, k, hx, hH⟩
  obtain ⟨u, hu, hru⟩ := res_run hTB hR' hx
  have hru' : Rep M' ρ' (.own s k) u := hru
  obtain ⟨v, us, b1, b2, b3, b4, b5, b6⟩ := hR'.buf s k e sz L hH
  have hvu : v = u := by
    cases hru' with
    | own _ _ _ _ h1 _ => rw [h1] at b1; injection b1 with b1; exact b1.symm
  subst hvu
  have hM0 : ∀ g a, M g = some a → M' g = some a := fun g a h => by
    obtain ⟨t, fr, hh⟩ := hl g a h
    rw [hR'.base g (Array.getElem?_eq_some_iff.1 hh).1 (by simp)]; exact h
  have hpost : CallPostW M w e sz L (.returned v) w' := ⟨v, us, M', rfl, hM0, hR'.live, fun g hg hn => by rw [hR'.base g hg (by simp)]; exact hn, ⟨hR'.os, hR'.tape, hR'.output, hR'.size, fun g hg => hR'.frame g hg (by simp)⟩, b2.up rfl, b3, b4, b5, b6⟩
  rcases hex with rfl | rfl
  · exact ⟨hR'.df, v, hu, hpost⟩
  · exact ⟨hR'.df, v, hu, hpost⟩
end
section
variable {P : Program} {X : Ctx} {n : Nat} {ops : Array Oper} {os : List Oper} {acc : List Rule} {σ : AS} {K : List Rule → AS → Prop} {gt : List (Nat × AV)} {ty : TypeId} {ps : String} {af : Array Edge} {g : Option (Nat × Bool)}
theorem x_call_ownW {f : FuncId} {tys : Array TypeId} {xs : List Operand} {args : List AV} {d k0 e sz : Nat} {q0 : Cont} {L : List AV} (hc : ACallsW P X.G f args e sz L) (hargs : RenL noB (πs []) args (xs.map (ev σ))) (hH0 : σ.H d = ⟨k0, q0⟩)
    (h : Exec P X n ops os (mkG gt σ xs [d] (some d) (.own d (k0 + 1)) [(d, ⟨k0 + 1, .buf e sz L⟩)] :: acc) ((σ.hup d ⟨k0 + 1, .buf e sz L⟩).put (some d) (.own d (k0 + 1))) K) :
    Op1 P X n ops gt ⟨some d, .call ⟨.value (.func f), xs.toArray, tys⟩, ty, ps, af, g⟩ os acc σ K := by
  obtain rfl : (σ.H d).k = k0 := by rw [hH0]
  refine ⟨⟨mkR σ xs [d] (some d) (.own d ((σ.H d).k + 1)) [(d, ⟨(σ.H d).k + 1, .buf e sz L⟩)], fun hlt M ρ τ a w hf hR K Q hK => ?_, mkR_fires _ _ _ _ _ _, h⟩⟩
  have hH := mkR_H hf (s := d) (by simp)
  obtain ⟨c1, c2, c3, c4⟩ := call_in (ss := []) (refs := []) hR (by simp) trivial
  obtain ⟨a1, a2⟩ := args_rep hR (fun x hx => mkR_ev hf hx) hargs c3
  unfold Oper.wp
  rw [run_callF hc.1, Oper.upon_enter]
  refine (hc.2 M w _ hR.live hR.glob a1 a2).mono ?_
  rintro en w' ⟨u, us, M', rfl, p1, p2, p3, hb, hown, q0, q1, q2, q3⟩
  have hR' := hR.call (ss := []) (gs := []) (cs' := []) (w' := w') (by simp) rfl rfl (by simp) p1 p2 hb.os hb.tape hb.output hb.size (fun g hg _ => hb.block g hg) p3 (by simp)
  have hR' : Rel X n M' ρ τ a w' := hR'
  have hown' := ownsX_new (X := X) hown hR.size
  have hne : ∀ s' g, vblk u = some g → blkOf ρ s' (τ.H s') ≠ some g := fun s' g hg e => by
    have hlt := (hR.blk_lt e).1
    rcases hown.2 with ⟨rfl, _⟩ | ⟨g', cap, cur, rfl, hg', _⟩
    · simp [vblk] at hg
    · simp [vblk] at hg
      omega
  have hA := hR'.ownTo d (L := L) hown' hown'.1 ⟨rfl, rfl, rfl, Nat.le_refl _, fun _ _ _ => rfl⟩ (.inl rfl) q0 hne q1 q2 q3
  rw [hH] at hA
  refine hK M' _ _ w' (hA.put (.own _ _ _ _ ?_ (vblk_own hown'.1).2) hlt)
  simp [updρ]
end
section
variable {X : Ctx} {n : Nat} {M : Nat → Option (Array Value)} {ρ : Nat → Nat → Option Value} {σ : AS} {a : Act} {w : World}
/-- A buffer that nobody writes any more, as a slice. -/
theorem Rel.frz (hR : Rel X n M ρ σ a w) {s k e sz : Nat} {L : List AV} {v : Value} (hH : σ.H s = ⟨k, .buf e sz L⟩) (hto : Rep M ρ (.own s k) v) : ∃ M', Rel X n M' ρ (σ.hup s ⟨k, .dead⟩) a w ∧ Rep M' ρ (.sl sz L) v := by
  have hdead : Rel X n M ρ (σ.hup s ⟨k, .dead⟩) a w := hR.weak ⟨fun _ => .inl rfl, fun s' => by
    simp only [AS.hup]
    by_cases hs' : s' = s
    · subst hs'; rw [Nat.beq_refl]; exact ⟨by rw [hH]; rfl, .inr rfl⟩
    · rw [beq_ne hs']; exact ⟨rfl, .inl rfl⟩⟩
  have hbuf := hR.buf s k e sz L hH
  have hbuf' := hbuf
  obtain ⟨u, us, b1, b2, b3, b4, b5, b6⟩ := hbuf
  have hu := hto.own_inv
  rw [b1] at hu
  injection hu with hu
  obtain ⟨b2, b2m⟩ := b2
  rcases b2.2 with ⟨rfl, h0⟩ | ⟨g, cap, cur, rfl, e2, e3, -⟩
  · refine ⟨M, hdead, ?_⟩
    rw [← hu]
    obtain rfl : L = [] := List.eq_nil_of_length_eq_zero h0
    exact .sl _ sz [] none 0 (fun _ _ => undef) (by simp) (by simp) (by simp) (by simp)
  · have hMg := b3 g rfl
    have hbs : blkOf ρ s (σ.H s) = some g := by rw [hH]; simp [blkOf, b1, vblk]
    have hA := hdead.addM (g := g) e3 hMg (b2m g rfl) (fun s' hs' => by
      simp only [AS.hup] at hs'
      by_cases he : s' = s
      · subst he; rw [Nat.beq_refl] at hs'; simp [blkOf] at hs'
      · rw [beq_ne he] at hs'; exact he (hR.sep s' s g hs' hbs))
    refine ⟨_, hA, ?_⟩
    have hmono : ∀ g' x, M g' = some x → updM M g cur g' = some x := fun g' x e => by
      unfold updM
      rw [if_neg (by rintro rfl; rw [hMg] at e; cases e)]
      exact e
    exact own_sl hbuf' hmono (M' := updM M g cur) (ρ' := ρ) (fun v g' t fr arr h1 h2 h3 => by
      rw [b1] at h1
      injection h1 with h1
      subst h1
      injection h2 with h2
      subst h2
      rw [e3] at h3
      injection h3 with h3
      injection h3 with h3
      subst h3
      simp [updM]) hto
end
section
variable {P : Program} {X : Ctx} {n : Nat} {ops : Array Oper} {os : List Oper} {acc : List Rule} {σ : AS} {K : List Rule → AS → Prop} {gt : List (Nat × AV)} {ty : TypeId} {ps : String} {af : Array Edge} {g : Option (Nat × Bool)}
/-- A call that is handed a buffer of the frame's own, to read it, and gives back a new one; the first one is not written any more. -/
theorem x_call_ownF {f : FuncId} {tys : Array TypeId} {x : Operand} {s k e0 sz0 d k0 e sz : Nat} {q0 : Cont} {L0 L : List AV} (hc : ACallsW P X.G f [.sl sz0 L0] e sz L) (hx : ev σ x = .own s k) (hHs : σ.H s = ⟨k, .buf e0 sz0 L0⟩) (hds : Nat.beq d s = false) (hH0 : σ.H d = ⟨k0, q0⟩)
    (h : Exec P X n ops os (mkG gt σ [x] [s, d] (some d) (.own d (k0 + 1)) [(s, ⟨k, .dead⟩), (d, ⟨k0 + 1, .buf e sz L⟩)] :: acc) (((σ.hup s ⟨k, .dead⟩).hup d ⟨k0 + 1, .buf e sz L⟩).put (some d) (.own d (k0 + 1))) K) :
    Op1 P X n ops gt ⟨some d, .call ⟨.value (.func f), #[x], tys⟩, ty, ps, af, g⟩ os acc σ K := by
  refine ⟨⟨mkR σ [x] [s, d] (some d) (.own d (k0 + 1)) [(s, ⟨k, .dead⟩), (d, ⟨k0 + 1, .buf e sz L⟩)], fun hlt M ρ τ a w hf hR K Q hK => ?_, mkR_fires _ _ _ _ _ _, h⟩⟩
  have hH := (mkR_H hf (s := d) (by simp)).trans hH0
  have hHS := (mkR_H hf (s := s) (by simp)).trans hHs
  have h1 := hR.ev x
  rw [mkR_ev hf (by simp), hx] at h1
  obtain ⟨M1, hRd, hrep⟩ := hR.frz hHS h1
  have hrep' : Rep M1 (refρ []) (.sl sz0 L0) (a.eval x) := by
    generalize a.eval x = z at hrep
    cases hrep with
    | sl _ _ _ A c us h1 h2 h3 h4 => exact .sl _ _ _ A c us h1 h2 h3 h4
  unfold Oper.wp
  rw [show (#[x] : Array Operand) = [x].toArray from rfl, run_callF hc.1, Oper.upon_enter]
  refine (hc.2 M1 w _ hRd.live hRd.glob rfl (fun j y u hy hu => by
    match j, hy, hu with
    | 0, hy, hu => cases hy; cases hu; exact hrep'
    | j + 1, hy, hu => simp at hy)).mono ?_
  rintro en w' ⟨u, us, M', rfl, p1, p2, p3, hb, hown, r0, q1, q2, q3⟩
  have hR' := hRd.call (ss := []) (gs := []) (cs' := []) (w' := w') (by simp) rfl rfl (by simp) p1 p2 hb.os hb.tape hb.output hb.size (fun g hg _ => hb.block g hg) p3 (by simp)
  have hR' : Rel X n M' ρ (τ.hup s ⟨k, .dead⟩) a w' := hR'
  have hown' := ownsX_new (X := X) hown hR.size
  have hne : ∀ s' g, vblk u = some g → blkOf ρ s' ((τ.hup s ⟨k, .dead⟩).H s') ≠ some g := fun s' g hg e => by
    have hlt := (hRd.blk_lt e).1
    rcases hown.2 with ⟨rfl, _⟩ | ⟨g', cap, cur, rfl, hg', _⟩
    · simp [vblk] at hg
    · simp [vblk] at hg
      omega
  have hA := hR'.ownTo d (L := L) hown' hown'.1 ⟨rfl, rfl, rfl, Nat.le_refl _, fun _ _ _ => rfl⟩ (.inl rfl) r0 hne q1 q2 q3
  have hHd : (τ.hup s ⟨k, .dead⟩).H d = ⟨k0, q0⟩ := by
    show (bif Nat.beq d s then _ else τ.H d) = _
    rw [hds]; exact hH
  rw [hHd] at hA
  refine hK M' _ _ w' (hA.put (.own _ _ _ _ ?_ (vblk_own hown'.1).2) hlt)
  simp [updρ]
end
section
variable {P : Program} {X : Ctx} {n : Nat} {ops : Array Oper} {os : List Oper} {acc : List Rule} {σ : AS} {K : List Rule → AS → Prop} {gt : List (Nat × AV)} {ty : TypeId} {ps : String} {af : Array Edge} {g : Option (Nat × Bool)} {TB : Tabs} (hTB : TabsOk P TB)
include hTB
end
end Go.Proofs.YtamihjgfncjdoaaDoor
