/- Own buffers in the abstract machine: their elements are read and written, calls give them back, an empty one begins as nil; conditions: tables of types that agree with the program's. | Own buffers: a call gives one back, an empty one begins as nil, and one that is no longer written becomes an immutable slice; conditions: none. -/
import Derived.Test.YtnafokinifbfhaaGreatDoorAbsP
set_option linter.unusedVariables false
set_option linter.unusedSimpArgs false
namespace Go.Proofs.YtnafokinifbfhaaGreatDoor
open Go Go.RowKit
theorem sT {α : Type} : ∀ (xs cs : List α) (o n : Nat), (putL cs o xs).take n = putL (cs.take n) o xs
  | [], cs, o, n => rfl
  | x :: xs, cs, o, n => by rw [putL, sT xs, putL, List.take_set]
section
variable {X : Ctx} {n : Nat} {M : Nat → Option (Array Value)} {ρ : Nat → Nat → Option Value} {σ : AS} {a : Act} {w : World}
theorem Rel.storeBuf (h : Rel X n M ρ σ a w) {s k g l c e sz : Nat} {L L' xs : List AV} {vs : List Value} (hH : σ.H s = ⟨k, .buf e sz L⟩) (hg : ρ s k = some (.slice (some ⟨g, 0, none⟩) l c)) (o : Nat) (hl : vs.length = xs.length) (ho : o + xs.length ≤ (L.flatMap AV.cells).length)
    (hx : ∀ (j : Nat) (x : AV) (u : Value), xs[j]? = some x → vs[j]? = some u → Rep M noρ x u ∧ u.oneCell' = true) (hL : L'.length = L.length) (hsz : ∀ x ∈ L', x.cells.length = sz) (hF : L'.flatMap AV.cells = putL (L.flatMap AV.cells) o xs) : Rel X n M ρ (σ.hup s ⟨k, .buf e sz L'⟩) a (w.setCells g o vs) := by
  obtain ⟨u, us, h1, h2, h3, h4, h5, h6⟩ := h.buf s k e sz L hH
  rw [hg] at h1
  injection h1 with h1
  subst h1
  have hb : zI ρ s (σ.H s) = some g := by rw [hH]; simp [zI, hg, vblk]
  have hMg : M g = none := h3 g rfl
  obtain ⟨⟨h2a, h2b⟩, h2c⟩ := h2
  rcases h2b with ⟨h2b, _⟩ | ⟨g', cap, cur, e1, e2, e3, e4, e5, e6, e7⟩
  · cases h2b
  injection e1 with e1 e1' e1''
  injection e1 with e1
  injection e1 with e1
  subst e1; subst e1'; subst e1''
  obtain ⟨cl⟩ := cur
  obtain ⟨i1, i2, i3, i4⟩ := jT (g := g) vs o w
  have hother : ∀ s', s' ≠ s → (σ.hup s ⟨k, .buf e sz L'⟩).H s' = σ.H s' := fun s' hs => by simp [AS.hup, zV hs]
  have hsame : (σ.hup s ⟨k, .buf e sz L'⟩).H s = ⟨k, .buf e sz L'⟩ := by simp [AS.hup, Nat.beq_refl]
  have hblk : ∀ s', zI ρ s' ((σ.hup s ⟨k, .buf e sz L'⟩).H s') = zI ρ s' (σ.H s') := fun s' => by
    by_cases hs : s' = s
    · subst hs; rw [hsame, hH]; simp [zI]
    · rw [hother s' hs]
  have hfar : ∀ s' g', s' ≠ s → zI ρ s' (σ.H s') = some g' → g' ≠ g := fun s' g' hs hg' e => hs (h.sep s' s g' hg' (by rw [hb, e]))
  refine ⟨fun g' arr hg' => ?_, h.sz, h.tm, fun s' k' cs' e => ?_, fun s' k' e' sz' L1 he => ?_, fun s1 s2 g' a1 a2 => h.sep s1 s2 g' (by rw [← hblk]; exact a1) (by rw [← hblk]; exact a2), fun s' k' hk => ?_, h.glob, h.base, h.root, i1.trans h.os, i2.trans h.tape, i3.trans h.output, by rw [i4]; exact h.size, fun g' hgl hn => ?_, h.df, fun s' k' L1 he => by
    obtain ⟨hs, he'⟩ := nP (by simp) he
    exact (h.mp s' k' L1 he').mono (fun _ _ _ e => e) (fun g' hg' => yB (hfar s' g' hs (h.mp_blk he' hg')) vs o w) (fun _ _ e => e)⟩
  · obtain ⟨t', fr, hh⟩ := h.live g' arr hg'
    exact ⟨t', fr, (yB (by rintro rfl; rw [hMg] at hg'; cases hg') vs o w).trans hh⟩
  · by_cases hs : s' = s
    · subst hs
      rw [hsame] at e
      injection e with _ e
      cases e
    · rw [hother s' hs] at e
      refine (h.box s' k' cs' e).mono (fun _ _ e => e) (fun _ _ _ e => e) (fun g' hg' => yB ?_ vs o w) (fun _ _ e => e)
      exact hfar s' g' hs (by rw [e]; simp [zI, hg', vblk])
  · by_cases hs : s' = s
    · subst hs
      rw [hsame] at he
      injection he with ek ec
      injection ec with ec1 ec2 ec3
      subst ek; subst ec1; subst ec2; subst ec3
      refine ⟨_, putL us o vs, hg, ⟨⟨by rw [zm, hL]; exact h2a, .inr ⟨g, c, ⟨putL cl o vs⟩, by rw [hL], e2, ji vs cl o w e3, by rw [hL]; exact e4, e5, by simpa [zm] using e6, ?_⟩⟩, h2c⟩, fun g' hg' => h3 g' hg', by rw [zm, hF, zm]; exact h4, hsz, ?_⟩
      · rw [hL]
        show (putL cl o vs).take _ = _
        rw [sT]
        exact congrArg (fun z => putL z o vs) e7
      · rw [hF]
        exact eL (R := fun x y => Rep M noρ x y ∧ y.oneCell' = true) xs _ vs us o h4 hl h6 hx
    · rw [hother s' hs] at he
      refine (h.buf s' k' e' sz' L1 he).mono (fun _ _ e => e) (fun _ _ _ e => e) (fun u g' hu hg' => yB ?_ vs o w) (fun _ _ _ _ e => e)
      exact hfar s' g' hs (by rw [he]; simp [zI, hu, hg'])
  · by_cases hs : s' = s
    · subst hs
      rw [hsame] at hk
      exact h.fresh s' k' (by rw [hH]; exact hk)
    · rw [hother s' hs] at hk
      exact h.fresh s' k' hk
  · rw [yB (by rintro rfl; exact (h2c _ rfl).elim (fun h1 => absurd hgl (Nat.not_lt.2 h1)) hn) vs o w]
    exact h.frame g' hgl hn
/-- What a buffer with elements looks like. -/
theorem eP.some_ {s k e sz : Nat} {L : List AV} (h : eP X M ρ w s k e sz L) (hp : 0 < L.length) : ∃ (g c : Nat) (cl us : List Value), ρ s k = some (.slice (some ⟨g, 0, none⟩) L.length c) ∧ w.heap[g]? = some (.cells ⟨cl⟩ e (0, 0)) ∧ us.length = (L.flatMap AV.cells).length ∧ us.length ≤ cl.length ∧ L.length ≤ c ∧ c ≤ maxLen ∧
    (∀ (j : Nat) (u : Value), us[j]? = some u → cl[j]? = some u) ∧ (∀ (j : Nat) (x : AV) (y : Value), (L.flatMap AV.cells)[j]? = some x → us[j]? = some y → Rep M noρ x y ∧ y.oneCell' = true) := by
  obtain ⟨u, us, h1, h2, h3, h4, h5, h6⟩ := h
  rcases h2.1.2 with ⟨rfl, h0⟩ | ⟨g, cap, cur, e1, e2, e3, e4, e5, e6, e7⟩
  · omega
  · subst e1
    obtain ⟨cl⟩ := cur
    have e7' : cl.take (L.length * sz) = us := e7
    refine ⟨g, cap, cl, us, h1, e3, h4, ?_, e4, e5, fun j u hj => ?_, h6⟩
    · rw [← e7', List.length_take]; omega
    · rw [← e7', List.getElem?_take] at hj
      split at hj
      · exact hj
      · cases hj
theorem Rep.po_inv {s k off : Nat} {u : Value} (h : Rep M ρ (.po s k off) u) : ∃ (g l c : Nat), ρ s k = some (.slice (some ⟨g, 0, none⟩) l c) ∧ u = .pointer (some ⟨g, off, none⟩) := by
  cases h with
  | po _ _ _ _ g l c h => exact ⟨g, l, c, h, rfl⟩
theorem Rep.own_inv {s k : Nat} {u : Value} (h : Rep M ρ (.own s k) u) : ρ s k = some u := by
  cases h with
  | own _ _ _ u h h1 => exact h
end
section
variable {P : Program} {X : Ctx} {n : Nat} {ops : Array Oper} {os : List Oper} {acc : List Rule} {σ : AS} {K : List Rule → AS → Prop} {gt : List (Nat × AV)} {ty : TypeId} {ps : String} {af : Array Edge} {g : Option (Nat × Bool)} {d : Option Nat}
variable {TB : Tabs} (hTB : TabsOk P TB)
include hTB
theorem zK {t : TypeId} {x i : Operand} {s k k' sz sz' e e' : Nat} {b : Bool} {L : List AV} {kk : IntKind} {z : Int} (hs : lk TB.sle t = some e) (hz : lk TB.ty e = some (b, sz)) (hx : ev σ x = .own s k) (hH : σ.H s = ⟨k', .buf e' sz' L⟩) (hk : k = k') (hi : ev σ i = .v (.int kk z)) (h0 : 0 ≤ z ∧ z < L.length)
    (h : Exec P X n ops os (mkG gt σ [x, i] [s] d (.po s k (z.toNat * sz)) [] :: acc) (σ.put d (.po s k (z.toNat * sz))) K) : Op1 P X n ops gt ⟨d, .indexAddr t x i, ty, ps, af, g⟩ os acc σ K := by
  refine ⟨⟨mkR σ [x, i] [s] d (.po s k (z.toNat * sz)) [], zW rfl fun M ρ τ a w hf hR => ?_, zR _ _ _ _ _ _, h⟩⟩
  subst hk
  have hHs := (zo hf (s := s) (by simp)).trans hH
  have h1 := hR.ev x
  rw [zP hf (by simp), hx] at h1
  have h2 := zT hR (zP hf (by simp)) hi
  obtain ⟨g, c, cl, us, b1, b2, -⟩ := eP.some_ (hR.buf s k e' sz' L hHs) (by omega)
  have e1 := h1.own_inv
  rw [b1] at e1
  injection e1 with e1
  refine ⟨.pointer (some ⟨g, z.toNat * sz, none⟩), w, M, ρ, ?_, hR, .po _ s k _ g _ c b1⟩
  have hc : 0 ≤ z ∧ z < (L.length : Int) := h0
  unfold execOp
  simp only [← e1, h2, Instr.indexAt, asIntOf, Sem.run_bind, Sem.run_pure, run_underlying (yM hTB hs), Result.andThen_ok, Sem.run_ite, if_pos hc, yA hTB hz, Addr.add_mid, Nat.zero_add]
theorem zk {t : TypeId} {x : Operand} {s k k' off m e sz : Nat} {L : List AV} {y : AV} (ht : lk TB.ty t = some (false, m)) (hx : ev σ x = .po s k off) (hH : σ.H s = ⟨k', .buf e sz L⟩) (hk : k = k') (hy : (L.flatMap AV.cells)[off]? = some y) (hp : 0 < L.length)
    (h : Exec P X n ops os (mkG gt σ [x] [s] d y [] :: acc) (σ.put d y) K) : Op1 P X n ops gt ⟨d, .load t x, ty, ps, af, g⟩ os acc σ K := by
  refine ⟨⟨mkR σ [x] [s] d y [], zW rfl fun M ρ τ a w hf hR => ?_, zR _ _ _ _ _ _, h⟩⟩
  subst hk
  have hHs := (zo hf (s := s) (by simp)).trans hH
  have h1 := hR.ev x
  rw [zP hf (by simp), hx] at h1
  obtain ⟨g', l, c', e1, e2⟩ := h1.po_inv
  obtain ⟨g, c, cl, us, b1, b2, b3, b4, -, -, b5, b6⟩ := eP.some_ (hR.buf s k e sz L hHs) hp
  rw [b1] at e1
  injection e1 with e1
  injection e1 with e1
  injection e1 with e1
  injection e1 with e1
  subst e1
  obtain ⟨u, hu⟩ := zB (L := us) (k := off) (by have := zM hy; omega)
  refine ⟨u, w, M, ρ, ?_, hR, (b6 off y u hy hu).1.mono' (fun _ _ e => e) (fun _ _ _ e => by cases e)⟩
  have hc : w.cell? ⟨g, off, none⟩ = some u := by rw [cell_of_row w g off ⟨cl⟩ e (0, 0) b2]; simpa using b5 _ u hu
  unfold execOp
  simp only [e2, Instr.loadAt, Instr.sureAddr, loadVar, Sem.run_bind, Sem.run_pure, Result.andThen_ok, qH hTB ht, Bool.false_eq_true, if_false, run_load, hc]
theorem fP {t : TypeId} {x : Operand} {s k k' e e' sz : Nat} {L : List AV} (hs : lk TB.sle t = some e) (hx : ev σ x = .own s k) (hH : σ.H s = ⟨k', .buf e' sz L⟩) (hk : k = k')
    (h : Exec P X n ops os (mkG gt σ [x] [s] d (.v (.int .i64 L.length)) [] :: acc) (σ.put d (.v (.int .i64 L.length))) K) : Op1 P X n ops gt ⟨d, .call ⟨.builtin .len, #[x], #[t]⟩, ty, ps, af, g⟩ os acc σ K := by
  refine ⟨⟨mkR σ [x] [s] d (.v (.int .i64 L.length)) [], zW rfl fun M ρ τ a w hf hR => ?_, zR _ _ _ _ _ _, h⟩⟩
  subst hk
  have hHs := (zo hf (s := s) (by simp)).trans hH
  have h1 := hR.ev x
  rw [zP hf (by simp), hx] at h1
  obtain ⟨u, us, b1, b2, -⟩ := hR.buf s k e' sz L hHs
  have e1 := h1.own_inv
  rw [b1] at e1
  injection e1 with e1
  refine ⟨goInt L.length, w, M, ρ, ?_, hR, .v _ _⟩
  unfold execOp
  rcases b2.1.2 with ⟨rfl, h0⟩ | ⟨g, cap, cur, rfl, -⟩
  · simp [resolve, invoke, builtin, ← e1, Builtin.len_, run_underlying (yM hTB hs), h0]
  · simp [resolve, invoke, builtin, ← e1, Builtin.len_, run_underlying (yM hTB hs)]
theorem zz {t : TypeId} {x y : Operand} {s k k' off m e sz : Nat} {b : Bool} {L L' xs : List AV} {z : AV} (ht : lk TB.ty t = some (b, m)) (hx : ev σ x = .po s k off) (hH : σ.H s = ⟨k', .buf e sz L⟩) (hk : k = k') (hz : vf (ev σ y) = some z) (hxs : z.cells = xs) (hl : xs.length = m) (hone : zn xs = true) (hpu : js xs = true)
    (hm : off + m ≤ (L.flatMap AV.cells).length) (hL : L'.length = L.length) (hsz : ∀ x ∈ L', x.cells.length = sz) (hF : L'.flatMap AV.cells = putL (L.flatMap AV.cells) off xs)
    (h : Exec P X n ops os (mkG gt σ [x, y] [s] none (.v undef) [(s, ⟨k', .buf e sz L'⟩)] :: acc) (σ.hup s ⟨k', .buf e sz L'⟩) K) : Op1 P X n ops gt ⟨none, .store t x y, ty, ps, af, g⟩ os acc σ K := by
  have hz' := qN hz
  subst hz'
  refine ⟨⟨mkR σ [x, y] [s] none (.v undef) [(s, ⟨k', .buf e sz L'⟩)], qO rfl rfl fun M ρ τ a w hf hR => ?_, zR _ _ _ _ _ _, h⟩⟩
  subst hk
  have hHs := (zo hf (s := s) (by simp)).trans hH
  have h1 := hR.ev x
  rw [zP hf (by simp), hx] at h1
  obtain ⟨g, l, c, e1, e2⟩ := h1.po_inv
  have h2 := hR.ev y
  rw [zP hf (by simp)] at h2
  obtain ⟨c1, c2, c3⟩ := yx h2 (by rw [hxs]; exact hone)
  rw [hxs] at c1 c2
  obtain ⟨dd, u1, u2, u3⟩ := jX hTB ht
  obtain ⟨u, us, q1, q2, q3, q4, -⟩ := hR.buf s k e sz L hHs
  rw [e1] at q1
  injection q1 with q1
  subst q1
  rcases q2.1.2 with ⟨h0, _⟩ | ⟨g', cap, cur, f1, f2, f3, f4, f5, f6, f7⟩
  · cases h0
  injection f1 with f1
  injection f1 with f1
  injection f1 with f1
  subst f1
  obtain ⟨cl⟩ := cur
  have f7' : cl.take (L.length * sz) = us := f7
  have hcl : us.length ≤ cl.length := by rw [← f7', List.length_take]; omega
  refine ⟨_, M, ρ, ?_, hR.storeBuf hHs e1 off c1 (by rw [hl]; exact hm) (fun j x u hj hu => ⟨mB (c2 j x u hj hu) (kB hpu x (List.mem_of_getElem? hj)), c3 u (List.mem_of_getElem? hu)⟩) hL hsz hF⟩
  have := dD (P := P) (w := w) (b := g) (o := off) (ty := t) (v := a.eval y) (lN f3 (by omega)) (by rw [c1, hl]; exact u3) c3
  unfold execOp
  simp only [e2, Sem.run_bind, this, Result.andThen_ok]
  rfl
end
end Go.Proofs.YtnafokinifbfhaaGreatDoor
namespace Go.Proofs.YtnafokinifbfhaaGreatDoor
open Go Go.RowKit
def CallPostO (M : Nat → Option (Array Value)) (w : World) (e sz : Nat) (L : List AV) (en : Ending) (w' : World) : Prop :=
  ∃ u us, en = .returned u ∧ Below w.heap.size w w' ∧ w'.ownsRow w.heap.size e sz u L.length us ∧ us.length = (L.flatMap AV.cells).length ∧ (∀ x ∈ L, x.cells.length = sz) ∧ ∀ (j : Nat) (x : AV) (y : Value), (L.flatMap AV.cells)[j]? = some x → us[j]? = some y → Rep M noρ x y ∧ y.oneCell' = true
/-- A call that gives back a new slice of its own. -/
def tI (P : Program) (f : FuncId) (args : List AV) (e sz : Nat) (L : List AV) : Prop :=
  qK P f ∧ ∀ M w (vs : List Value), aM M w → vs.length = args.length → (∀ (j : Nat) (x : AV) (u : Value), args[j]? = some x → vs[j]? = some u → Rep M (refρ []) x u) → Calls P f ⟨vs⟩ w (CallPostO M w e sz L)
theorem owns_base {w : World} {b b' e sz n : Nat} {u : Value} {us : List Value} (h : w.ownsRow b e sz u n us) (hb : b' ≤ b) : w.ownsRow b' e sz u n us := by
  refine ⟨h.1, ?_⟩
  rcases h.2 with h2 | ⟨g, cap, cur, e1, e2, rest⟩
  · exact .inl h2
  · exact .inr ⟨g, cap, cur, e1, Nat.le_trans hb e2, rest⟩
theorem nY.up {X : Ctx} {w : World} {e sz n : Nat} {u : Value} {us : List Value} (h : nY X w e sz u n us) (hg : X.gs = []) : w.ownsRow X.w0.heap.size e sz u n us := by
  refine ⟨h.1.1, ?_⟩
  rcases h.1.2 with h2 | ⟨g, cap, cur, e1, e2, rest⟩
  · exact .inl h2
  · refine .inr ⟨g, cap, cur, e1, ?_, rest⟩
    rcases h.2 g (by rw [e1]; rfl) with h3 | h3
    · exact h3
    · rw [hg] at h3; cases h3
theorem pG (w : World) (b e sz : Nat) : w.ownsRow b e sz (.slice none 0 0) 0 [] := ⟨by simp, .inl ⟨rfl, rfl⟩⟩
section
variable {P : Program} {X : Ctx} {n : Nat} {ops : Array Oper} {os : List Oper} {acc : List Rule} {σ : AS} {K : List Rule → AS → Prop} {gt : List (Nat × AV)} {ty : TypeId} {ps : String} {af : Array Edge} {g : Option (Nat × Bool)} {Q : Exit → AS → Prop} {c : Code}
theorem oS {f : FuncId} {tys : Array TypeId} {xs : List Operand} {args : List AV} {d k0 e sz : Nat} {q0 : Cont} {L : List AV} (hc : tI P f args e sz L) (hargs : RenL noB (πs []) args (xs.map (ev σ))) (hH0 : σ.H d = ⟨k0, q0⟩)
    (h : Exec P X n ops os (mkG gt σ xs [d] (some d) (.own d (k0 + 1)) [(d, ⟨k0 + 1, .buf e sz L⟩)] :: acc) ((σ.hup d ⟨k0 + 1, .buf e sz L⟩).put (some d) (.own d (k0 + 1))) K) :
    Op1 P X n ops gt ⟨some d, .call ⟨.value (.func f), xs.toArray, tys⟩, ty, ps, af, g⟩ os acc σ K := by
  obtain rfl : (σ.H d).k = k0 := by rw [hH0]
  refine ⟨⟨mkR σ xs [d] (some d) (.own d ((σ.H d).k + 1)) [(d, ⟨(σ.H d).k + 1, .buf e sz L⟩)], fun hlt M ρ τ a w hf hR K Q hK => ?_, zR _ _ _ _ _ _, h⟩⟩
  have hH := zo hf (s := d) (by simp)
  obtain ⟨c1, c2, c3, c4⟩ := cZ (ss := []) (refs := []) hR (by simp) trivial
  obtain ⟨a1, a2⟩ := ju hR (fun x hx => zP hf hx) hargs c3
  unfold Oper.wp
  rw [qU hc.1, Oper.upon_enter]
  refine (hc.2 M w _ hR.live a1 a2).mono ?_
  rintro en w' ⟨u, us, rfl, hb, hown, q1, q2, q3⟩
  have hat : u.ownBlock = (Value.slice none 0 0).ownBlock ∨ ∃ g, w.heap.size ≤ g ∧ u.ownBlock = some g := by
    rcases hown.2 with ⟨rfl, _⟩ | ⟨g, cap, cur, rfl, hg, _⟩
    · exact .inl rfl
    · exact .inr ⟨g, hg, rfl⟩
  have hA := hR.appendTo d (L := L) (cG X w e sz) (by rw [List.nil_append]; exact owns_base hown (Nat.zero_le _)) ⟨hb.os, hb.tape, hb.output, hb.size, fun k hk _ => hb.block k hk⟩ hat (by simp [vblk]) (by simp [vblk]) (by simpa using q1) q2 (by simpa using q3)
  rw [hH] at hA
  refine hK M _ _ w' (hA.put (.own _ _ _ _ ?_ (jc hown).2) hlt)
  simp [updρ]
/-- nil as an empty buffer. -/
theorem jm {t s k : Nat} {c0 : Cont} (e sz : Nat) (hT : σ.T t = .v (.slice none 0 0)) (hH : σ.H s = ⟨k, c0⟩) (h : AWp P X n c Q ((σ.hup s ⟨k + 1, .buf e sz []⟩).put (some t) (.own s (k + 1)))) : AWp P X n c Q σ := by
  refine ⟨fun M ρ a w hR => ?_⟩
  obtain rfl : (σ.H s).k = k := by rw [hH]
  have hA := hR.appendTo s (L := []) (w' := w) (news := []) (v' := .slice none 0 0) (cG X w e sz) (pG w 0 e sz) ⟨rfl, rfl, rfl, Nat.le_refl _, fun _ _ _ => rfl⟩ (.inl rfl) (by simp [vblk]) (by simp [vblk]) (by simp) (by simp) (by simp)
  refine h.run M _ a w ⟨hA.live, hA.sz, fun j => ?_, hA.box, hA.buf, hA.sep, hA.fresh, hA.glob, hA.base, hA.root, hA.os, hA.tape, hA.output, hA.size, hA.frame, hA.df, hA.mp⟩
  show Rep M _ (bif Nat.beq j t then .own s ((σ.H s).k + 1) else σ.T j) _
  by_cases he : j = t
  · subst he
    rw [Nat.beq_refl]
    have h1 := hR.tm j
    rw [hT] at h1
    rw [h1.v_inv]
    exact .own _ _ _ _ (by simp [updρ]) rfl
  · rw [zV he]; exact hA.tm j
end
section
variable {X : Ctx} {n : Nat} {M : Nat → Option (Array Value)} {ρ : Nat → Nat → Option Value} {σ : AS} {a : Act} {w : World}
/-- A block of the frame's own that nobody writes any more. -/
theorem Rel.addM (h : Rel X n M ρ σ a w) {g : Nat} {arr : Array Value} {t : TypeId} {fr : Nat × Nat} (hg : w.heap[g]? = some (.cells arr t fr)) (hM : M g = none) (hX : X.w0.heap.size ≤ g ∨ g ∈ X.gs) (hne : ∀ s', zI ρ s' (σ.H s') ≠ some g) : Rel X n (updM M g arr) ρ σ a w := by
  have hm : ∀ g' x, M g' = some x → updM M g arr g' = some x := fun g' x e => by
    unfold updM
    rw [if_neg (by rintro rfl; rw [hM] at e; cases e)]
    exact e
  have hn : ∀ g', g' ≠ g → M g' = none → updM M g arr g' = none := fun g' e1 e2 => by
    unfold updM
    rw [if_neg e1]
    exact e2
  refine ⟨fun g' x e => ?_, h.sz, fun i => (h.tm i).mono' hm (fun _ _ _ e => e), fun s k cs e => ?_, fun s k e sz L he => ?_, h.sep, h.fresh, fun g' vs e => hm _ _ (h.glob g' vs e), fun g' hlt hgn => ?_, h.root, h.os, h.tape, h.output, h.size, h.frame, h.df, fun s k o e => (h.mp s k o e).mono (fun _ _ _ e => e) (fun _ _ => rfl) (fun g' hg' e2 => hn g' (fun h1 => hne s (by rw [← h1]; exact h.mp_blk e hg')) e2) hm⟩
  · unfold updM at e
    split at e
    · rename_i h1; injection e with e; subst e; subst h1; exact ⟨t, fr, hg⟩
    · exact h.live g' x e
  · exact (h.box s k cs e).mono hm (fun _ _ _ e => e) (fun _ _ => rfl) (fun g' hg' e2 => hn g' (fun h1 => hne s (by rw [e]; simp [zI, hg', vblk, h1])) e2)
  · exact (h.buf s k e sz L he).mono hm (fun _ _ _ e => e) (fun _ _ _ _ => rfl) (fun u g' hu hg' e2 => hn g' (fun h1 => hne s (by rw [he, ← h1]; simp [zI, hu, hg'])) e2)
  · unfold updM
    rw [if_neg (by rintro rfl; exact hX.elim (fun h1 => absurd hlt (Nat.not_lt.2 h1)) hgn)]
    exact h.base g' hlt hgn
end
section
variable {P : Program} {X : Ctx} {n : Nat} {σ : AS} {Q : Exit → AS → Prop} {c : Code}
theorem gV {t s k e sz : Nat} {L : List AV} (hT : σ.T t = .own s k) (hH : σ.H s = ⟨k, .buf e sz L⟩) (h : AWp P X n c Q ((σ.hup s ⟨k, .dead⟩).put (some t) (.sl sz L))) : AWp P X n c Q σ := by
  refine ⟨fun M ρ a w hR => ?_⟩
  have hdead : Rel X n M ρ (σ.hup s ⟨k, .dead⟩) a w := hR.weak ⟨fun _ => .inl rfl, fun s' => by
    simp only [AS.hup]
    by_cases hs' : s' = s
    · subst hs'; rw [Nat.beq_refl]; exact ⟨by rw [hH]; rfl, .inr rfl⟩
    · rw [zV hs']; exact ⟨rfl, .inl rfl⟩⟩
  have hbuf := hR.buf s k e sz L hH
  have hto := hR.tm t
  rw [hT] at hto
  have fin : ∀ M', Rel X n M' ρ (σ.hup s ⟨k, .dead⟩) a w → Rep M' ρ (.sl sz L) (a.tmps.getD t undef) → ∃ M' ρ', Rel X n M' ρ' ((σ.hup s ⟨k, .dead⟩).put (some t) (.sl sz L)) a w := fun M' hA hr =>
    ⟨M', ρ, hA.live, hA.sz, fun j => by
      show Rep M' ρ (bif Nat.beq j t then .sl sz L else σ.T j) _
      by_cases he : j = t
      · subst he; rw [Nat.beq_refl]; exact hr
      · rw [zV he]; exact hA.tm j, hA.box, hA.buf, hA.sep, hA.fresh, hA.glob, hA.base, hA.root, hA.os, hA.tape, hA.output, hA.size, hA.frame, hA.df, hA.mp⟩
  suffices hs : ∃ M' ρ', Rel X n M' ρ' ((σ.hup s ⟨k, .dead⟩).put (some t) (.sl sz L)) a w by
    obtain ⟨M', ρ', hs⟩ := hs
    exact h.run M' ρ' a w hs
  have hbuf' := hbuf
  obtain ⟨u, us, b1, b2, b3, b4, b5, b6⟩ := hbuf
  have hu := hto.own_inv
  rw [b1] at hu
  injection hu with hu
  obtain ⟨b2, b2m⟩ := b2
  rcases b2.2 with ⟨rfl, h0⟩ | ⟨g, cap, cur, rfl, e2, e3, -⟩
  · refine fin M hdead ?_
    rw [← hu]
    obtain rfl : L = [] := List.eq_nil_of_length_eq_zero h0
    exact .sl _ sz [] none 0 (fun _ _ => undef) (by simp) (by simp) (by simp) (by simp)
  · have hMg := b3 g rfl
    have hbs : zI ρ s (σ.H s) = some g := by rw [hH]; simp [zI, b1, vblk]
    have hA := hdead.addM (g := g) e3 hMg (b2m g rfl) (fun s' hs' => by
      simp only [AS.hup] at hs'
      by_cases he : s' = s
      · subst he; rw [Nat.beq_refl] at hs'; simp [zI] at hs'
      · rw [zV he] at hs'; exact he (hR.sep s' s g hs' hbs))
    refine fin _ hA ?_
    have hmono : ∀ g' x, M g' = some x → updM M g cur g' = some x := fun g' x e => by
      unfold updM
      rw [if_neg (by rintro rfl; rw [hMg] at e; cases e)]
      exact e
    have := own_sl hbuf' hmono (M' := updM M g cur) (ρ' := ρ) (fun v g' t fr arr h1 h2 h3 => by
      rw [b1] at h1
      injection h1 with h1
      subst h1
      injection h2 with h2
      subst h2
      rw [e3] at h3
      injection h3 with h3
      injection h3 with h3
      subst h3
      simp [updM]) hto
    exact this
end
/-- Ends with two results. -/
theorem jH {TB : Tabs} {σ : AS} {fn : Func} {r : AV} {e : Exit} {t1 t2 : Nat} {y z : AV} (he : e = .normal ∨ e = .ret) (hfn : fn.results = #[.tmp t1, .tmp t2]) (h1 : vf (σ.T t1) = some y) (h2 : vf (σ.T t2) = some z) (hr : Ren (bufs σ) (yg 0 []) r (.tu [y, z])) : RetQ TB fn 0 r [] e σ := by
  refine ret0 he (xs := [σ.T t1, σ.T t2]) ?_ (by rw [qN h1, qN h2]; exact hr)
  rw [hfn]
  exact ⟨.tmp t1, .tmp t2, trivial⟩
theorem qs {TB : Tabs} {σ : AS} {fn : Func} {r : AV} {e : Exit} {t1 : Nat} {y : AV} (he : e = .normal ∨ e = .ret) (hfn : fn.results = #[.tmp t1]) (h1 : vf (σ.T t1) = some y) (hr : Ren (bufs σ) (yg 0 []) r y) : RetQ TB fn 0 r [] e σ := by
  refine ret0 he (xs := [σ.T t1]) ?_ (by rw [qN h1]; exact hr)
  rw [hfn]
  exact ⟨.tmp t1, trivial⟩
end Go.Proofs.YtnafokinifbfhaaGreatDoor
