/- Own buffers in the abstract machine: their elements are read and written, calls give them back, an empty one begins as nil; conditions: tables of types that agree with the program's. | Own buffers: a call gives one back, an empty one begins as nil, and one that is no longer written becomes an immutable slice; conditions: none. -/
import Derived.Test.YtggagmafkdhjcaaGreatDoorAbsP
set_option linter.unusedVariables false
set_option linter.unusedSimpArgs false
namespace Go.Proofs.YtggagmafkdhjcaaGreatDoor
open Go Go.RowKit
section
variable {X : Ctx} {n : Nat} {M : Nat → Option (Array Value)} {ρ : Nat → Nat → Option Value} {σ : AS} {a : Act} {w : World}
theorem Rep.po_inv {s k off : Nat} {u : Value} (h : Rep M ρ (.po s k off) u) : ∃ (g l c : Nat), ρ s k = some (.slice (some ⟨g, 0, none⟩) l c) ∧ u = .pointer (some ⟨g, off, none⟩) := by
  cases h with
  | po _ _ _ _ g l c h => exact ⟨g, l, c, h, rfl⟩
theorem Rep.own_inv {s k : Nat} {u : Value} (h : Rep M ρ (.own s k) u) : ρ s k = some u := by
  cases h with
  | own _ _ _ u h h1 => exact h
end
section
variable {P : Program} {X : Ctx} {n : Nat} {ops : Array Oper} {os : List Oper} {acc : List Rule} {σ : AS} {K : List Rule → AS → Prop} {gt : List (Nat × AV)} {ty : TypeId} {ps : String} {af : Array Edge} {g : Option (Nat × Bool)} {d : Option Nat}
variable {TB : Tabs} (hTB : TabsOk P TB)
include hTB
theorem zP {t : TypeId} {x : Operand} {f s k off off' ft : Nat} {b : Bool} {m : Nat} {fs : List (Nat × Nat)} (hx : ev σ x = .po s k off) (hf : lk TB.fld t = some fs) (hf2 : fs[f]? = some (off', ft)) (hm : lk TB.ty ft = some (b, m + 1))
    (h : Exec P X n ops os (mkG gt σ [x] [] d (.po s k (off + off')) [] :: acc) (σ.put d (.po s k (off + off'))) K) : Op1 P X n ops gt ⟨d, .fieldAddr t x f, ty, ps, af, g⟩ os acc σ K :=
  jT (fun M ρ τ a w he hR => by
    have h1 := hR.ev x
    rw [he x (by simp), hx] at h1
    obtain ⟨g', l, c, e1, e2⟩ := h1.po_inv
    obtain ⟨gs, u1, u2⟩ := dJ hTB hf
    refine ⟨.pointer (some ⟨g', off + off', none⟩), ?_, .po _ s k _ g' l c e1⟩
    rw [← u2] at hf2
    simp only [List.getElem?_map, Option.map_eq_some_iff, Array.getElem?_toList, Prod.mk.injEq] at hf2
    obtain ⟨fd, h3, h4, h5⟩ := hf2
    unfold execOp
    simp only [e2, Instr.fieldAt, Sem.run_bind, run_underlying u1, Result.andThen_ok, h3, Instr.sureAddr, Sem.run_pure, fieldPlace]
    rw [h5, qZ hTB hm]
    simp only [Result.andThen_ok, Nat.succ_ne_zero, if_false, Sem.run_pure, Nat.add_eq_zero_iff, and_false]
    rw [h4, Addr.add_mid]) h
theorem yH {t : TypeId} {x : Operand} {s k k' e e' sz : Nat} {L : List AV} (hs : lk TB.sle t = some e) (hx : ev σ x = .own s k) (hH : σ.H s = ⟨k', .buf e' sz L⟩) (hk : k = k')
    (h : Exec P X n ops os (mkG gt σ [x] [s] d (.v (.int .i64 L.length)) [] :: acc) (σ.put d (.v (.int .i64 L.length))) K) : Op1 P X n ops gt ⟨d, .call ⟨.builtin .len, #[x], #[t]⟩, ty, ps, af, g⟩ os acc σ K := by
  refine ⟨⟨mkR σ [x] [s] d (.v (.int .i64 L.length)) [], jg rfl fun M ρ τ a w hf hR => ?_, jL _ _ _ _ _ _, h⟩⟩
  subst hk
  have hHs := (qE hf (s := s) (by simp)).trans hH
  have h1 := hR.ev x
  rw [jW hf (by simp), hx] at h1
  obtain ⟨u, us, b1, b2, -⟩ := hR.buf s k e' sz L hHs
  have e1 := h1.own_inv
  rw [b1] at e1
  injection e1 with e1
  refine ⟨goInt L.length, w, M, ρ, ?_, hR, .v _ _⟩
  unfold execOp
  rcases b2.1.2 with ⟨rfl, h0⟩ | ⟨g, cap, cur, rfl, -⟩
  · simp [resolve, invoke, builtin, ← e1, Builtin.len_, run_underlying (qL hTB hs), h0]
  · simp [resolve, invoke, builtin, ← e1, Builtin.len_, run_underlying (qL hTB hs)]
end
end Go.Proofs.YtggagmafkdhjcaaGreatDoor
namespace Go.Proofs.YtggagmafkdhjcaaGreatDoor
open Go Go.RowKit
def oN (M : Nat → Option (Array Value)) (w : World) (e sz : Nat) (L : List AV) (en : Ending) (w' : World) : Prop :=
  ∃ u us, en = .returned u ∧ Below w.heap.size w w' ∧ w'.ownsRow w.heap.size e sz u L.length us ∧ us.length = (L.flatMap AV.cells).length ∧ (∀ x ∈ L, x.cells.length = sz) ∧ ∀ (j : Nat) (x : AV) (y : Value), (L.flatMap AV.cells)[j]? = some x → us[j]? = some y → Rep M noρ x y ∧ y.oneCell' = true
/-- A call that gives back a new slice of its own. -/
def nF (P : Program) (f : FuncId) (args : List AV) (e sz : Nat) (L : List AV) : Prop :=
  aT P f ∧ ∀ M w (vs : List Value), cJ M w → vs.length = args.length → (∀ (j : Nat) (x : AV) (u : Value), args[j]? = some x → vs[j]? = some u → Rep M (refρ []) x u) → Calls P f ⟨vs⟩ w (oN M w e sz L)
theorem pG {w : World} {b b' e sz n : Nat} {u : Value} {us : List Value} (h : w.ownsRow b e sz u n us) (hb : b' ≤ b) : w.ownsRow b' e sz u n us := by
  refine ⟨h.1, ?_⟩
  rcases h.2 with h2 | ⟨g, cap, cur, e1, e2, rest⟩
  · exact .inl h2
  · exact .inr ⟨g, cap, cur, e1, Nat.le_trans hb e2, rest⟩
theorem dY (w : World) (b e sz : Nat) : w.ownsRow b e sz (.slice none 0 0) 0 [] := ⟨by simp, .inl ⟨rfl, rfl⟩⟩
section
variable {P : Program} {X : Ctx} {n : Nat} {ops : Array Oper} {os : List Oper} {acc : List Rule} {σ : AS} {K : List Rule → AS → Prop} {gt : List (Nat × AV)} {ty : TypeId} {ps : String} {af : Array Edge} {g : Option (Nat × Bool)} {Q : Exit → AS → Prop} {c : Code}
theorem lY {f : FuncId} {tys : Array TypeId} {xs : List Operand} {args : List AV} {d k0 e sz : Nat} {q0 : Cont} {L : List AV} (hc : nF P f args e sz L) (hargs : RenL noB (πs []) args (xs.map (ev σ))) (hH0 : σ.H d = ⟨k0, q0⟩)
    (h : Exec P X n ops os (mkG gt σ xs [d] (some d) (.own d (k0 + 1)) [(d, ⟨k0 + 1, .buf e sz L⟩)] :: acc) ((σ.hup d ⟨k0 + 1, .buf e sz L⟩).put (some d) (.own d (k0 + 1))) K) :
    Op1 P X n ops gt ⟨some d, .call ⟨.value (.func f), xs.toArray, tys⟩, ty, ps, af, g⟩ os acc σ K := by
  obtain rfl : (σ.H d).k = k0 := by rw [hH0]
  refine ⟨⟨mkR σ xs [d] (some d) (.own d ((σ.H d).k + 1)) [(d, ⟨(σ.H d).k + 1, .buf e sz L⟩)], fun hlt M ρ τ a w hf hR K Q hK => ?_, jL _ _ _ _ _ _, h⟩⟩
  have hH := qE hf (s := d) (by simp)
  obtain ⟨c1, c2, c3, c4⟩ := dK (ss := []) (refs := []) hR (by simp) trivial
  obtain ⟨a1, a2⟩ := cK hR (fun x hx => jW hf hx) hargs c3
  unfold Oper.wp
  rw [qp hc.1, Oper.upon_enter]
  refine (hc.2 M w _ hR.live a1 a2).mono ?_
  rintro en w' ⟨u, us, rfl, hb, hown, q1, q2, q3⟩
  have hat : u.ownBlock = (Value.slice none 0 0).ownBlock ∨ ∃ g, w.heap.size ≤ g ∧ u.ownBlock = some g := by
    rcases hown.2 with ⟨rfl, _⟩ | ⟨g, cap, cur, rfl, hg, _⟩
    · exact .inl rfl
    · exact .inr ⟨g, hg, rfl⟩
  have hA := hR.appendTo d (L := L) (bD X w e sz) (by rw [List.nil_append]; exact pG hown (Nat.zero_le _)) ⟨hb.os, hb.tape, hb.output, hb.size, fun k hk _ => hb.block k hk⟩ hat (by simp [vblk]) (by simp [vblk]) (by simpa using q1) q2 (by simpa using q3)
  rw [hH] at hA
  refine hK M _ _ w' (hA.put (.own _ _ _ _ ?_ (jl hown).2) hlt)
  simp [updρ]
end
section
variable {X : Ctx} {n : Nat} {M : Nat → Option (Array Value)} {ρ : Nat → Nat → Option Value} {σ : AS} {a : Act} {w : World}
/-- A block of the frame's own that nobody writes any more. -/
theorem Rel.addM (h : Rel X n M ρ σ a w) {g : Nat} {arr : Array Value} {t : TypeId} {fr : Nat × Nat} (hg : w.heap[g]? = some (.cells arr t fr)) (hM : M g = none) (hX : X.w0.heap.size ≤ g ∨ g ∈ X.gs) (hne : ∀ s', jC ρ s' (σ.H s') ≠ some g) : Rel X n (updM M g arr) ρ σ a w := by
  have hm : ∀ g' x, M g' = some x → updM M g arr g' = some x := fun g' x e => by
    unfold updM
    rw [if_neg (by rintro rfl; rw [hM] at e; cases e)]
    exact e
  have hn : ∀ g', g' ≠ g → M g' = none → updM M g arr g' = none := fun g' e1 e2 => by
    unfold updM
    rw [if_neg e1]
    exact e2
  refine ⟨fun g' x e => ?_, h.sz, fun i => (h.tm i).mono' hm (fun _ _ _ e => e), fun s k cs e => ?_, fun s k e sz L he => ?_, h.sep, h.fresh, fun g' vs e => hm _ _ (h.glob g' vs e), fun g' hlt hgn => ?_, h.root, h.os, h.tape, h.output, h.size, h.frame, h.df, fun s k o e => (h.mp s k o e).mono (fun _ _ _ e => e) (fun _ _ => rfl) (fun g' hg' e2 => hn g' (fun h1 => hne s (by rw [← h1]; exact h.mp_blk e hg')) e2)⟩
  · unfold updM at e
    split at e
    · rename_i h1; injection e with e; subst e; subst h1; exact ⟨t, fr, hg⟩
    · exact h.live g' x e
  · exact (h.box s k cs e).mono hm (fun _ _ _ e => e) (fun _ _ => rfl) (fun g' hg' e2 => hn g' (fun h1 => hne s (by rw [e]; simp [jC, hg', vblk, h1])) e2)
  · exact (h.buf s k e sz L he).mono hm (fun _ _ _ e => e) (fun _ _ _ _ => rfl) (fun u g' hu hg' e2 => hn g' (fun h1 => hne s (by rw [he, ← h1]; simp [jC, hu, hg'])) e2)
  · unfold updM
    rw [if_neg (by rintro rfl; exact hX.elim (fun h1 => absurd hlt (Nat.not_lt.2 h1)) hgn)]
    exact h.base g' hlt hgn
end
section
variable {P : Program} {X : Ctx} {n : Nat} {σ : AS} {Q : Exit → AS → Prop} {c : Code}
end
/-- Ends with two results. -/
theorem jP {TB : Tabs} {σ : AS} {fn : Func} {r : AV} {e : Exit} {t1 t2 : Nat} {y z : AV} (he : e = .normal ∨ e = .ret) (hfn : fn.results = #[.tmp t1, .tmp t2]) (h1 : vf (σ.T t1) = some y) (h2 : vf (σ.T t2) = some z) (hr : Ren (bufs σ) (jU 0 []) r (.tu [y, z])) : RetQ TB fn 0 r [] e σ := by
  refine ret0 he (xs := [σ.T t1, σ.T t2]) ?_ (by rw [jp h1, jp h2]; exact hr)
  rw [hfn]
  exact ⟨.tmp t1, .tmp t2, trivial⟩
theorem jn {TB : Tabs} {σ : AS} {fn : Func} {r : AV} {e : Exit} {p ty t s k m : Nat} {cs : List AV} {z : AV} (he : e = .normal ∨ e = .ret) (hfn : fn.results = #[.cell p ty, .tmp t]) (hT : σ.T p = .ptr s k 0) (hH : σ.H s = ⟨k, .box cs⟩) (ht : lk TB.ty ty = some (true, m)) (hl : cs.length = m) (hT2 : vf (σ.T t) = some z) (hr : Ren (bufs σ) (jU 0 []) r (.tu [.ag cs, z])) : RetQ TB fn 0 r [] e σ := by
  refine ret0 he (xs := [.ag cs, σ.T t]) ?_ (by rw [jp hT2]; exact hr)
  rw [hfn]
  exact ⟨.agg p ty s k m cs hT hH ht hl, .tmp t, trivial⟩
theorem wZ {TB : Tabs} {σ : AS} {fn : Func} {r : AV} {e : Exit} {t1 : Nat} {y : AV} (he : e = .normal ∨ e = .ret) (hfn : fn.results = #[.tmp t1]) (h1 : vf (σ.T t1) = some y) (hr : Ren (bufs σ) (jU 0 []) r y) : RetQ TB fn 0 r [] e σ := by
  refine ret0 he (xs := [σ.T t1]) ?_ (by rw [jp h1]; exact hr)
  rw [hfn]
  exact ⟨.tmp t1, trivial⟩
end Go.Proofs.YtggagmafkdhjcaaGreatDoor
