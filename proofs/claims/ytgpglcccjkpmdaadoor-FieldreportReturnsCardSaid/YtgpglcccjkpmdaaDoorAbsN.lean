/- A callee that gives back a new map of its own; conditions: none. -/
import Derived.Test.YtgpglcccjkpmdaaDoorAbsU
set_option linter.unusedVariables false
set_option linter.unusedSimpArgs false
namespace Go.Proofs.YtgpglcccjkpmdaaDoor
open Go Go.RowKit
section
variable {X : Ctx} {n : Nat} {M : Nat → Option (Array Value)} {ρ : Nat → Nat → Option Value} {σ : AS} {a : Act} {w : World}
/-- A block that a callee has made. -/
theorem Rel.newObAt (h : Rel X n M ρ σ a w) (s : Nat) {v : Value} {w' : World} {g0 : Nat} {ob : AO} (hb : Below w.heap.size w w') (h0 : w.heap.size ≤ g0) (hv : vblk v = some g0) (hx : ∀ ρ', (∀ s k y, ρ s k = some y → ρ' s k = some y) → ObIn ρ' w' v g0 ob) :
    Rel X n M (updρ ρ s ((σ.H s).k + 1) v) (σ.hup s ⟨(σ.H s).k + 1, .ob ob⟩) a w' := by
  have hm := updρ_mono (u := v) (fresh_next h s)
  have hold : ∀ g, g < w.heap.size → w'.heap[g]? = w.heap[g]? := fun g hg => hb.block g hg
  have hother : ∀ s', s' ≠ s → (σ.hup s ⟨(σ.H s).k + 1, .ob ob⟩).H s' = σ.H s' := fun s' hs => by simp [AS.hup, beq_ne hs]
  have hsame : (σ.hup s ⟨(σ.H s).k + 1, .ob ob⟩).H s = ⟨(σ.H s).k + 1, .ob ob⟩ := by simp [AS.hup, Nat.beq_refl]
  have hblk : ∀ s', s' ≠ s → blkOf (updρ ρ s ((σ.H s).k + 1) v) s' (σ.H s') = blkOf ρ s' (σ.H s') := fun s' hs => by
    unfold blkOf updρ
    cases (σ.H s').c <;> simp [hs]
  have hblks : blkOf (updρ ρ s ((σ.H s).k + 1) v) s ⟨(σ.H s).k + 1, .ob ob⟩ = some g0 := by
    simp [blkOf, updρ, hv]
  refine ⟨fun g arr hg => ?_, h.sz, fun i => (h.tm i).mono' (fun _ _ e => e) hm, fun s' k cs' e => ?_, fun s' k e sz L he => ?_, fun s1 s2 g e1 e2 => ?_, fun s' k hk => ?_, h.glob, h.base, fun i g e => hm _ _ _ (h.root i g e), hb.os.trans h.os, hb.tape.trans h.tape, hb.output.trans h.output, ?_, fun g hg hn => ?_, h.df, fun s' k L e => ?_⟩
  · obtain ⟨t', fr, h1⟩ := h.live g arr hg
    exact ⟨t', fr, (hold g (h.lt hg)).trans h1⟩
  · by_cases hs : s' = s
    · subst hs
      rw [hsame] at e
      injection e with _ e
      cases e
    · rw [hother s' hs] at e
      refine (h.box s' k cs' e).mono (fun _ _ e => e) hm (fun g hg => hold g ?_) (fun _ _ e => e)
      exact (h.blk_lt (s := s') (by rw [e]; simp [blkOf, hg, vblk])).1
  · by_cases hs : s' = s
    · subst hs
      rw [hsame] at he
      injection he with _ he
      cases he
    · rw [hother s' hs] at he
      refine (h.buf s' k e sz L he).mono (fun _ _ e => e) hm (fun u g hu hg => hold g ?_) (fun _ _ _ _ e => e)
      exact (h.blk_lt (s := s') (by rw [he]; simp [blkOf, hu, hg])).1
  · by_cases h1 : s1 = s
    · by_cases h2 : s2 = s
      · rw [h1, h2]
      · exfalso
        subst h1
        rw [hsame, hblks] at e1
        rw [hother s2 h2, hblk s2 h2] at e2
        injection e1 with e1
        have := (h.blk_lt e2).1
        omega
    · by_cases h2 : s2 = s
      · exfalso
        subst h2
        rw [hsame, hblks] at e2
        rw [hother s1 h1, hblk s1 h1] at e1
        injection e2 with e2
        have := (h.blk_lt e1).1
        omega
      · rw [hother s1 h1, hblk s1 h1] at e1
        rw [hother s2 h2, hblk s2 h2] at e2
        exact h.sep s1 s2 g e1 e2
  · by_cases hs : s' = s
    · subst hs
      rw [hsame] at hk
      simp only at hk
      unfold updρ
      rw [if_neg (by omega)]
      exact h.fresh s' k (by omega)
    · rw [hother s' hs] at hk
      unfold updρ
      rw [if_neg (fun e => hs e.1)]
      exact h.fresh s' k hk
  · exact Nat.le_trans h.size hb.size
  · rw [hold g (Nat.lt_of_lt_of_le hg h.size)]
    exact h.frame g hg hn
  · by_cases hs : s' = s
    · subst hs
      rw [hsame] at e
      injection e with e1 e2
      injection e2 with e2
      subst e1; subst e2
      exact ⟨v, g0, by
        cases hq : M g0 with
        | none => rfl
        | some arr => exact absurd (h.lt hq) (by omega), by simp [updρ], hv, Nat.le_trans h.size h0, hx _ hm⟩
    · rw [hother s' hs] at e
      exact (h.mp s' k L e).mono hm (fun g hg => hold g (h.blk_lt (h.mp_blk e hg)).1) (fun _ _ e => e)
end
def CallPostM (w : World) (L : List (Value × Value)) (en : Ending) (w' : World) : Prop :=
  ∃ g, en = .returned (.map (some g)) ∧ Below w.heap.size w w' ∧ w.heap.size ≤ g ∧ ∃ es : Array MapEntry, w'.heap[g]? = some (.map es es.size) ∧ es.toList.map (fun e => (e.key, e.val)) = L ∧ ∀ (i : Nat) (e : MapEntry), es[i]? = some e → e.born = i
/-- A call that gives back a new map. -/
def ACallsM (P : Program) (G : Nat → Option (List Value)) (f : FuncId) (args : List AV) (L : List (Value × Value)) : Prop :=
  Enter P f ∧ ∀ M w (vs : List Value), LiveM M w → (∀ g us, G g = some us → M g = some ⟨us⟩) → vs.length = args.length → (∀ (j : Nat) (x : AV) (u : Value), args[j]? = some x → vs[j]? = some u → Rep M (refρ []) x u) → Calls P f ⟨vs⟩ w (CallPostM w L)
def RetM (TB : Tabs) (fn : Func) (L : List (Value × Value)) (e : Exit) (σ : AS) : Prop := (e = .normal ∨ e = .ret) ∧ ∃ s k, ResL TB σ fn.results.toList [.own s k] ∧ σ.H s = ⟨k, .mp L⟩
section
variable {P : Program} {TB : Tabs} {G : Nat → Option (List Value)} {f : FuncId} {args : List AV} {L : List (Value × Value)}
theorem acallsm_of (hTB : TabsOk P TB) {fn : Func} {c : Code} (he : Enter P f) (hf : P.funcs[f]? = some fn) (hb : fn.body = some c) (n : Nat) (hn : fn.ntmps = n) (hle : args.length ≤ n)
    (h : ∀ X : Ctx, X.G = G → AWp P X n c (RetM TB fn L) (start0 args [])) : ACallsM P G f args L := by
  refine ⟨he, fun M w vs hl hG hv hrep => ?_⟩
  refine calls_of_wp hf hb ?_
  rw [hn]
  have hR := start_rel (n := n) (gs := []) (refs := []) hl hG (by simp) ⟨rfl, by simp⟩ hv hrep hle
  refine wp_mono ((h ⟨w, [], [], G, M⟩ rfl).run M (refρ []) _ w hR) ?_
  rintro e a' w' ⟨M', ρ', σ', hR', hx, s, k, h1, h2⟩
  obtain ⟨u, hu, hru⟩ := res_run hTB hR' h1
  have hu2 : ρ' s k = some u := (show Rep M' ρ' (.own s k) u from hru).own_inv
  obtain ⟨v, g, -, b1, b2, b3, b4, es, b5, b6, b7⟩ := hR'.mp s k (.mp L) h2
  rw [hu2] at b1
  injection b1 with b1
  subst b1
  subst b4
  have hpost : CallPostM w L (.returned (.map (some g))) w' := ⟨g, rfl, ⟨hR'.os, hR'.tape, hR'.output, hR'.size, fun g hg => hR'.frame g hg (by simp)⟩, b3, es, b5, b6, b7⟩
  rcases hx with rfl | rfl
  · exact ⟨hR'.df, _, hu, hpost⟩
  · exact ⟨hR'.df, _, hu, hpost⟩
end
section
variable {P : Program} {X : Ctx} {n : Nat} {ops : Array Oper} {os : List Oper} {acc : List Rule} {σ : AS} {K : List Rule → AS → Prop} {gt : List (Nat × AV)} {ty : TypeId} {ps : String} {af : Array Edge} {g : Option (Nat × Bool)}
theorem x_call_map {f : FuncId} {tys : Array TypeId} {xs : List Operand} {args : List AV} {d k0 : Nat} {q0 : Cont} {L : List (Value × Value)} (hc : ACallsM P X.G f args L) (hargs : RenL noB (πs []) args (xs.map (ev σ))) (hH0 : σ.H d = ⟨k0, q0⟩)
    (h : Exec P X n ops os (mkG gt σ xs [d] (some d) (.own d (k0 + 1)) [(d, ⟨k0 + 1, .mp L⟩)] :: acc) ((σ.hup d ⟨k0 + 1, .mp L⟩).put (some d) (.own d (k0 + 1))) K) :
    Op1 P X n ops gt ⟨some d, .call ⟨.value (.func f), xs.toArray, tys⟩, ty, ps, af, g⟩ os acc σ K := by
  obtain rfl : (σ.H d).k = k0 := by rw [hH0]
  refine ⟨⟨mkR σ xs [d] (some d) (.own d ((σ.H d).k + 1)) [(d, ⟨(σ.H d).k + 1, .mp L⟩)], fun hlt M ρ τ a w hf hR K Q hK => ?_, mkR_fires _ _ _ _ _ _, h⟩⟩
  have hH := mkR_H hf (s := d) (by simp)
  obtain ⟨c1, c2, c3, c4⟩ := call_in (ss := []) (refs := []) hR (by simp) trivial
  obtain ⟨a1, a2⟩ := args_rep hR (fun x hx => mkR_ev hf hx) hargs c3
  unfold Oper.wp
  rw [run_callF hc.1, Oper.upon_enter]
  refine (hc.2 M w _ hR.live hR.glob a1 a2).mono ?_
  rintro en w' ⟨g0, rfl, hb, hg, es, b1, b2, b3⟩
  have hA := hR.newObAt d (v := .map (some g0)) (ob := .mp L) hb hg rfl fun ρ' _ => ⟨rfl, es, b1, b2, b3⟩
  rw [hH] at hA
  refine hK M _ _ w' (hA.put (.own _ _ _ _ ?_ rfl) hlt)
  simp [updρ]
end
/-- A call whose contract is known elsewhere: numbers, strings and truth values go in and come out. -/
theorem acalls_lib {P : Program} {G : Nat → Option (List Value)} {f : FuncId} {vs : List Value} {r : Value} {y : AV} (he : Enter P f) (hy : ∀ M ρ, Rep M ρ y r) (h : ∀ w, (∀ g us, G g = some us → ∃ t fr, w.heap[g]? = some (.cells ⟨us⟩ t fr)) → Calls P f ⟨vs⟩ w (fun e w' => e = .returned r ∧ Below w.heap.size w w')) :
    ACalls P G f (vs.map .v) [] y [] := by
  refine ⟨he, fun M w gs us hl hG hnd hr hv hrep => ?_⟩
  have hgs : gs = [] := List.eq_nil_of_length_eq_zero hr.len
  subst hgs
  have hus : us = vs := by
    apply List.ext_getElem?
    intro j
    rw [List.length_map] at hv
    cases hj : us[j]? with
    | none =>
      rw [List.getElem?_eq_none_iff] at hj
      exact (List.getElem?_eq_none (by omega)).symm
    | some u =>
      obtain ⟨x, hx⟩ := some_at (L := vs) (k := j) (by have := lt_at hj; omega)
      have := hrep j (.v x) u (by rw [List.getElem?_map, hx]; rfl) hj
      rw [hx, this.v_inv]
  subst hus
  refine (h w fun g u e => ?_).mono ?_
  · exact hl g _ (hG g u e)
  · rintro en w' ⟨rfl, hb⟩
    exact ⟨r, M, [], rfl, fun _ _ e => e, fun g arr e => by
      obtain ⟨t, fr, h1⟩ := hl g arr e
      exact ⟨t, fr, (hb.block g (Array.getElem?_eq_some_iff.1 h1).1).trans h1⟩, hb.os, hb.tape, hb.output, hb.size, fun g hg _ => hb.block g hg, fun g _ e => e, by simp, by simp, ⟨rfl, by simp⟩, hy _ _⟩
/-- Ends with three and with four results. -/
theorem ret0_3 {TB : Tabs} {σ : AS} {fn : Func} {r : AV} {e : Exit} {t1 t2 t3 : Nat} {y1 y2 y3 : AV} (he : e = .normal ∨ e = .ret) (hfn : fn.results = #[.tmp t1, .tmp t2, .tmp t3]) (h1 : vf (σ.T t1) = some y1) (h2 : vf (σ.T t2) = some y2) (h3 : vf (σ.T t3) = some y3) (hr : Ren (bufs σ) (frameπ 0 []) r (.tu [y1, y2, y3])) : RetQ TB fn 0 r [] e σ := by
  refine ret0 he (xs := [σ.T t1, σ.T t2, σ.T t3]) ?_ (by rw [vf_eq h1, vf_eq h2, vf_eq h3]; exact hr)
  rw [hfn]
  exact ⟨.tmp t1, .tmp t2, .tmp t3, trivial⟩
theorem ret0_4 {TB : Tabs} {σ : AS} {fn : Func} {r : AV} {e : Exit} {t1 t2 t3 t4 : Nat} {y1 y2 y3 y4 : AV} (he : e = .normal ∨ e = .ret) (hfn : fn.results = #[.tmp t1, .tmp t2, .tmp t3, .tmp t4]) (h1 : vf (σ.T t1) = some y1) (h2 : vf (σ.T t2) = some y2) (h3 : vf (σ.T t3) = some y3) (h4 : vf (σ.T t4) = some y4) (hr : Ren (bufs σ) (frameπ 0 []) r (.tu [y1, y2, y3, y4])) : RetQ TB fn 0 r [] e σ := by
  refine ret0 he (xs := [σ.T t1, σ.T t2, σ.T t3, σ.T t4]) ?_ (by rw [vf_eq h1, vf_eq h2, vf_eq h3, vf_eq h4]; exact hr)
  rw [hfn]
  exact ⟨.tmp t1, .tmp t2, .tmp t3, .tmp t4, trivial⟩
end Go.Proofs.YtgpglcccjkpmdaaDoor
