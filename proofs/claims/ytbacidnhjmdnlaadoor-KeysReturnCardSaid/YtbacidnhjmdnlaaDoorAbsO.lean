/- More operations of the abstract machine: slice expressions, append, calls of closures; conditions: tables of types that agree with the program's. -/
import Derived.Test.YtbacidnhjmdnlaaDoorAbsN
set_option linter.unusedVariables false
set_option linter.unusedSimpArgs false
namespace Go.Proofs.YtbacidnhjmdnlaaDoor
open Go Go.RowKit
theorem renl_self {B : Nat → Nat → Nat → List AV → Prop} {π : Nat → Option (Nat × Nat)} : ∀ {cs : List AV}, pureL cs = true → RenL B π cs cs
  | [], _ => trivial
  | x :: cs, h => by
    unfold pureL at h
    cases hx : pure1 x
    · rw [hx] at h; cases h
    · rw [hx] at h
      refine ⟨?_, renl_self h⟩
      cases x <;> first | exact .v _ | exact .sl _ _ | exact .ep _ | cases hx
theorem renbl_self {π : Nat → Option (Nat × Nat)} : ∀ {cs : List AV}, pureL cs = true → RenBL π cs cs
  | [], _ => trivial
  | x :: cs, h => by
    unfold pureL at h
    cases hx : pure1 x
    · rw [hx] at h; cases h
    · rw [hx] at h
      refine ⟨?_, renbl_self h⟩
      cases x <;> first | exact .v _ | exact .sl _ _ | exact .ep _ | cases hx
theorem back1 {π : Nat → Option (Nat × Nat)} {c : List AV} (h : pureL c = true) : RefsBack π [c] [c] := ⟨renbl_self h, trivial⟩
theorem in1 {σ : AS} {π : Nat → Option (Nat × Nat)} {s k : Nat} {c : List AV} (hH : σ.H s = ⟨k, .box c⟩) (h : pureL c = true) : RefsIn σ π [(s, k)] [c] := ⟨⟨c, hH, renl_self h⟩, trivial⟩
def loOf (σ : AS) : Option Operand → Option Int
  | none => some 0
  | some o => match ev σ o with
    | .v (.int _ z) => some z
    | _ => none
def hiOf (σ : AS) (m : Nat) : Option Operand → Option Int
  | none => some (m : Int)
  | some o => match ev σ o with
    | .v (.int _ z) => some z
    | _ => none
section
variable {P : Program} {X : Ctx} {n : Nat} {ops : Array Oper} {os : List Oper} {acc : List Rule} {σ : AS} {K : List Rule → AS → Prop} {gt : List (Nat × AV)} {d : Option Nat} {ty : TypeId} {ps : String} {af : Array Edge} {g : Option (Nat × Bool)}
theorem loOf_some {o : Operand} {z : Int} (h : loOf σ (some o) = some z) : ∃ k, ev σ o = .v (.int k z) := by
  unfold loOf at h
  split at h
  · cases h; rename_i heq; simp at heq
  · rename_i o' heq
    injection heq with heq
    subst heq
    split at h
    · rename_i k z' he; injection h with h; subst h; exact ⟨k, he⟩
    · cases h
theorem hiOf_some {m : Nat} {o : Operand} {z : Int} (h : hiOf σ m (some o) = some z) : ∃ k, ev σ o = .v (.int k z) := by
  unfold hiOf at h
  split at h
  · cases h; rename_i heq; simp at heq
  · rename_i o' heq
    injection heq with heq
    subst heq
    split at h
    · rename_i k z' he; injection h with h; subst h; exact ⟨k, he⟩
    · cases h
theorem run_sliceAt' {t e : TypeId} {A : Option Addr} {len cap sz : Nat} {lo hi : Option Value} {l h : Nat} (hu : P.underlying t = some (.slice e)) (hz : ∀ w, (sizeOf e).run P w = .ok sz w) (h1 : l ≤ h) (h2 : h ≤ len) (h3 : len ≤ cap)
    (hl : (lo = none ∧ l = 0) ∨ ∃ k, lo = some (.int k (l : Int))) (hh : (hi = none ∧ h = len) ∨ ∃ k, hi = some (.int k (h : Int))) (w : World) :
    (Instr.sliceAt t (.slice A len cap) lo hi none).run P w = .ok (.slice (if cap = l then A else A.map (·.add (l * sz))) (h - l) (cap - l)) w := by
  have hb : (Instr.sliceBounds true len cap lo hi none).run P w = .ok (l, h, cap) w := by
    unfold Instr.sliceBounds
    rcases hl with ⟨rfl, rfl⟩ | ⟨k, rfl⟩ <;> rcases hh with ⟨rfl, rfl⟩ | ⟨k', rfl⟩
    · simp
    · simp [run_sliceBound w k' (h : Int) cap .sliceAcap (by omega) (by omega)]
    · simp [run_sliceBound w k (l : Int) h .sliceB (by omega) (by omega)]
    · simp [run_sliceBound w k' (h : Int) cap .sliceAcap (by omega) (by omega), run_sliceBound w k (l : Int) h .sliceB (by omega) (by omega)]
  unfold Instr.sliceAt Instr.slice
  simp only [Sem.run_bind, run_underlying hu, Result.andThen_ok, hb, hz, Sem.run_pure]
section
variable {TB : Tabs} (hTB : TabsOk P TB)
include hTB
theorem x_slice {t : TypeId} {x : Operand} {lo hi : Option Operand} {sz e : Nat} {b : Bool} {L : List AV} {l h : Int} (hs : lk TB.sle t = some e) (hz : lk TB.ty e = some (b, sz)) (hx : ev σ x = .sl sz L) (hlo : loOf σ lo = some l) (hhi : hiOf σ L.length hi = some h) (hb : 0 ≤ l ∧ l ≤ h ∧ h ≤ L.length)
    (hK : Exec P X n ops os (mkG gt σ (x :: (lo.toList ++ hi.toList)) [] d (.sl sz ((L.take h.toNat).drop l.toNat)) [] :: acc) (σ.put d (.sl sz ((L.take h.toNat).drop l.toNat))) K) : Op1 P X n ops gt ⟨d, .slice t x lo hi none, ty, ps, af, g⟩ os acc σ K :=
  x_pure (fun M ρ τ a w he hR => by
    have h1 := hR.ev x
    rw [he x (by simp), hx] at h1
    obtain ⟨A, c, us, e1, e2, e2', e3, e4⟩ := h1.sl_inv
    obtain ⟨b1, b2, b3⟩ := hb
    have el : (l.toNat : Int) = l := Int.toNat_of_nonneg b1
    have eh : (h.toNat : Int) = h := Int.toNat_of_nonneg (by omega)
    have hl : ((lo.map a.eval) = none ∧ l.toNat = 0) ∨ ∃ k, lo.map a.eval = some (.int k (l.toNat : Int)) := by
      cases lo with
      | none => injection hlo with hlo; subst hlo; exact .inl ⟨rfl, rfl⟩
      | some o =>
        obtain ⟨k, hk⟩ := loOf_some hlo
        exact .inr ⟨k, by rw [Option.map_some, eval_v hR (he o (by simp)) hk, el]⟩
    have hh : ((hi.map a.eval) = none ∧ h.toNat = L.length) ∨ ∃ k, hi.map a.eval = some (.int k (h.toNat : Int)) := by
      cases hi with
      | none => injection hhi with hhi; subst hhi; exact .inl ⟨rfl, by omega⟩
      | some o =>
        obtain ⟨k, hk⟩ := hiOf_some hhi
        exact .inr ⟨k, by rw [Option.map_some, eval_v hR (he o (by simp)) hk, eh]⟩
    have hr := run_sliceAt' (P := P) (A := A) (cap := c) (tab_sle hTB hs) (run_size hTB hz) (show l.toNat ≤ h.toNat by omega) (show h.toNat ≤ L.length by omega) e2 hl hh w
    refine ⟨_, by unfold execOp; simp only [e1, Option.map_none, Sem.run_bind, hr]; rfl, ?_⟩
    have hlen : ((L.take h.toNat).drop l.toNat).length = h.toNat - l.toNat := by rw [List.length_drop, List.length_take, Nat.min_eq_left (by omega)]
    have hat : ∀ (k : Nat) (x : AV), ((L.take h.toNat).drop l.toNat)[k]? = some x → L[l.toNat + k]? = some x := fun k x hk => by
      rw [List.getElem?_drop, List.getElem?_take] at hk
      split at hk
      · exact hk
      · cases hk
    have : Rep M ρ (.sl sz ((L.take h.toNat).drop l.toNat)) (.slice (if c = l.toNat then A else A.map (·.add (l.toNat * sz))) ((L.take h.toNat).drop l.toNat).length (c - l.toNat)) := by
      refine .sl _ sz _ _ _ (fun k j => us (l.toNat + k) j) (by omega) (by omega) (fun k x j y hk hy => e3 _ x j y (hat k x hk) hy) (fun k x hk => ?_)
      obtain ⟨f1, b', o, arr, rfl, f3, f4⟩ := e4 _ x (hat k x hk)
      have hlt := lt_at (hat k x hk)
      refine ⟨f1, b', o + l.toNat * sz, arr, ?_, f3, fun j hj => ?_⟩
      · rw [if_neg (by omega), Option.map_some, Addr.add_mid]
      · rw [← f4 j hj, Nat.add_mul]; congr 1; omega
    rwa [hlen] at this) hK
end
/-- A call of a closure. -/
theorem run_callV {t : Nat} {f : FuncId} {tys : Array TypeId} {xs : List Operand} {a : Act} {w : World} {cap : List Value} (he : Enter P f) (hv : a.eval (.tmp t) = .func (.func f) #[] ⟨cap⟩) :
    (execOp a.eval ⟨d, .call ⟨.value (.tmp t), xs.toArray, tys⟩, ty, ps, af, g⟩).run P w = .ok (.enter f ⟨xs.map a.eval ++ cap⟩) w := by
  unfold execOp
  simp [resolve, hv, Deferred.ofValue, invoke, he _ w]
theorem RenL_app {B : Nat → Nat → Nat → List AV → Prop} {π : Nat → Option (Nat × Nat)} : ∀ {as bs cs : List AV}, RenL B π as (bs ++ cs) → ∃ a1 a2, as = a1 ++ a2 ∧ RenL B π a1 bs ∧ RenL B π a2 cs
  | as, [], cs, h => ⟨[], as, rfl, trivial, h⟩
  | x :: as, y :: bs, cs, h => by
    obtain ⟨a1, a2, rfl, h2, h3⟩ := RenL_app h.2
    exact ⟨x :: a1, a2, rfl, ⟨h.1, h2⟩, h3⟩
  | [], y :: bs, cs, h => h.elim
theorem x_callV {t : Nat} {f : FuncId} {tys : Array TypeId} {xs : List Operand} {cap args : List AV} {refs refs' cs' : List (List AV)} {r y : AV} {ss : List (Nat × Nat)} (hc : ACalls P X.G f args refs r refs') (hf : σ.T t = .fn f cap) (hargs : RenL noB (πs ss) args (xs.map (ev σ) ++ cap))
    (hss : (ss.map (·.1)).Nodup) (hin : RefsIn σ (πs ss) ss refs) (hlen : ss.length = refs'.length) (hback : RefsBack (πs ss) refs' cs') (hr : RenB (πs ss) r y)
    (h : Exec P X n ops os (mkG gt σ (.tmp t :: xs) (ss.map (·.1)) d y (hwOf ss cs') :: acc) ((hups (hwOf ss cs') σ).put d y) K) : Op1 P X n ops gt ⟨d, .call ⟨.value (.tmp t), xs.toArray, tys⟩, ty, ps, af, g⟩ os acc σ K := by
  refine ⟨⟨mkR σ (.tmp t :: xs) (ss.map (fun p : Nat × Nat => p.1)) d y (hwOf ss cs'), fun hlt M ρ τ a w hfi hR K Q hK => ?_, mkR_fires _ _ _ _ _ _, h⟩⟩
  obtain ⟨c1, c2, c3, c4⟩ := call_in hR hss (fires_in hfi (fun p hp => hp) hin)
  obtain ⟨a1, a2, rfl, ha1, ha2⟩ := RenL_app hargs
  obtain ⟨l1, l2⟩ := args_rep hR (fun x hx => mkR_ev hfi (by simp [hx])) ha1 c3
  have hfn := hR.ev (.tmp t)
  rw [mkR_ev hfi (by simp), show ev σ (.tmp t) = _ from hf] at hfn
  obtain ⟨vs, hv1, hv2, hv3⟩ : ∃ vs : List Value, a.eval (.tmp t) = .func (.func f) #[] ⟨vs⟩ ∧ vs.length = cap.length ∧ ∀ (j : Nat) (x : AV) (u : Value), cap[j]? = some x → vs[j]? = some u → Rep M ρ x u := by
    generalize a.eval (.tmp t) = q at hfn
    cases hfn with
    | fn _ _ _ vs h1 h2 => exact ⟨vs, rfl, h1, h2⟩
  unfold Oper.wp
  rw [run_callV hc.1 hv1, Oper.upon_enter]
  refine (hc.2 M w (gsOf ρ ss) _ hR.live hR.glob c1 c2 (by simp [hv2, ha2.spec.1]; simpa using l1) (fun j x u hx hu => ?_)).mono ?_
  · rw [List.getElem?_append] at hx hu
    have hll : a1.length = (xs.map a.eval).length := l1.symm
    split at hx
    · rename_i hj
      rw [if_pos (by omega)] at hu
      exact l2 j x u hx hu
    · rename_i hj
      rw [if_neg (by omega), ← hll] at hu
      obtain ⟨y0, hy0⟩ := some_at (L := cap) (k := j - a1.length) (by rw [← ha2.spec.1]; exact lt_at hx)
      exact Ren.out c3 (fun _ _ e => e) (fun _ _ _ _ _ hb _ => hb.elim) (ha2.spec.2 _ x y0 hx hy0) (hv3 _ y0 u hy0 hu)
  rintro e w' ⟨u, M', gs', rfl, p1, p2, p3, p4, p5, p6, p7, p8, p9, p10, p11, p12⟩
  have hgl : (gsOf ρ ss).length = ss.length := by simp [gsOf]
  have hg0 : gs' = [] := by
    have := p11.len
    simp [hgl] at this
    exact List.eq_nil_of_length_eq_zero (by omega)
  subst hg0
  simp only [List.append_nil] at p11 p12
  obtain ⟨b1, b2⟩ := refsBack_at hback
  have hR' := hR.call (cs' := cs') (w' := w') hss (by omega) hgl c4 p1 p2 p3 p4 p5 p6 p7 p8 (fun i g' c hg' hc' => by
    obtain ⟨c0, hc0⟩ := some_at (L := refs') (k := i) (by have := lt_at hc'; omega)
    obtain ⟨_, t, us, e1, e2, e3⟩ := p11.at_ i g' c0 hg' hc0
    have hb := (b2 i c0 c hc0 hc').spec
    refine ⟨t, us, e1, by omega, fun j x z hx hz => ?_⟩
    obtain ⟨x0, hx0⟩ := some_at (L := c0) (k := j) (by have := lt_at hx; omega)
    exact RenB.back c3 (hb.2 j x0 x hx0 hx) (e3 j x0 z hx0 hz))
  exact hK M' ρ _ w' (hR'.put (RenB.back c3 hr p12) hlt)
end
end Go.Proofs.YtbacidnhjmdnlaaDoor
