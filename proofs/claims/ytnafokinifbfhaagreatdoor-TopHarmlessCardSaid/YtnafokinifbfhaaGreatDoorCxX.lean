/- The executor is sound: results, calls, code by fuel; nothing of the program stands here; conditions: tables that agree with the program's / The executor's tables: tries read as lists, checked against the program; states cut down to what goes on; nothing of the program stands here; conditions: none. -/
import Derived.Test.YtnafokinifbfhaaGreatDoorCxV
import Derived.KernelRfl
set_option linter.unusedVariables false
set_option linter.unusedSimpArgs false
namespace Go.Proofs.YtnafokinifbfhaaGreatDoor.Cx
open Go Go.RowKit
section
variable {P : Program} {n : Nat} {TB : Tabs} {tb : Tb} (hT : TbOk P TB tb)
include hT
theorem resOne_ok {s : CS} {v : ResultVar} {y : CV} {ss : List Nat} {hw : List (Nat × CO)} {nx : Nat} (h : resOne tb s v = .val y ss hw nx) {X : Ctx} {Hf : Nat → CO} {ρ : Rho} {a : Act} {w : World} (hf : ∀ q ∈ ss, Hf q = hg s.H q) (hR : Rel X n () ρ ⟨tg s.T, Hf⟩ a w) :
    ∃ u, (resF a.tmps v).run P w = .ok u w ∧ Rep ρ y u := by
  unfold resOne at h
  split at h
  · rename_i t
    injection h with h
    subst h
    exact ⟨_, rfl, hR.tm t⟩
  · rename_i p tyr
    split at h
    · rename_i q off hp
      have h1 := hR.tm p
      rw [show (⟨tg s.T, Hf⟩ : AS).T p = .ptr q off from hp] at h1
      obtain ⟨g', b', z', e1, e2⟩ := h1.ptr_inv
      unfold resLoad at h
      split at h
      · rename_i b m ht
        have ht := hT.ty _ _ ht
        cases b with
        | true =>
          rw [cond_true] at h
          unfold loadAgg at h
          split at h
          · rename_i cs hH
            cases hm : Nat.beq m 0 with
            | true => rw [hm] at h; cases h
            | false =>
              rw [hm, cond_false] at h
              have hm : 0 < m := by cases m with | zero => cases hm | succ m => omega
              rcases dQ (cs := cs) (o := off) (m := m) (K := fun l => .val (.ag l) [q] [] s.nx) hm with h2 | ⟨hle, h2⟩
              · rw [h2] at h; cases h
              · rw [h2] at h
                injection h with h3 h4
                subst h3; subst h4
                obtain ⟨us, t', b2, b3, b4, b5, b6⟩ := fD hR ((hf q (by simp)).trans hH) e1
                obtain ⟨dd, u1, u2, u3⟩ := jX hT.tabs ht
                have hlen : ((us.drop (b' + off)).take m).length = m := by simp; omega
                have hat : ∀ (j : Nat) (u : Value), ((us.drop (b' + off)).take m)[j]? = some u → us[b' + off + j]? = some u := fun j u hu => by
                  rw [List.getElem?_take] at hu
                  split at hu
                  · rw [List.getElem?_drop] at hu; exact hu
                  · cases hu
                refine ⟨.agg ⟨(us.drop (b' + off)).take m⟩, ?_, .ag _ _ (by simp; omega) (fun j y u a b => ?_)⟩
                · have hr : w.rangeAt g' (b' + off) ((us.drop (b' + off)).take m) := jb b2 fun j u hu => by simpa using hat j u hu
                  have := run_loadVar_mid (P := P) w g' (b' + off) tyr ((us.drop (b' + off)).take m) dd hr u1 u2 (by rw [hlen]; exact u3)
                  simp only [resF, e2, asAddr, Sem.run_bind, Sem.run_pure, Result.andThen_ok, this]
                · have hu := hat j u b
                  rw [List.getElem?_take] at a
                  split at a
                  · rw [List.getElem?_drop] at a
                    obtain ⟨v, v1, v2, _⟩ := b6 _ y a
                    rw [show b' + off + j = b' + (off + j) by omega, v1] at hu
                    injection hu with hu; subst hu; exact v2
                  · cases a
          · cases h
        | false =>
          rw [cond_false] at h
          unfold loadOne at h
          split at h
          · rename_i cs hH
            rw [fM] at h
            split at h
            · rename_i y' hy
              injection h with h3 h4
              subst h3; subst h4
              obtain ⟨us, t', b2, b3, b4, b5, b6⟩ := fD hR ((hf q (by simp)).trans hH) e1
              obtain ⟨u, hu, hu2, _⟩ := b6 off _ hy
              refine ⟨u, ?_, hu2⟩
              have hc : w.cell? ⟨g', b' + off, none⟩ = some u := by rw [cell_of_row w g' (b' + off) ⟨us⟩ t' (0, 0) b2]; simpa using hu
              simp only [resF, e2, asAddr, loadVar, Sem.run_bind, Sem.run_pure, Result.andThen_ok, qH hT.tabs ht, Bool.false_eq_true, if_false, run_load, hc]
            · cases h
          · cases h
      · cases h
    · cases h
theorem resL_ok {s : CS} : ∀ (l : List ResultVar) (R : Nat) (K : List CV → Nat → Option (CV × CS)) (z : CV × CS), resL tb s l R K = some z → ∃ xs R', K xs R' = some z ∧ (∀ q, Bt R q → Bt R' q) ∧
    ∀ (X : Ctx) (Hf : Nat → CO) (ρ : Rho) (a : Act) (w : World), (∀ q, Bt R' q → Hf q = hg s.H q) → Rel X n () ρ ⟨tg s.T, Hf⟩ a w → ∃ us : List Value, (l.mapM (resF a.tmps)).run P w = .ok us w ∧ us.length = xs.length ∧ ∀ (j : Nat) (x : CV) (u : Value), xs[j]? = some x → us[j]? = some u → Rep ρ x u
  | [], R, K, z, h => ⟨[], R, h, fun _ h => h, fun X Hf ρ a w hf hR => ⟨[], by simp, rfl, fun j x u h => (by simp at h)⟩⟩
  | v :: l, R, K, z, h => by
    change (match resOne tb s v with | .val y ss _ _ => orL ss R fun R => resL tb s l R fun l R => K (y :: l) R | _ => none) = some z at h
    split at h
    · rename_i y ss hw nx hv
      obtain ⟨R1, o1, o2⟩ := nN ss R fun R => resL tb s l R fun l R => K (y :: l) R
      rw [o1] at h
      obtain ⟨xs, R', k1, k2, k3⟩ := resL_ok l R1 (fun l R => K (y :: l) R) z h
      refine ⟨y :: xs, R', k1, fun q hq => k2 q ((o2 q).2 (.inl hq)), fun X Hf ρ a w hf hR => ?_⟩
      obtain ⟨u, u1, u2⟩ := resOne_ok (n := n) hT hv (fun q hq => hf q (k2 q ((o2 q).2 (.inr hq)))) hR
      obtain ⟨us, h3, h4, h5⟩ := k3 X Hf ρ a w hf hR
      refine ⟨u :: us, ?_, by simp [h4], fun j y z ha hb => ?_⟩
      · rw [List.mapM_cons, Sem.run_bind, u1, Result.andThen_ok, Sem.run_bind, h3, Result.andThen_ok, Sem.run_pure]
      · cases j with
        | zero => simp at ha hb; subst ha; subst hb; exact u2
        | succ j => exact h5 j y z (by simpa using ha) (by simpa using hb)
    · cases h
omit hT in
theorem results_of {fn : Func} {a : Act} {w : World} {us : List Value} {xs : List CV} {ρ : Rho} (h1 : (fn.results.toList.mapM (resF a.tmps)).run P w = .ok us w) (h2 : us.length = xs.length) (h3 : ∀ (j : Nat) (x : CV) (u : Value), xs[j]? = some x → us[j]? = some u → Rep ρ x u) :
    ∃ u, (results fn a.tmps).run P w = .ok u w ∧ Rep ρ (one1 xs) u := by
  have e : results fn a.tmps = (do let vs ← fn.results.mapM (resF a.tmps); pure (if h : vs.size = 1 then vs[0] else .tuple vs)) := rfl
  rw [e, Array.mapM_eq_mapM_toList]
  simp only [Sem.run_bind, map_eq_pure_bind, Sem.run_pure]
  rw [h1]
  simp only [Result.andThen_ok]
  match xs, us, h2, h3 with
  | [], [], _, _ => exact ⟨_, rfl, .tu _ [] rfl (by simp)⟩
  | [x], [u], _, h3 => exact ⟨u, rfl, h3 0 x u rfl rfl⟩
  | x :: y :: xs, u :: v :: us, h2, h3 => exact ⟨.tuple ⟨u :: v :: us⟩, by simp, .tu _ (u :: v :: us) h2 h3⟩
theorem call_ok {rec : RecF} (hrec : RecOk P rec) : gW P (callC tb rec) := by
  intro f args H nx y c h
  unfold callC at h
  cases hfn : tb.fn f with
  | none => rw [hfn] at h; cases h
  | some fi =>
    rw [hfn] at h
    obtain ⟨f1, f2, f3⟩ := hT.fn _ _ hfn
    change callB tb rec fi args H nx fi.body = some (y, c) at h
    cases hbd : fi.body with
    | none => rw [hbd] at h; cases h
    | some cd =>
      rw [hbd] at h
      unfold callB at h
      simp only at h
      cases hle : Nat.ble args.length fi.ntmps with
      | false => rw [hle] at h; cases h
      | true =>
        rw [hle, cond_true] at h
        have hle := Nat.le_of_ble_eq_true hle
        obtain ⟨T, t1, t2⟩ := oH args 0 .nil fun T => endC (fin tb fi) (rec cd ⟨T, H, nx, 0, 0⟩)
        rw [t1] at h
        have key : ∃ e s1, (e = .normal ∨ e = .ret) ∧ rec cd ⟨T, H, nx, 0, 0⟩ = some (e, s1) ∧ fin tb fi s1 = some (y, c) := by
          unfold endC at h
          split at h
          · rename_i s1 hr; exact ⟨_, s1, .inl rfl, hr, h⟩
          · rename_i s1 hr; exact ⟨_, s1, .inr rfl, hr, h⟩
          · cases h
        obtain ⟨e, s1, he, hr, hfin⟩ := key
        have hok := hrec fi.ntmps cd _ e s1 hr (f3 cd hbd)
        obtain ⟨xs, R', k1, k2, k3⟩ := resL_ok (n := fi.ntmps) hT (s := s1) _ _ _ _ hfin
        injection k1 with k1
        injection k1 with k1 k4
        subst k1
        obtain ⟨m, hrun⟩ := hok.run
        have eW : c.W = s1.W := by rw [← k4]
        have eH : c.H = s1.H := by rw [← k4]
        have eR : c.R = R' := by rw [← k4]
        refine ⟨fun q hq => by rw [eH]; exact hok.cov q (by rw [← eW]; exact hq), f2, fun X H0 hag ρ w vs hR hl hrep => ?_⟩
        refine calls_of_wp f1 hbd ?_
        have hR0 : Rel ⟨X.w0, ρ⟩ fi.ntmps () ρ ⟨tg T, H0⟩ { tmps := (⟨vs⟩ : Array Value) ++ Array.replicate (fi.ntmps - (⟨vs⟩ : Array Value).size) undef, defers := [] } w := by
          refine ⟨hR.ctx rfl fun _ _ e => e, by simp; omega, fun i => ?_, rfl⟩
          show Rep ρ (tg T i) _
          rw [t2]
          by_cases hi : i < args.length
          · obtain ⟨x, hx⟩ := zB (L := args) (k := i) hi
            obtain ⟨u, hu⟩ := zB (L := vs) (k := i) (by omega)
            rw [if_pos ⟨Nat.zero_le _, by omega⟩, Nat.sub_zero, hx]
            have : ((⟨vs⟩ : Array Value) ++ Array.replicate (fi.ntmps - (⟨vs⟩ : Array Value).size) undef).getD i undef = u := by
              rw [Array.getD_eq_getD_getElem?, Array.getElem?_append_left (by simp; omega)]
              simp [hu]
            rw [this]
            exact hrep i x u hx hu
          · rw [if_neg (by omega)]
            have : ((⟨vs⟩ : Array Value) ++ Array.replicate (fi.ntmps - (⟨vs⟩ : Array Value).size) undef).getD i undef = undef := by
              rw [Array.getD_eq_getD_getElem?, Array.getElem?_append_right (by simp; omega)]
              simp [Array.getElem?_replicate]
              split <;> rfl
            rw [this]
            exact .v undef
        refine aV (hrun ⟨X.w0, ρ⟩ H0 (fun q hq => hag q (by
          rw [eR]
          rcases hq with hq | hq
          · exact k2 q hq
          · exact absurd hq (bt_zero q))) _ (fun ρ' a' w' hR' => ?_) ρ _ w hR0)
        obtain ⟨us, r1, r2, r3⟩ := k3 ⟨X.w0, ρ⟩ (ovr s1.W (hg s1.H) H0) ρ' a' w' (fun q hq => by
          by_cases hw : Bt s1.W q
          · exact bA hw
          · rw [jv hw, hok.cov q hw]
            exact hag q (by rw [eR]; exact hq)) hR'
        obtain ⟨u, v1, v2⟩ := results_of r1 r2 r3
        have hpost : a'.defers = [] ∧ ∃ v, (results fi a'.tmps).run P w' = .ok v w' ∧ ∃ u, ∃ ρ2 : Rho, Ending.returned v = .returned u ∧ (∀ s y, ρ s = some y → ρ2 s = some y) ∧ HRel X ρ2 (ovr c.W (hg c.H) H0) w' ∧ Rep ρ2 (one1 xs) u :=
          ⟨hR'.df, u, v1, u, ρ', rfl, hR'.ext, by rw [eW, eH]; exact hR'.toHRel.ctx rfl (fun s y e => hR'.ext s y (hR.ext s y e)), v2⟩
        rcases he with rfl | rfl
        · exact hpost
        · exact hpost
/-- THE EXECUTOR IS SOUND. -/
theorem tQ : ∀ f, RecOk P (exec tb f)
  | 0 => fun n c s e s' h => by cases h
  | f + 1 => by
    have ih := tQ f
    intro n c s e s' h hd
    change stepC c tb (exec tb f) s = some (e, s') at h
    cases c with
    | skip =>
      injection h with h
      injection h with h1 h2
      subst h1; subst h2
      exact eG fun Q a w hq => wp_skip hq
    | region id ops draw =>
      cases draw with
      | false =>
        change nrmO (runOps tb (callC tb (exec tb f)) ops ops.toList s) = some (e, s') at h
        cases hr : runOps tb (callC tb (exec tb f)) ops ops.toList s with
        | none => rw [hr] at h; cases h
        | some s1 =>
          rw [hr] at h
          injection h with h
          injection h with h1 h2
          subst h1; subst h2
          exact region_ok hT (call_ok hT ih) hd hr
      | true =>
        change drawO ops (infoOps tb (callC tb (exec tb f)) ops ops.toList s) = some (e, s') at h
        cases hr : infoOps tb (callC tb (exec tb f)) ops ops.toList s with
        | none => rw [hr] at h; cases h
        | some p =>
          obtain ⟨s1, inf⟩ := p
          rw [hr] at h
          unfold drawO at h
          simp only [qF] at h
          cases hok : okDraw ops inf with
          | false => rw [hok] at h; cases h
          | true =>
            rw [hok, cond_true] at h
            injection h with h
            injection h with h1 h2
            subst h1; subst h2
            exact draw_ok hT (call_ok hT ih) hd hr hok
    | seq a b =>
      unfold dstC at hd
      rw [Bool.and_eq_true] at hd
      change mR (exec tb f b) (exec tb f a s) = some (e, s') at h
      unfold mR at h
      split at h
      · rename_i s1 hr
        exact (ih n a s _ s1 hr hd.1).seq (ih n b s1 e s' h hd.2)
      · rename_i hne
        refine (ih n a s e s' h hd.1).seq_out ?_
        rintro rfl
        exact hne s' h
    | cond t x y =>
      unfold dstC at hd
      rw [Bool.and_eq_true] at hd
      change condC (exec tb f x) (exec tb f y) s (eT t s.T) = some (e, s') at h
      unfold condC at h
      split at h
      · rename_i ht; exact CodeOk.cond (b := true) ht (ih n x s e s' h hd.1)
      · rename_i ht; exact CodeOk.cond (b := false) ht (ih n y s e s' h hd.2)
      · cases h
    | block id c =>
      change blockC id (exec tb f c s) = some (e, s') at h
      unfold blockC at h
      split at h
      · rename_i j s1 hr
        cases hb : Nat.beq j id with
        | true =>
          rw [hb, cond_true] at h
          injection h with h
          injection h with h1 h2
          subst h1; subst h2
          have hj := Nat.eq_of_beq_eq_true hb
          refine (ih n c s _ s1 hr hd).block fun Q a w hq => ?_
          show if j = id then _ else _
          rw [if_pos hj]; exact hq
        | false =>
          rw [hb, cond_false] at h
          injection h with h
          injection h with h1 h2
          subst h1; subst h2
          refine (ih n c s _ s1 hr hd).block fun Q a w hq => ?_
          show if j = id then _ else _
          rw [if_neg (fun e => by rw [e, Nat.beq_refl] at hb; cases hb)]; exact hq
      · rename_i hne
        refine (ih n c s e s' h hd).block fun Q a w hq => ?_
        cases e with
        | normal => exact hq
        | exit j => exact absurd h (hne j s')
        | ret => exact hq
    | loop c =>
      change mR (exec tb f (.loop c)) (exec tb f c s) = some (e, s') at h
      unfold mR at h
      split at h
      · rename_i s1 hr
        exact (ih n c s _ s1 hr hd).loop (ih n (.loop c) s1 e s' h hd)
      · rename_i hne
        refine (ih n c s e s' h hd).loop_out ?_
        rintro rfl
        exact hne s' h
    | scope c => exact (ih n c s e s' h hd).scope
    | exit id =>
      injection h with h
      injection h with h1 h2
      subst h1; subst h2
      exact eG fun Q a w hq => wp_exit hq
    | ret =>
      injection h with h
      injection h with h1 h2
      subst h1; subst h2
      exact eG fun Q a w hq => wp_ret hq
    | _ => cases h
end
end Go.Proofs.YtnafokinifbfhaaGreatDoor.Cx
namespace Go.Proofs.YtnafokinifbfhaaGreatDoor.Cx
open Go Go.RowKit
def Tr.toL {α : Type} : Tr (Option α) → List (Nat × α)
  | .nil => []
  | .node l x r => (match x with
    | some v => [(0, v)]
    | none => []) ++ (l.toL.map fun p => (2 * p.1 + 1, p.2)) ++ (r.toL.map fun p => (2 * p.1 + 2, p.2))
theorem nK {α : Type} : ∀ (t : Tr (Option α)) (k : Nat) (x : α), t.get none k = some x → (k, x) ∈ t.toL
  | .nil, k, x, h => by cases h
  | .node l v r, k, x, h => by
    rw [jQ] at h
    unfold Tr.toL
    by_cases hk : k = 0
    · subst hk
      have h : v = some x := h
      subst h
      simp
    · rw [zV hk, cond_false] at h
      by_cases ho : k % 2 = 1
      · rw [ho] at h
        have h : l.get none (k / 2) = some x := h
        have := nK l _ _ h
        refine List.mem_append_left _ (List.mem_append_right _ ?_)
        rw [List.mem_map]
        exact ⟨_, this, by simp; omega⟩
      · rw [zV ho, cond_false] at h
        have := nK r _ _ h
        refine List.mem_append_right _ ?_
        rw [List.mem_map]
        exact ⟨_, this, by simp; omega⟩
theorem je {α β : Type} {t : Tr (Option α)} {f : Nat → Option β} {g : α → β} (h : t.toL.map (fun p => f p.1) = t.toL.map (fun p => some (g p.2))) {k : Nat} {x : α} (hk : t.get none k = some x) : f k = some (g x) := by
  have hm := nK t k x hk
  obtain ⟨j, hj⟩ := List.getElem?_of_mem hm
  have := congrArg (fun l : List (Option β) => l[j]?) h
  simp only [List.getElem?_map, hj, Option.map_some, Option.some.injEq] at this
  exact this
theorem iQ {α : Type} {t : Tr (Option α)} {L : List (Nat × α)} {p : Nat → α → Prop} (hL : t.toL = L) (h : ∀ q ∈ L, p q.1 q.2) {k : Nat} {x : α} (hk : t.get none k = some x) : p k x := h (k, x) (hL ▸ nK t k x hk)
def dstF (fi : Func) : Bool := match fi.body with
  | some c => dstC fi.ntmps c
  | none => true
def FnOk (P : Program) (f : Nat) (fi : Func) : Prop := P.funcs[f]? = some fi ∧ qK P f ∧ dstF fi = true
theorem FnOk.all {P : Program} {f : Nat} {fi : Func} (h : FnOk P f fi) : P.funcs[f]? = some fi ∧ qK P f ∧ ∀ c, fi.body = some c → dstC fi.ntmps c = true :=
  ⟨h.1, h.2.1, fun c hc => by
    have := h.2.2
    unfold dstF at this
    rw [hc] at this
    exact this⟩
theorem zero_run {P : Program} {t : TypeId} {z : Value} (h : (P.info? t).bind (·.zero) = some z) (w : World) : (zeroValue t).run P w = .ok z w := by
  obtain ⟨i, h1, h2⟩ := Option.bind_eq_some_iff.1 h
  simp [zeroValue, typeInfo, h1, h2]
/-! a state cut down -/
noncomputable def gcT {α : Type} (dd : α → α) (keep : Nat → Bool) (t : Tr α) : Tr α :=
  @Tr.rec α (fun _ => (Nat → Bool) → Tr α) (fun _ => .nil) (fun _ x _ gl gr keep => .node (gl fun m => keep (2 * m + 1)) (bif keep 0 then x else dd x) (gr fun m => keep (2 * m + 2))) t keep
theorem nH {α : Type} (dd : α → α) (d : α) : ∀ (t : Tr α) (keep : Nat → Bool) (k : Nat), (gcT dd keep t).get d k = t.get d k ∨ (gcT dd keep t).get d k = dd (t.get d k)
  | .nil, keep, k => .inl rfl
  | .node l x r, keep, k => by
    have h : gcT dd keep (.node l x r) = .node (gcT dd (fun m => keep (2 * m + 1)) l) (bif keep 0 then x else dd x) (gcT dd (fun m => keep (2 * m + 2)) r) := rfl
    rw [h, jQ, jQ]
    by_cases hk : k = 0
    · subst hk
      show (bif keep 0 then x else dd x) = x ∨ (bif keep 0 then x else dd x) = dd x
      cases keep 0
      · exact .inr rfl
      · exact .inl rfl
    · rw [zV hk, cond_false, cond_false]
      by_cases ho : k % 2 = 1
      · rw [ho]; exact nH dd d l _ _
      · rw [zV ho, cond_false, cond_false]; exact nH dd d r _ _
def deadO : CO → CO
  | .none => .none
  | _ => .dead
def junkV : CV → CV := fun _ => .junk
noncomputable def gcS (kT kH : Nat → Bool) (s : CS) : CS := ⟨gcT junkV kT s.T, gcT deadO kH s.H, s.nx, 0, 0⟩
noncomputable def gcO (kT kH : Nat → Bool) : Option (Ex × CS) → Option CS
  | some (.normal, s) => some (gcS kT kH s)
  | _ => none
theorem Rel.gc {X : Ctx} {n : Nat} {ρ : Rho} {s : CS} {a : Act} {w : World} {kT kH : Nat → Bool} (h : Rel X n () ρ (stOf s.T s.H) a w) : Rel X n () ρ (stOf (gcS kT kH s).T (gcS kT kH s).H) a w := by
  have hH : ∀ q, hg (gcS kT kH s).H q = hg s.H q ∨ (hg (gcS kT kH s).H q = .dead ∧ hg s.H q ≠ .none) := fun q => by
    rcases nH deadO .none s.H kH q with h | h
    · exact .inl h
    · cases hq : hg s.H q with
      | none =>
        refine .inl ?_
        have hq' : s.H.get .none q = .none := hq
        rw [hq'] at h
        exact h
      | _ =>
        refine .inr ⟨?_, by simp⟩
        have hq' : s.H.get .none q = _ := hq
        rw [hq'] at h
        exact h
  refine ⟨⟨fun q => ?_, fun q1 q2 g b z b' z' l1 l2 r1 r2 => ?_, fun q hq => ?_, h.ext, h.os, h.tape, h.output, h.size, h.frame⟩, h.sz, fun i => ?_, h.df⟩
  · show Desc X ρ w q (hg (gcS kT kH s).H q)
    rcases hH q with e | ⟨e, _⟩
    · rw [e]; exact h.ob q
    · rw [e]; trivial
  · have key : ∀ q, (hg (gcS kT kH s).H q).live = true → (hg s.H q).live = true := fun q hl => by
      rcases hH q with e | ⟨e, _⟩
      · rwa [e] at hl
      · rw [e] at hl; cases hl
    exact h.sep q1 q2 g b z b' z' (key _ l1) (key _ l2) r1 r2
  · have hq : hg (gcS kT kH s).H q = .none := hq
    rcases hH q with e | ⟨e, _⟩
    · exact h.fresh q (e.symm.trans hq)
    · rw [e] at hq; cases hq
  · show Rep ρ (tg (gcS kT kH s).T i) _
    rcases nH junkV (.v undef) s.T kT i with e | e
    · have e : tg (gcS kT kH s).T i = tg s.T i := e
      rw [e]; exact h.tm i
    · have e : tg (gcS kT kH s).T i = .junk := e
      rw [e]; exact .junk _
section
variable {P : Program} {TB : Tabs} {tb : Tb} (hT : TbOk P TB tb)
include hT
end
end Go.Proofs.YtnafokinifbfhaaGreatDoor.Cx
