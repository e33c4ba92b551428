/- Functions of the abstract machine: how a walk of a body gives a call's law, and how a call's law serves in a walk; conditions: none. -/
import Derived.Test.YtbacidnhjmdnlaaDoorAbsH
set_option linter.unusedVariables false
set_option linter.unusedSimpArgs false
namespace Go.Proofs.YtbacidnhjmdnlaaDoor
open Go Go.RowKit
inductive ResV (TB : Tabs) (σ : AS) : ResultVar → AV → Prop where
  | tmp (t : Nat) : ResV TB σ (.tmp t) (σ.T t)
  | agg (p ty s k m : Nat) (cs : List AV) (hT : σ.T p = .ptr s k 0) (hH : σ.H s = ⟨k, .box cs⟩) (ht : lk TB.ty ty = some (true, m)) (hl : cs.length = m) : ResV TB σ (.cell p ty) (.ag cs)
  | one (p ty s k m : Nat) (x : AV) (cs : List AV) (hT : σ.T p = .ptr s k 0) (hH : σ.H s = ⟨k, .box (x :: cs)⟩) (ht : lk TB.ty ty = some (false, m)) : ResV TB σ (.cell p ty) x
def ResL (TB : Tabs) (σ : AS) : List ResultVar → List AV → Prop
  | [], [] => True
  | r :: rs, x :: xs => ResV TB σ r x ∧ ResL TB σ rs xs
  | _, _ => False
def retAV : List AV → AV
  | [x] => x
  | xs => .tu xs
section
variable {P : Program} {TB : Tabs} {X : Ctx} {n : Nat} {M : Nat → Option (Array Value)} {ρ : Nat → Nat → Option Value} {σ : AS} {a : Act} {w : World}
def resF (tmps : Array Value) : ResultVar → Sem Value
  | .tmp t => pure (tmps.getD t undef)
  | .cell b t => do loadVar t (← asAddr (tmps.getD b undef))
theorem resV_run (hTB : TabsOk P TB) (hR : Rel X n M ρ σ a w) {r : ResultVar} {x : AV} (h : ResV TB σ r x) :
    ∃ u, (resF a.tmps r).run P w = .ok u w ∧ Rep M ρ x u := by
  cases h with
  | tmp t => exact ⟨_, rfl, hR.tm t⟩
  | agg p ty s k m cs hT hH ht hl =>
    have h1 := hR.tm p
    rw [hT] at h1
    obtain ⟨g', e1, e2⟩ := h1.ptr_inv
    obtain ⟨g'', t', us, b1, b2, _, _, b5, b6⟩ := hR.box s k cs hH
    rw [e1] at b1
    obtain rfl : g' = g'' := by injection b1 with b1; injection b1 with b1; injection b1 with b1; injection b1
    obtain ⟨dd, u1, u2, u3⟩ := tab_ty hTB ht
    refine ⟨.agg ⟨us⟩, ?_, .ag _ _ us b5 b6⟩
    have hr : w.rangeAt g' 0 us := range_cells b2 fun j u hu => by simpa using hu
    have := run_loadVar_mid (P := P) w g' 0 ty us dd hr u1 u2 (by rw [b5, hl]; exact u3)
    simp only [resF, e2, asAddr, Sem.run_bind, Sem.run_pure, Result.andThen_ok, this]
  | one p ty s k m _ cs hT hH ht =>
    have h1 := hR.tm p
    rw [hT] at h1
    obtain ⟨g', e1, e2⟩ := h1.ptr_inv
    obtain ⟨g'', t', us, b1, b2, _, _, b5, b6⟩ := hR.box s k _ hH
    rw [e1] at b1
    obtain rfl : g' = g'' := by injection b1 with b1; injection b1 with b1; injection b1 with b1; injection b1
    obtain ⟨u, hu⟩ := some_at (L := us) (k := 0) (by simp at b5; omega)
    refine ⟨u, ?_, b6 0 x u rfl hu⟩
    have hc : w.cell? ⟨g', 0, none⟩ = some u := by rw [cell_of_row w g' 0 ⟨us⟩ t' (0, 0) b2]; simpa using hu
    simp only [resF, e2, asAddr, loadVar, Sem.run_bind, Sem.run_pure, Result.andThen_ok, run_agg hTB ht, Bool.false_eq_true, if_false, run_load, hc]
theorem resL_run (hTB : TabsOk P TB) (hR : Rel X n M ρ σ a w) : ∀ {rs : List ResultVar} {xs : List AV}, ResL TB σ rs xs →
    ∃ us : List Value, (rs.mapM (resF a.tmps)).run P w = .ok us w ∧ us.length = xs.length ∧
      ∀ (j : Nat) (x : AV) (u : Value), xs[j]? = some x → us[j]? = some u → Rep M ρ x u
  | [], [], _ => ⟨[], by simp, rfl, by simp⟩
  | r :: rs, x :: xs, h => by
    obtain ⟨u, h1, h2⟩ := resV_run hTB hR h.1
    obtain ⟨us, h3, h4, h5⟩ := resL_run hTB hR h.2
    refine ⟨u :: us, ?_, by simp [h4], fun j y z ha hb => ?_⟩
    · rw [List.mapM_cons, Sem.run_bind, h1, Result.andThen_ok, Sem.run_bind, h3, Result.andThen_ok, Sem.run_pure]
    · cases j with
      | zero => simp at ha hb; subst ha; subst hb; exact h2
      | succ j => exact h5 j y z (by simpa using ha) (by simpa using hb)
  | [], x :: xs, h => h.elim
  | r :: rs, [], h => h.elim
theorem res_run (hTB : TabsOk P TB) (hR : Rel X n M ρ σ a w) {fn : Func} {xs : List AV} (h : ResL TB σ fn.results.toList xs) : ∃ u, (results fn a.tmps).run P w = .ok u w ∧ Rep M ρ (retAV xs) u := by
  obtain ⟨us, h1, h2, h3⟩ := resL_run hTB hR h
  have e : results fn a.tmps = (do let vs ← fn.results.mapM (resF a.tmps); pure (if h : vs.size = 1 then vs[0] else .tuple vs)) := rfl
  rw [e, Array.mapM_eq_mapM_toList]
  simp only [Sem.run_bind, map_eq_pure_bind, Sem.run_pure]
  rw [h1]
  simp only [Result.andThen_ok]
  match xs, us, h2, h3 with
  | [], [], _, _ => exact ⟨_, rfl, .tu _ _ [] rfl (by simp)⟩
  | [x], [u], _, h3 => exact ⟨u, rfl, h3 0 x u rfl rfl⟩
  | x :: y :: xs, u :: v :: us, h2, h3 => exact ⟨.tuple ⟨u :: v :: us⟩, by simp, .tu _ _ (u :: v :: us) h2 h3⟩
def bufs (σ : AS) : Nat → Nat → Nat → List AV → Prop := fun s k sz L => ∃ e, σ.H s = ⟨k, .buf e sz L⟩
def frameπ (m : Nat) (fs : List (Nat × Nat)) : Nat → Option (Nat × Nat) := fun i => if i < m then some (refB + i, 0) else fs[i - m]?
def RefsOut (σ : AS) (π : Nat → Option (Nat × Nat)) : Nat → List (List AV) → Prop
  | _, [] => True
  | i, c :: cs => (∃ s k c', π i = some (s, k) ∧ σ.H s = ⟨k, .box c'⟩ ∧ RenL (bufs σ) π c c') ∧ RefsOut σ π (i + 1) cs
def RetQ (TB : Tabs) (fn : Func) (m : Nat) (r : AV) (refs' : List (List AV)) (e : Exit) (σ : AS) : Prop :=
  (e = .normal ∨ e = .ret) ∧ ∃ xs fs, ResL TB σ fn.results.toList xs ∧ refs'.length = m + fs.length ∧ (fs.map (·.1)).Nodup ∧ (∀ p ∈ fs, p.1 < refB) ∧ Ren (bufs σ) (frameπ m fs) r (retAV xs) ∧ RefsOut σ (frameπ m fs) 0 refs'
theorem refsOut_at {π : Nat → Option (Nat × Nat)} : ∀ {cs : List (List AV)} {i : Nat}, RefsOut σ π i cs → ∀ {j : Nat} {c : List AV}, cs[j]? = some c → ∃ s k c', π (i + j) = some (s, k) ∧ σ.H s = ⟨k, .box c'⟩ ∧ RenL (bufs σ) π c c'
  | c0 :: cs, i, h, 0, c, hc => by simp at hc; subst hc; exact h.1
  | c0 :: cs, i, h, j + 1, c, hc => by
    have := refsOut_at h.2 (j := j) (by simpa using hc)
    rwa [show i + 1 + j = i + (j + 1) by omega] at this
/-- Memory that stays, with what the frame has built laid to it. -/
noncomputable def addBufs (M : Nat → Option (Array Value)) (ρ : Nat → Nat → Option Value) (σ : AS) (w : World) : Nat → Option (Array Value) := fun g =>
  match M g with
  | some arr => some arr
  | none => open Classical in if ∃ s k e sz L u, σ.H s = ⟨k, .buf e sz L⟩ ∧ ρ s k = some u ∧ vblk u = some g then (match w.heap[g]? with | some (.cells arr _ _) => some arr | _ => none) else none
theorem addBufs_mono {g : Nat} {arr : Array Value} (h : M g = some arr) : addBufs M ρ σ w g = some arr := by unfold addBufs; rw [h]
theorem addBufs_none {g : Nat} (h : M g = none) (hn : ∀ s k e sz L u, σ.H s = ⟨k, .buf e sz L⟩ → ρ s k = some u → vblk u ≠ some g) : addBufs M ρ σ w g = none := by
  unfold addBufs
  rw [h]
  simp only
  rw [if_neg]
  rintro ⟨s, k, e, sz, L, u, h1, h2, h3⟩
  exact hn s k e sz L u h1 h2 h3
theorem addBufs_live (hR : Rel X n M ρ σ a w) : LiveM (addBufs M ρ σ w) w := by
  intro g arr h
  unfold addBufs at h
  cases hm : M g with
  | some b => rw [hm] at h; injection h with h; subst h; exact hR.live g b hm
  | none =>
    rw [hm] at h
    simp only at h
    split at h
    · split at h
      · rename_i c t fr hh; injection h with h; subst h; exact ⟨t, fr, hh⟩
      · cases h
    · cases h
theorem buf_at {M' : Nat → Option (Array Value)} {L : List AV} {us : List Value} {sz : Nat} (hsz : ∀ x ∈ L, x.cells.length = sz) : ∀ (k : Nat) (x : AV) (j : Nat) (y : AV), L[k]? = some x → x.cells[j]? = some y → (L.flatMap AV.cells)[k * sz + j]? = some y := by
  induction L with
  | nil => intro k x j y h; simp at h
  | cons z L ih =>
    intro k x j y h hy
    cases k with
    | zero =>
      simp at h
      subst h
      rw [List.flatMap_cons, Nat.zero_mul, Nat.zero_add, List.getElem?_append_left (lt_at hy)]
      exact hy
    | succ k =>
      rw [List.flatMap_cons, List.getElem?_append_right (by rw [hsz z (by simp), Nat.succ_mul]; omega), hsz z (by simp), show (k + 1) * sz + j - sz = k * sz + j by rw [Nat.succ_mul]; omega]
      exact ih (fun x hx => hsz x (by simp [hx])) k x j y (by simpa using h) hy
theorem flat_len' {L : List AV} {sz : Nat} (hsz : ∀ x ∈ L, x.cells.length = sz) : (L.flatMap AV.cells).length = L.length * sz := by
  induction L with
  | nil => simp
  | cons x L ih => rw [List.flatMap_cons, List.length_append, ih (fun x hx => hsz x (by simp [hx])), hsz x (by simp), List.length_cons, Nat.succ_mul]; omega
/-- What the frame has built reads as a list where its block stays. -/
theorem own_sl {M' : Nat → Option (Array Value)} {ρ' : Nat → Nat → Option Value} {s k e sz : Nat} {L : List AV} {u : Value} (hb : BufAt X M ρ w s k e sz L) (hM : ∀ g a, M g = some a → M' g = some a)
    (hM' : ∀ v g t fr arr, ρ s k = some v → vblk v = some g → w.heap[g]? = some (.cells arr t fr) → M' g = some arr) (h : Rep M ρ (.own s k) u) : Rep M' ρ' (.sl sz L) u := by
  obtain ⟨v, us, h1, h2, h3, h4, h5, h6⟩ := hb
  cases h with
  | own _ _ _ u e1 e2 =>
    rw [h1] at e1
    injection e1 with e1
    subst e1
    rcases h2.2 with ⟨rfl, h0⟩ | ⟨g, cap, cur, rfl, hbase, hh, hcap, hmax, hsize, htake⟩
    · have : L = [] := List.eq_nil_of_length_eq_zero h0
      subst this
      exact .sl _ sz [] none 0 (fun _ _ => undef) (by simp) (by simp) (by simp) (by simp)
    · have hM2 := hM' _ g e (0, 0) cur h1 rfl hh
      have hlen := flat_len' h5
      refine .sl _ sz L (some ⟨g, 0, none⟩) cap (fun k j => (us[k * sz + j]?).getD undef) hcap hmax (fun k x j y hx hy => ?_) (fun k x hx => ?_)
      · have hf := buf_at (M' := M') (us := us) h5 k x j y hx hy
        obtain ⟨z, hz⟩ := some_at (L := us) (k := k * sz + j) (by rw [h4]; exact lt_at hf)
        rw [hz]
        exact (h6 _ y z hf hz).1.mono' hM (fun _ _ _ e => e)
      · refine ⟨h5 x (List.mem_of_getElem? hx), g, 0, cur, rfl, hM2, fun j hj => ?_⟩
        have hk := lt_at hx
        have hlt : k * sz + j < L.length * sz := by
          have : (k + 1) * sz ≤ L.length * sz := Nat.mul_le_mul_right _ hk
          rw [Nat.succ_mul] at this
          omega
        have hj' : us[k * sz + j]? = cur[k * sz + j]? := by
          rw [← htake, List.getElem?_take_of_lt hlt]
          simp
        rw [Nat.zero_add, ← hj']
        obtain ⟨z, hz⟩ := some_at (L := us) (k := k * sz + j) (by rw [h4, hlen]; exact hlt)
        rw [hz]; rfl
theorem getElem?_map_app {l l' : List Nat} {i : Nat} : (l ++ l')[i]? = if i < l.length then l[i]? else l'[i - l.length]? := by
  split
  · rename_i h; exact List.getElem?_append_left h
  · rename_i h; exact List.getElem?_append_right (by omega)
theorem retQ_post {G : Nat → Option (List Value)} {w0 : World} {gs : List Nat} {M0 : Nat → Option (Array Value)} {fn : Func} {r : AV} {refs' : List (List AV)} {e : Exit} (hTB : TabsOk P TB) (hgs : gs.Nodup) (hlive : LiveM M0 w0)
    (hR : Rel ⟨w0, gs, G, M0⟩ n M ρ σ a w) (hQ : RetQ TB fn gs.length r refs' e σ) :
    bodyPost P fn (CallPost M0 w0 gs r refs') e a w := by
  obtain ⟨he, xs, fs, h1, h2, h3, h4, h5, h6⟩ := hQ
  obtain ⟨u, hu, hru⟩ := res_run hTB hR h1
  have hout : ∀ i c, refs'[i]? = some c → ∃ s k c', frameπ gs.length fs i = some (s, k) ∧ σ.H s = ⟨k, .box c'⟩ ∧ RenL (bufs σ) (frameπ gs.length fs) c c' := fun i c hc => by
    have := refsOut_at h6 hc
    rwa [Nat.zero_add] at this
  -- the blocks of the boxes handed on
  have hblk : ∀ i s k, frameπ gs.length fs i = some (s, k) → i < refs'.length → ∃ g c', σ.H s = ⟨k, .box c'⟩ ∧ ρ s k = some (.pointer (some ⟨g, 0, none⟩)) ∧ blkOf ρ s (σ.H s) = some g := fun i s k hi hlt => by
    obtain ⟨c, hc⟩ := some_at hlt
    obtain ⟨s', k', c', e1, e2, e3⟩ := hout i c hc
    rw [hi] at e1
    injection e1 with e1
    injection e1 with ea eb
    subst ea; subst eb
    obtain ⟨g, t, us, b1, _⟩ := hR.box _ _ _ e2
    exact ⟨g, c', e2, b1, by rw [e2]; simp [blkOf, b1, vblk]⟩
  let gof : Nat × Nat → Nat := fun p => ((ρ p.1 p.2).bind vblk).getD 0
  let gs' := fs.map gof
  have hgof : ∀ p ∈ fs, blkOf ρ p.1 (σ.H p.1) = some (gof p) ∧ ρ p.1 p.2 = some (.pointer (some ⟨gof p, 0, none⟩)) ∧ ∃ c', σ.H p.1 = ⟨p.2, .box c'⟩ := fun p hp => by
    obtain ⟨i, hi⟩ := List.getElem?_of_mem hp
    have hlt := lt_at hi
    obtain ⟨g, c', e1, e2, e3⟩ := hblk (gs.length + i) p.1 p.2 (by unfold frameπ; rw [if_neg (by omega), show gs.length + i - gs.length = i by omega, hi]) (by omega)
    have : gof p = g := by simp [gof, e2, vblk]
    rw [this]
    exact ⟨e3, e2, c', e1⟩
  have hgsb : ∀ i g, gs[i]? = some g → blkOf ρ (refB + i) (σ.H (refB + i)) = some g ∧ ρ (refB + i) 0 = some (.pointer (some ⟨g, 0, none⟩)) := fun i g hg => by
    have hlt := lt_at hg
    obtain ⟨g', c', e1, e2, e3⟩ := hblk i (refB + i) 0 (by unfold frameπ; rw [if_pos hlt]) (by omega)
    have := hR.root i g hg
    rw [e2] at this
    injection this with this
    injection this with this
    injection this with this
    injection this with this
    subst this
    exact ⟨e3, e2⟩
  have hnew : ∀ g ∈ gs', w0.heap.size ≤ g ∧ g ∉ gs := fun g hg => by
    obtain ⟨p, hp, rfl⟩ := List.mem_map.1 hg
    obtain ⟨e1, e2, c', e3⟩ := hgof p hp
    obtain ⟨g', t, us, b1, b2, b3, b4, _⟩ := hR.box _ _ _ e3
    rw [e2] at b1
    have hgg : gof p = g' := by injection b1 with b1; injection b1 with b1; injection b1 with b1; injection b1
    have hno : gof p ∉ gs := fun hin => by
      obtain ⟨i, hi⟩ := List.getElem?_of_mem hin
      have := hR.sep p.1 (refB + i) (gof p) e1 (hgsb i _ hi).1
      have := h4 p hp
      omega
    refine ⟨?_, hno⟩
    rcases b4 with b4 | b4
    · rw [hgg]; exact b4
    · rw [← hgg] at b4; exact absurd b4 hno
  have hnd : (gs ++ gs').Nodup := by
    rw [List.nodup_append]
    refine ⟨hgs, ?_, fun x hx y hy hxy => (hnew y hy).2 (hxy ▸ hx)⟩
    unfold List.Nodup at h3
    rw [List.pairwise_map] at h3
    unfold List.Nodup
    rw [List.pairwise_map]
    exact h3.imp_of_mem fun {p q} hp hq hpq he => hpq (hR.sep p.1 q.1 (gof p) (hgof p hp).1 (by rw [he]; exact (hgof q hq).1))
  have hπ : ∀ i s k, frameπ gs.length fs i = some (s, k) → refρ (gs ++ gs') (refB + i) 0 = ρ s k := fun i s k hi => by
    unfold frameπ at hi
    split at hi
    · rename_i hlt
      injection hi with hi
      injection hi with ea eb
      subst ea; subst eb
      obtain ⟨g, hg⟩ := some_at hlt
      rw [refρ_at (g := g) (by rw [getElem?_map_app, if_pos hlt]; exact hg), (hgsb i g hg).2]
    · rename_i hlt
      have hm : (s, k) ∈ fs := List.mem_of_getElem? hi
      rw [refρ_at (g := gof (s, k)) (by rw [getElem?_map_app, if_neg hlt]; simp [gs', hi]), (hgof _ hm).2.1]
  have hnb : ∀ g s, blkOf ρ s (σ.H s) = some g → (∃ k c, σ.H s = ⟨k, .box c⟩) → addBufs M ρ σ w g = none := fun g s hg hbx => by
    obtain ⟨k, c, hc⟩ := hbx
    refine addBufs_none (hR.blk_lt hg).2 fun s' k' e' sz L u' e1 e2 e3 => ?_
    have : s = s' := hR.sep s s' g hg (by rw [e1]; simp [blkOf, e2, e3])
    subst this
    rw [hc] at e1
    injection e1 with _ e1
    cases e1
  have hRen : ∀ {x y : AV} {z : Value}, Ren (bufs σ) (frameπ gs.length fs) x y → Rep M ρ y z → Rep (addBufs M ρ σ w) (refρ (gs ++ gs')) x z := fun hh hz =>
    Ren.out hπ (fun g a h => addBufs_mono h) (fun s k sz L u ⟨e, he⟩ ho => own_sl (hR.buf s k e sz L he) (fun g a h => addBufs_mono h) (fun v g t fr arr h1 h2 h3 => by
      unfold addBufs
      obtain ⟨v', us', b1, _, b3, _⟩ := hR.buf s k e sz L he
      rw [h1] at b1
      injection b1 with b1
      subst b1
      rw [b3 g h2]
      simp only
      rw [if_pos ⟨s, k, e, sz, L, _, he, h1, h2⟩, h3]) ho) hh hz
  have hpost : CallPost M0 w0 gs r refs' (.returned u) w := by
    have hM0 : ∀ g a, M0 g = some a → M g = some a := fun g a h => by
      obtain ⟨t, fr, hh⟩ := hlive g a h
      rw [hR.base g (Array.getElem?_eq_some_iff.1 hh).1]; exact h
    refine ⟨u, addBufs M ρ σ w, gs', rfl, fun g a h => addBufs_mono (hM0 g a h), addBufs_live hR, hR.os, hR.tape, hR.output, hR.size, hR.frame, fun g hg hn => ?_, hnd, fun g hg => (hnew g hg).1, ⟨by simp [gs', h2], fun i g c hg hc => ?_⟩, hRen h5 hru⟩
    · refine addBufs_none (by rw [hR.base g hg]; exact hn) fun s k e' sz L v e1 e2 e3 => ?_
      obtain ⟨v', us', b1, b2, _⟩ := hR.buf s k e' sz L e1
      rw [e2] at b1
      injection b1 with b1
      subst b1
      rcases b2.2 with ⟨rfl, _⟩ | ⟨g', cap, cur, rfl, hbase, _⟩
      · simp [vblk] at e3
      · simp [vblk] at e3
        subst e3
        exact absurd hg (by simpa using hbase)
    · obtain ⟨s, k, c', e1, e2, e3⟩ := hout i c hc
      obtain ⟨g', t, us, b1, b2, b3, b4, b5, b6⟩ := hR.box s k c' e2
      have hp := hπ i s k e1
      rw [refρ_at hg, b1] at hp
      obtain rfl : g = g' := by injection hp with hp; injection hp with hp; injection hp with hp; injection hp
      refine ⟨hnb g s (by rw [e2]; simp [blkOf, b1, vblk]) ⟨k, c', e2⟩, t, us, b2, by rw [b5]; exact e3.spec.1.symm, fun j x z hx hz => ?_⟩
      obtain ⟨y, hy⟩ := some_at (L := c') (k := j) (by rw [← e3.spec.1]; exact lt_at hx)
      exact hRen (e3.spec.2 j x y hx hy) (b6 j y z hy hz)
  rcases he with rfl | rfl
  · exact ⟨hR.df, u, hu, hpost⟩
  · exact ⟨hR.df, u, hu, hpost⟩
end
end Go.Proofs.YtbacidnhjmdnlaaDoor
