/- Own buffers handed to a call that gives them back with one element more: copies of rows of any size, the contract, and its law in a walk; conditions: none. -/
import Derived.Test.YtamihjgfncjdoaaDoorAbsY
import Derived.Shelf.Spec.SlicesInsert
import Derived.Lib.AppendZerosOnto
set_option linter.unusedVariables false
set_option linter.unusedSimpArgs false
namespace Go.Proofs.YtamihjgfncjdoaaDoor
open Go Go.RowKit
/-- All is read before anything is written. -/
theorem run_copy_k {P : Program} (w : World) (dT sT ty elem : TypeId) (sz b o dLen dCap : Nat) (a : Addr) (sLen sCap : Nat) (cs : List Value)
    (hu : P.underlying dT = some (.slice elem)) (hs : (P.info? elem).map (·.size) = some sz) (hn : cs.length = Nat.min sLen dLen * sz)
    (hsrc : ∀ j v, cs[j]? = some v → w.cell? (a.add j) = some v) (hc : ∀ j, j < cs.length → (w.cell? ⟨b, o + j, none⟩).isSome = true) (hf : ∀ j, j < cs.length → w.frozen? ⟨b, o + j, none⟩ = false) (h1 : ∀ v ∈ cs, v.oneCell' = true) :
    (Builtin.copy_ #[dT, sT] ty #[.slice (some ⟨b, o, none⟩) dLen dCap, .slice (some a) sLen sCap]).run P w = .ok (goInt (Nat.min sLen dLen)) (w.setCells b o cs) := by
  have hl := run_loadCells_list (P := P) w a cs hsrc
  have hst := run_storeCells_cells (P := P) b o cs 0 w (by simpa using hc) (by simpa using hf) h1
  cases hq : P.info? elem with
  | none => simp [hq] at hs
  | some i =>
    have hi : i.size = sz := by simpa [hq] using hs
    rw [hn] at hl
    simp [Builtin.copy_, run_underlying hu, Builtin.lenOf, Builtin.firstCells, sizeOf, typeInfo, hq, hi, hl, hst]
theorem putL_take_all {α : Type} : ∀ (xs cs : List α) (o : Nat), o + xs.length ≤ cs.length → putL cs o xs = cs.take o ++ xs ++ cs.drop (o + xs.length)
  | [], cs, o, h => by simp [putL]
  | x :: xs, cs, o, h => by
    simp at h
    rw [putL, putL_take_all xs _ _ (by simp; omega)]
    have e1 : (cs.set o x).take (o + 1) = cs.take o ++ [x] := by
      rw [List.take_add_one, List.take_set_of_le (by omega), List.getElem?_set_self (by omega)]; rfl
    have e2 : (cs.set o x).drop (o + 1 + xs.length) = cs.drop (o + (x :: xs).length) := by
      rw [List.drop_set_of_lt (by omega)]
      congr 1
      simp; omega
    rw [e1, e2]
    simp
/-- One element laid in between, in place. -/
theorem ins_cells {α : Type} (cl us news : List α) (a k m : Nat) (hu : cl.take m = us) (hm : m ≤ cl.length) (ha : a ≤ m) (hk : news.length = k) (hroom : m + k ≤ cl.length) :
    (putL (putL cl (a + k) (us.drop a)) a news).take (m + k) = us.take a ++ news ++ us.drop a := by
  have hul : us.length = m := by rw [← hu, List.length_take]; omega
  have h1 : putL cl (a + k) (us.drop a) = cl.take (a + k) ++ us.drop a ++ cl.drop (a + k + (us.drop a).length) := putL_take_all _ _ _ (by rw [List.length_drop, hul]; omega)
  have hdl : (us.drop a).length = m - a := by rw [List.length_drop, hul]
  have h2l : (putL cl (a + k) (us.drop a)).length = cl.length := putL_length _ _ _
  rw [putL_take_all news _ _ (by rw [h2l]; omega), h1, hk]
  have e1 : (cl.take (a + k) ++ us.drop a ++ cl.drop (a + k + (us.drop a).length)).take a = us.take a := by
    rw [List.append_assoc, List.take_append_of_le_length (by rw [List.length_take]; omega), List.take_take, Nat.min_eq_left (by omega), ← hu, List.take_take, Nat.min_eq_left ha]
  have e2 : (cl.take (a + k) ++ us.drop a ++ cl.drop (a + k + (us.drop a).length)).drop (a + k) = us.drop a ++ cl.drop (a + k + (us.drop a).length) := by
    rw [List.append_assoc, List.drop_append_of_le_length (by rw [List.length_take]; omega), List.drop_of_length_le (by rw [List.length_take]; omega)]
    rfl
  rw [e1, e2]
  have hal : (us.take a).length = a := by rw [List.length_take]; omega
  have hx : (us.take a ++ news ++ us.drop a).length = m + k := by simp only [List.length_append, hal, hdl, hk]; omega
  rw [← List.append_assoc, ← hx, List.take_left']
  rw [hx]
section
variable {X : Ctx} {n : Nat} {M : Nat → Option (Array Value)} {ρ : Nat → Nat → Option Value} {σ : AS} {a : Act} {w : World}
/-- A buffer of the frame's own in the place of another one. -/
theorem Rel.ownTo (h : Rel X n M ρ σ a w) (d : Nat) {u v' : Value} {w' : World} {e sz m : Nat} {us us1 : List Value} {L : List AV} (hown0 : OwnsX X w e sz u m us) (hown : w'.ownsRow 0 e sz v' L.length us1) (hg : w.grownBy w' u.ownBlock)
    (hat : v'.ownBlock = u.ownBlock ∨ ∃ g, w.heap.size ≤ g ∧ v'.ownBlock = some g) (hM : ∀ g, vblk u = some g → M g = none) (hne : ∀ s' g, vblk u = some g → blkOf ρ s' (σ.H s') ≠ some g)
    (hl : us1.length = (L.flatMap AV.cells).length) (hsz : ∀ x ∈ L, x.cells.length = sz) (hrep : ∀ (j : Nat) (x : AV) (y : Value), (L.flatMap AV.cells)[j]? = some x → us1[j]? = some y → Rep M noρ x y ∧ y.oneCell' = true) :
    Rel X n M (updρ ρ d ((σ.H d).k + 1) v') (σ.hup d ⟨(σ.H d).k + 1, .buf e sz L⟩) a w' := by
  have hvu := (vblk_own hown0.1).1
  have hvv := (vblk_own hown).1
  have hmine : X.mine v' := mine_next hown0 hown hat h.size
  have hm := updρ_mono (u := v') (fresh_next h d)
  have hMn : ∀ g, w.heap.size ≤ g → M g = none := fun g hg => by
    cases hx : M g with
    | none => rfl
    | some arr => exact absurd (h.lt hx) (Nat.not_lt.2 hg)
  have hMv : ∀ g, vblk v' = some g → M g = none := fun g hg' => by
    rw [hvv] at hg'
    rcases hat with h1 | ⟨g1, hg1, h1⟩
    · exact hM g (by rw [hvu, ← h1]; exact hg')
    · rw [hg'] at h1; injection h1 with h1; rw [h1]; exact hMn _ hg1
  have hother : ∀ s', s' ≠ d → (σ.hup d ⟨(σ.H d).k + 1, .buf e sz L⟩).H s' = σ.H s' := fun s' hs => by simp [AS.hup, beq_ne hs]
  have hsame : (σ.hup d ⟨(σ.H d).k + 1, .buf e sz L⟩).H d = ⟨(σ.H d).k + 1, .buf e sz L⟩ := by simp [AS.hup, Nat.beq_refl]
  have hblk : ∀ s', s' ≠ d → blkOf (updρ ρ d ((σ.H d).k + 1) v') s' (σ.H s') = blkOf ρ s' (σ.H s') := fun s' hs => by
    unfold blkOf updρ
    cases (σ.H s').c <;> simp [hs]
  have hblks : blkOf (updρ ρ d ((σ.H d).k + 1) v') d ⟨(σ.H d).k + 1, .buf e sz L⟩ = vblk v' := by simp [blkOf, updρ]
  have hkeep : ∀ s' g, blkOf ρ s' (σ.H s') = some g → w'.heap[g]? = w.heap[g]? := fun s' g hg' => hg.block g (h.blk_lt hg').1 (fun e => hne s' g (by rw [hvu]; exact e.symm) hg')
  have hdiff : ∀ s' g, blkOf ρ s' (σ.H s') = some g → vblk v' ≠ some g := fun s' g hg' e => by
    rw [hvv] at e
    rcases hat with h1 | ⟨g1, hg1, h1⟩
    · exact hne s' g (by rw [hvu, ← h1]; exact e) hg'
    · rw [e] at h1; injection h1 with h1; have := (h.blk_lt hg').1; omega
  refine ⟨fun g arr hgm => ?_, h.sz, fun i => (h.tm i).mono' (fun _ _ e => e) hm, fun s' k cs' e => ?_, fun s' k e1 sz1 L1 he => ?_, fun s1 s2 g e1 e2 => ?_, fun s' k hk => ?_, h.glob, h.base, fun i g e => hm _ _ _ (h.root i g e), hg.os.trans h.os, hg.tape.trans h.tape, hg.output.trans h.output, Nat.le_trans h.size hg.size, fun g hgl hn => ?_, h.df, fun s' k L1 he => by
    obtain ⟨hs, he'⟩ := hup_mp (by simp) he
    exact (h.mp s' k L1 he').mono hm (fun g hg' => hkeep s' g (h.mp_blk he' hg')) (fun _ _ e => e)⟩
  · obtain ⟨t, fr, hh⟩ := h.live g arr hgm
    refine ⟨t, fr, (hg.block g (h.lt hgm) (fun e => ?_)).trans hh⟩
    rw [hM g (by rw [hvu]; exact e.symm)] at hgm
    cases hgm
  · by_cases hs : s' = d
    · subst hs
      rw [hsame] at e
      injection e with _ e
      cases e
    · rw [hother s' hs] at e
      exact (h.box s' k cs' e).mono (fun _ _ e => e) hm (fun g hg' => hkeep s' g (by rw [e]; simp [blkOf, hg', vblk])) (fun _ _ e => e)
  · by_cases hs : s' = d
    · subst hs
      rw [hsame] at he
      injection he with e1 e2
      injection e2 with e2 e3 e4
      subst e1; subst e2; subst e3; subst e4
      exact ⟨v', us1, by simp [updρ], ⟨hown, hmine⟩, hMv, hl, hsz, hrep⟩
    · rw [hother s' hs] at he
      exact (h.buf s' k e1 sz1 L1 he).mono (fun _ _ e => e) hm (fun u g hu hg' => hkeep s' g (by rw [he]; simp [blkOf, hu, hg'])) (fun _ _ _ _ e => e)
  · by_cases h1 : s1 = d
    · by_cases h2 : s2 = d
      · rw [h1, h2]
      · exfalso
        subst h1
        rw [hsame, hblks] at e1
        rw [hother s2 h2, hblk s2 h2] at e2
        exact hdiff s2 g e2 e1
    · by_cases h2 : s2 = d
      · exfalso
        subst h2
        rw [hsame, hblks] at e2
        rw [hother s1 h1, hblk s1 h1] at e1
        exact hdiff s1 g e1 e2
      · rw [hother s1 h1, hblk s1 h1] at e1
        rw [hother s2 h2, hblk s2 h2] at e2
        exact h.sep s1 s2 g e1 e2
  · by_cases hs : s' = d
    · subst hs
      rw [hsame] at hk
      simp only at hk
      unfold updρ
      rw [if_neg (by omega)]
      exact h.fresh s' k (by omega)
    · rw [hother s' hs] at hk
      unfold updρ
      rw [if_neg (fun e => hs e.1)]
      exact h.fresh s' k hk
  · rw [hg.block g (Nat.lt_of_lt_of_le hgl h.size) (fun e => ?_)]
    · exact h.frame g hgl hn
    · rcases hown0.2 g (hvu.trans e.symm) with h1 | h1
      · omega
      · exact hn h1
end
def InsPost (w : World) (b e sz : Nat) (u : Value) (M : Nat → Option (Array Value)) (L' : List AV) (en : Ending) (w' : World) : Prop :=
  ∃ u' us', en = .returned u' ∧ w'.ownsRow b e sz u' L'.length us' ∧ w.grownBy w' u.ownBlock ∧ (u'.ownBlock = u.ownBlock ∨ ∃ g, w.heap.size ≤ g ∧ u'.ownBlock = some g) ∧ us'.length = (L'.flatMap AV.cells).length ∧ (∀ x ∈ L', x.cells.length = sz) ∧ ∀ (j : Nat) (x : AV) (y : Value), (L'.flatMap AV.cells)[j]? = some x → us'[j]? = some y → Rep M noρ x y ∧ y.oneCell' = true
/-- A call that takes a buffer of the caller's own, and gives it back changed. -/
def ACallsI (P : Program) (f : FuncId) (e sz : Nat) (L : List AV) (args : List AV) (L' : List AV) : Prop :=
  Enter P f ∧ ∀ M w b u us (vs : List Value), LiveM M w → w.ownsRow b e sz u L.length us → b ≤ w.heap.size → (∀ g, vblk u = some g → M g = none) → us.length = (L.flatMap AV.cells).length → (∀ x ∈ L, x.cells.length = sz) →
    (∀ (j : Nat) (x : AV) (y : Value), (L.flatMap AV.cells)[j]? = some x → us[j]? = some y → Rep M noρ x y ∧ y.oneCell' = true) → vs.length = args.length → (∀ (j : Nat) (x : AV) (v : Value), args[j]? = some x → vs[j]? = some v → Rep M noρ x v) →
    Calls P f ⟨u :: vs⟩ w (InsPost w b e sz u M L')
section
variable {P : Program} {X : Ctx} {n : Nat} {ops : Array Oper} {os : List Oper} {acc : List Rule} {σ : AS} {K : List Rule → AS → Prop} {gt : List (Nat × AV)} {ty : TypeId} {ps : String} {af : Array Edge} {g : Option (Nat × Bool)}
theorem x_call_ins {f : FuncId} {tys : Array TypeId} {x : Operand} {xs : List Operand} {args : List AV} {d s k k' k0 e sz : Nat} {q0 : Cont} {L L' : List AV} (hc : ACallsI P f e sz L args L') (hx : ev σ x = .own s k) (hHs : σ.H s = ⟨k', .buf e sz L⟩) (hk : k = k') (hargs : xs.map (ev σ) = args) (hpure : pureL args = true) (hH0 : σ.H d = ⟨k0, q0⟩)
    (h : Exec P X n ops os (mkG gt σ (x :: xs) [s, d] (some d) (.own d (k0 + 1)) [(s, ⟨k', .dead⟩), (d, ⟨k0 + 1, .buf e sz L'⟩)] :: acc) (((σ.hup s ⟨k', .dead⟩).hup d ⟨k0 + 1, .buf e sz L'⟩).put (some d) (.own d (k0 + 1))) K) :
    Op1 P X n ops gt ⟨some d, .call ⟨.value (.func f), (x :: xs).toArray, tys⟩, ty, ps, af, g⟩ os acc σ K := by
  obtain rfl : (σ.H d).k = k0 := by rw [hH0]
  subst hk
  refine ⟨⟨mkR σ (x :: xs) [s, d] (some d) (.own d ((σ.H d).k + 1)) [(s, ⟨k, .dead⟩), (d, ⟨(σ.H d).k + 1, .buf e sz L'⟩)], fun hlt M ρ τ a w hf hR K Q hK => ?_, mkR_fires _ _ _ _ _ _, h⟩⟩
  have hHd := mkR_H hf (s := d) (by simp)
  have hHs' := (mkR_H hf (s := s) (by simp)).trans hHs
  have h1 := hR.ev x
  rw [mkR_ev hf (by simp), hx] at h1
  have hu := h1.own_inv
  obtain ⟨u, us, b1, b2, b3, b4, b5, b6⟩ := hR.buf s k e sz L hHs'
  rw [b1] at hu
  injection hu with hu
  have hargs' : ∀ (j : Nat) (y : AV) (v : Value), args[j]? = some y → (xs.map a.eval)[j]? = some v → Rep M noρ y v := fun j y v hy hv => by
    rw [List.getElem?_map] at hv
    cases hxj : xs[j]? with
    | none => rw [hxj] at hv; cases hv
    | some z =>
      rw [hxj] at hv
      injection hv with hv
      subst hv
      rw [← hargs, List.getElem?_map, hxj] at hy
      injection hy with hy
      subst hy
      have h2 := hR.ev z
      rw [mkR_ev hf (by simp [List.mem_of_getElem? hxj])] at h2
      exact rep_pure1 h2 (pureL_at hpure _ (by rw [← hargs]; exact List.mem_map_of_mem (List.mem_of_getElem? hxj)))
  unfold Oper.wp
  rw [run_callF hc.1, Oper.upon_enter]
  have hcall := hc.2 M w 0 u us (xs.map a.eval) hR.live b2.1 (Nat.zero_le _) b3 b4 b5 b6 (by rw [← hargs]; simp) hargs'
  rw [show (x :: xs).map a.eval = u :: xs.map a.eval by rw [List.map_cons, ← hu]]
  refine hcall.mono ?_
  rintro en w' ⟨u', us', rfl, o1, o2, o3, o4, o5, o6⟩
  have hweak : Rel X n M ρ (τ.hup s ⟨k, .dead⟩) a w := hR.weak ⟨fun _ => .inl rfl, fun s' => by
    simp only [AS.hup]
    by_cases hs' : s' = s
    · subst hs'; rw [Nat.beq_refl]; exact ⟨by rw [hHs']; rfl, .inr rfl⟩
    · rw [beq_ne hs']; exact ⟨rfl, .inl rfl⟩⟩
  have hkd : ((τ.hup s ⟨k, .dead⟩).H d).k = (σ.H d).k := by
    simp only [AS.hup]
    by_cases hs' : d = s
    · subst hs'; rw [Nat.beq_refl, ← hHd, hHs']; rfl
    · rw [beq_ne hs']; exact congrArg HC.k hHd
  have hb0 : ∀ g, vblk u = some g → blkOf ρ s (τ.H s) = some g := fun g hg => by rw [hHs']; simp [blkOf, b1, hg]
  have hA := hweak.ownTo d (L := L') b2 o1 o2 o3 b3 (fun s' g hg hs' => by
      simp only [AS.hup] at hs'
      by_cases he : s' = s
      · subst he; rw [Nat.beq_refl] at hs'; simp [blkOf] at hs'
      · rw [beq_ne he] at hs'; exact he (hR.sep s' s g hs' (hb0 g hg)))
    o4 o5 o6
  rw [hkd] at hA
  refine hK M _ _ w' (hA.put (.own _ _ _ _ (by simp [updρ]) (vblk_own o1).2) hlt)
end
end Go.Proofs.YtamihjgfncjdoaaDoor
