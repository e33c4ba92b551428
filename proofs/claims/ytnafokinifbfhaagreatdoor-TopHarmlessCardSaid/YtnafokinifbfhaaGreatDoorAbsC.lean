/- Queues in the abstract machine: own rows whose front is dropped and whose end is appended to; conditions: none. -/
import Derived.Test.YtnafokinifbfhaaGreatDoorAbsZ
import Derived.ArgAppend
set_option linter.unusedVariables false
set_option linter.unusedSimpArgs false
namespace Go.Proofs.YtnafokinifbfhaaGreatDoor
open Go Go.RowKit
/-- A queue's object: nil, or a row with its front dropped. -/
def qC (e sz : Nat) : Option (List AV) → Cont
  | none => .buf e sz []
  | some Q => .ob (.qu e sz Q)
def qL (q : Option (List AV)) : List AV := q.getD []
theorem Rep.qp_inv {M : Nat → Option (Array Value)} {ρ : Nat → Nat → Option Value} {s k off : Nat} {u : Value} (h : Rep M ρ (.qp s k off) u) : ∃ g o l c, ρ s k = some (.slice (some ⟨g, o, none⟩) l c) ∧ u = .pointer (some ⟨g, o + off, none⟩) := by
  cases h with
  | qp _ _ _ _ g o l c h => exact ⟨g, o, l, c, h, rfl⟩
section
variable {X : Ctx} {n : Nat} {M : Nat → Option (Array Value)} {ρ : Nat → Nat → Option Value} {σ : AS} {a : Act} {w : World}
/-- A site's object becomes another one, in its block or in a new one. -/
theorem Rel.toOb (h : Rel X n M ρ σ a w) (s : Nat) {v' : Value} {g' : Nat} {w' : World} {o' : AO} {own : Option Nat} (hv : vblk v' = some g') (hg : w.grownBy w' own) (hown : ∀ g, own = some g → zI ρ s (σ.H s) = some g) (hat : zI ρ s (σ.H s) = some g' ∨ w.heap.size ≤ g') (hb : X.w0.heap.size ≤ g') (hb0 : ∀ g, own = some g → X.w0.heap.size ≤ g)
    (hx : ∀ ρ', (∀ s k y, ρ s k = some y → ρ' s k = some y) → ObIn M ρ' w' v' g' o') : Rel X n M (updρ ρ s ((σ.H s).k + 1) v') (σ.hup s ⟨(σ.H s).k + 1, .ob o'⟩) a w' := by
  have hm := aD (u := v') (qV h s)
  have hother : ∀ s', s' ≠ s → (σ.hup s ⟨(σ.H s).k + 1, .ob o'⟩).H s' = σ.H s' := fun s' hs => by simp [AS.hup, zV hs]
  have hsame : (σ.hup s ⟨(σ.H s).k + 1, .ob o'⟩).H s = ⟨(σ.H s).k + 1, .ob o'⟩ := by simp [AS.hup, Nat.beq_refl]
  have hblk : ∀ s', s' ≠ s → zI (updρ ρ s ((σ.H s).k + 1) v') s' (σ.H s') = zI ρ s' (σ.H s') := fun s' hs => by
    unfold zI updρ
    cases (σ.H s').c <;> simp [hs]
  have hblks : zI (updρ ρ s ((σ.H s).k + 1) v') s ⟨(σ.H s).k + 1, .ob o'⟩ = some g' := by
    simp [zI, updρ, hv]
  have hfar : ∀ s' g, s' ≠ s → zI ρ s' (σ.H s') = some g → w'.heap[g]? = w.heap[g]? := fun s' g hs hg' => hg.block g (h.blk_lt hg').1 fun e => hs (h.sep s' s g hg' (hown g e.symm))
  have hdiff : ∀ s' g, s' ≠ s → zI ρ s' (σ.H s') = some g → g ≠ g' := fun s' g hs hg' e => by
    subst e
    rcases hat with h1 | h1
    · exact hs (h.sep s' s g hg' h1)
    · have := (h.blk_lt hg').1; omega
  have hMo : ∀ g, own = some g → M g = none := fun g e => (h.blk_lt (hown g e)).2
  have hMg : M g' = none := by
    rcases hat with h1 | h1
    · exact (h.blk_lt h1).2
    · cases hx : M g' with
      | none => rfl
      | some arr => exact absurd (h.lt hx) (Nat.not_lt.2 h1)
  refine ⟨fun g arr hgm => ?_, h.sz, fun i => (h.tm i).mono' (fun _ _ e => e) hm, fun s' k cs' e => ?_, fun s' k e1 sz1 L1 he => ?_, fun s1 s2 g e1 e2 => ?_, fun s' k hk => ?_, h.glob, h.base, fun i g e => hm _ _ _ (h.root i g e), hg.os.trans h.os, hg.tape.trans h.tape, hg.output.trans h.output, Nat.le_trans h.size hg.size, fun g hgl hn => ?_, h.df, fun s' k L1 e => ?_⟩
  · obtain ⟨t', fr, h1⟩ := h.live g arr hgm
    exact ⟨t', fr, (hg.block g (h.lt hgm) fun e => by rw [hMo g e.symm] at hgm; cases hgm).trans h1⟩
  · by_cases hs : s' = s
    · subst hs
      rw [hsame] at e
      injection e with _ e
      cases e
    · rw [hother s' hs] at e
      exact (h.box s' k cs' e).mono (fun _ _ e => e) hm (fun g hg' => hfar s' g hs (by rw [e]; simp [zI, hg', vblk])) (fun _ _ e => e)
  · by_cases hs : s' = s
    · subst hs
      rw [hsame] at he
      injection he with _ he
      cases he
    · rw [hother s' hs] at he
      exact (h.buf s' k e1 sz1 L1 he).mono (fun _ _ e => e) hm (fun u g hu hg' => hfar s' g hs (by rw [he]; simp [zI, hu, hg'])) (fun _ _ _ _ e => e)
  · by_cases h1 : s1 = s
    · by_cases h2 : s2 = s
      · rw [h1, h2]
      · subst h1
        rw [hsame, hblks] at e1
        rw [hother s2 h2, hblk s2 h2] at e2
        injection e1 with e1
        exact absurd e1.symm (hdiff s2 g h2 e2)
    · by_cases h2 : s2 = s
      · subst h2
        rw [hsame, hblks] at e2
        rw [hother s1 h1, hblk s1 h1] at e1
        injection e2 with e2
        exact absurd e2.symm (hdiff s1 g h1 e1)
      · rw [hother s1 h1, hblk s1 h1] at e1
        rw [hother s2 h2, hblk s2 h2] at e2
        exact h.sep s1 s2 g e1 e2
  · by_cases hs : s' = s
    · subst hs
      rw [hsame] at hk
      unfold updρ
      rw [if_neg (by rintro ⟨-, rfl⟩; exact Nat.lt_irrefl _ hk)]
      exact h.fresh s' k (by have : (σ.H s').k + 1 < k := hk; omega)
    · rw [hother s' hs] at hk
      unfold updρ
      rw [if_neg (fun e => hs e.1)]
      exact h.fresh s' k hk
  · rw [← h.frame g hgl hn]
    refine hg.block g (Nat.lt_of_lt_of_le hgl h.size) fun e => ?_
    have := hb0 g e.symm
    omega
  · by_cases hs : s' = s
    · subst hs
      rw [hsame] at e
      injection e with e1 e2
      injection e2 with e2
      subst e1; subst e2
      exact ⟨v', g', hMg, by simp [updρ], hv, hb, hx _ hm⟩
    · rw [hother s' hs] at e
      exact (h.mp s' k L1 e).mono hm (fun g hg' => hfar s' g hs (h.mp_blk e hg')) (fun _ _ e => e)
end
theorem aL {α : Type} : ∀ (xs cs : List α) (o j : Nat), o + xs.length ≤ cs.length → (putL cs o xs)[j]? = if j < o then cs[j]? else if j < o + xs.length then xs[j - o]? else cs[j]?
  | [], cs, o, j, _ => by
    rw [putL]
    split
    · rfl
    · rw [if_neg (by simp; omega)]
  | x :: xs, cs, o, j, h => by
    simp only [List.length_cons] at h
    rw [putL, aL xs (cs.set o x) (o + 1) j (by rw [List.length_set]; omega)]
    by_cases h1 : j < o
    · rw [if_pos h1, if_pos (by omega), List.getElem?_set_ne (by omega)]
    · rw [if_neg h1]
      by_cases h2 : j = o
      · subst h2
        rw [if_pos (by omega), List.getElem?_set_self (by omega), if_pos (by simp only [List.length_cons]; omega), Nat.sub_self]
        rfl
      · rw [if_neg (by omega), List.length_cons]
        by_cases h3 : j < o + 1 + xs.length
        · rw [if_pos h3, if_pos (by omega), show j - o = (j - (o + 1)) + 1 by omega, List.getElem?_cons_succ]
        · rw [if_neg h3, if_neg (by omega), List.getElem?_set_ne (by omega)]
section
variable {P : Program} {X : Ctx} {n : Nat} {ops : Array Oper} {os : List Oper} {acc : List Rule} {σ : AS} {K : List Rule → AS → Prop} {gt : List (Nat × AV)} {ty : TypeId} {ps : String} {af : Array Edge} {g : Option (Nat × Bool)} {d : Option Nat}
variable {TB : Tabs} (hTB : TabsOk P TB)
include hTB
theorem x_len_qu {t : TypeId} {x : Operand} {s k k' e e' sz : Nat} {q : Option (List AV)} (hs : lk TB.sle t = some e') (hx : ev σ x = .own s k) (hH : σ.H s = ⟨k', qC e sz q⟩) (hk : k = k')
    (h : Exec P X n ops os (mkG gt σ [x] [s] d (.v (.int .i64 ((qL q).length : Nat))) [] :: acc) (σ.put d (.v (.int .i64 ((qL q).length : Nat)))) K) : Op1 P X n ops gt ⟨d, .call ⟨.builtin .len, #[x], #[t]⟩, ty, ps, af, g⟩ os acc σ K := by
  cases q with
  | none => exact fP hTB hs hx hH hk h
  | some Q =>
    refine ⟨⟨mkR σ [x] [s] d (.v (.int .i64 (Q.length : Nat))) [], zW rfl fun M ρ τ a w hf hR => ?_, zR _ _ _ _ _ _, h⟩⟩
    subst hk
    have hHs := (zo hf (s := s) (by simp)).trans hH
    have h1 := hR.ev x
    rw [zP hf (by simp), hx] at h1
    obtain ⟨v, g', -, b1, b2, b3, o, c, cur, rfl, c2, c3, c4, c5, c6, c7⟩ := hR.mp s k _ hHs
    have e1 := h1.own_inv
    rw [b1] at e1
    injection e1 with e1
    refine ⟨goInt Q.length, w, M, ρ, ?_, hR, .v _ _⟩
    unfold execOp
    simp [resolve, invoke, builtin, ← e1, Builtin.len_, run_underlying (yM hTB hs)]
theorem dV {t : TypeId} {x i : Operand} {s k k' sz sz' e e' : Nat} {b : Bool} {Q : List AV} {kk : IntKind} {z : Int} (hs : lk TB.sle t = some e) (hz : lk TB.ty e = some (b, sz)) (hx : ev σ x = .own s k) (hH : σ.H s = ⟨k', .ob (.qu e' sz' Q)⟩) (hk : k = k') (hi : ev σ i = .v (.int kk z)) (h0 : 0 ≤ z ∧ z < Q.length)
    (h : Exec P X n ops os (mkG gt σ [x, i] [s] d (.qp s k (z.toNat * sz)) [] :: acc) (σ.put d (.qp s k (z.toNat * sz))) K) : Op1 P X n ops gt ⟨d, .indexAddr t x i, ty, ps, af, g⟩ os acc σ K := by
  refine ⟨⟨mkR σ [x, i] [s] d (.qp s k (z.toNat * sz)) [], zW rfl fun M ρ τ a w hf hR => ?_, zR _ _ _ _ _ _, h⟩⟩
  subst hk
  have hHs := (zo hf (s := s) (by simp)).trans hH
  have h1 := hR.ev x
  rw [zP hf (by simp), hx] at h1
  have h2 := zT hR (zP hf (by simp)) hi
  obtain ⟨v, g', -, b1, b2, b3, o, c, cur, rfl, c2, c3, c4, c5, c6, c7⟩ := hR.mp s k _ hHs
  have e1 := h1.own_inv
  rw [b1] at e1
  injection e1 with e1
  refine ⟨.pointer (some ⟨g', o + z.toNat * sz, none⟩), w, M, ρ, ?_, hR, .qp _ s k _ g' o _ c b1⟩
  have hc : 0 ≤ z ∧ z < (Q.length : Int) := h0
  unfold execOp
  simp only [← e1, h2, Instr.indexAt, asIntOf, Sem.run_bind, Sem.run_pure, run_underlying (yM hTB hs), Result.andThen_ok, Sem.run_ite, if_pos hc, yA hTB hz, Addr.add_mid]
/-- The front of a queue dropped. -/
theorem x_slice_qu {t : TypeId} {x : Operand} {lo : Option Operand} {s k k' sz e e' : Nat} {b : Bool} {Q : List AV} {l : Int} (hs : lk TB.sle t = some e) (hz : lk TB.ty e = some (b, sz)) (hx : ev σ x = .own s k) (hH : σ.H s = ⟨k', .ob (.qu e' sz Q)⟩) (hk : k = k') (hlo : loOf σ lo = some l) (hb : 0 ≤ l ∧ l ≤ Q.length)
    (hK : Exec P X n ops os (mkG gt σ (x :: lo.toList) [s] d (.own s (k' + 1)) [(s, ⟨k' + 1, .ob (.qu e' sz (Q.drop l.toNat))⟩)] :: acc) ((σ.hup s ⟨k' + 1, .ob (.qu e' sz (Q.drop l.toNat))⟩).put d (.own s (k' + 1))) K) : Op1 P X n ops gt ⟨d, .slice t x lo none none, ty, ps, af, g⟩ os acc σ K := by
  subst hk
  refine ⟨⟨mkR σ (x :: lo.toList) [s] d (.own s (k + 1)) [(s, ⟨k + 1, .ob (.qu e' sz (Q.drop l.toNat))⟩)], zW rfl fun M ρ τ a w hf hR => ?_, zR _ _ _ _ _ _, hK⟩⟩
  have hHs := (zo hf (s := s) (by simp)).trans hH
  have h1 := hR.ev x
  rw [zP hf (by simp), hx] at h1
  obtain ⟨v, g', -, b1, b2, b3, o, c, cur, rfl, c2, c3, c4, c5, c6, c7⟩ := hR.mp s k _ hHs
  have e1 := h1.own_inv
  rw [b1] at e1
  injection e1 with e1
  obtain ⟨d1, d2⟩ := hb
  have el : (l.toNat : Int) = l := Int.toNat_of_nonneg d1
  have hl : ((lo.map a.eval) = none ∧ l.toNat = 0) ∨ ∃ k, lo.map a.eval = some (.int k (l.toNat : Int)) := by
    cases lo with
    | none => injection hlo with hlo; subst hlo; exact .inl ⟨rfl, rfl⟩
    | some o =>
      obtain ⟨k, hk⟩ := lM hlo
      exact .inr ⟨k, by rw [Option.map_some, zT hR (zP hf (by simp)) hk, el]⟩
  have hr := qx (P := P) (A := some ⟨g', o, none⟩) (cap := c) (hi := none) (h := Q.length) (yM hTB hs) (yA hTB hz) (show l.toNat ≤ Q.length by omega) (Nat.le_refl _) c3 hl (.inl ⟨rfl, rfl⟩) w
  have hv' : (if c = l.toNat then some (⟨g', o, none⟩ : Addr) else (some (⟨g', o, none⟩ : Addr)).map (·.add (l.toNat * sz))) = some ⟨g', if c = l.toNat then o else o + l.toNat * sz, none⟩ := by
    split
    · rfl
    · rw [Option.map_some, Addr.add_mid]
  rw [hv'] at hr
  have hkk : (τ.H s).k = k := by rw [hHs]
  have hA := hR.toOb s (v' := .slice (some ⟨g', if c = l.toNat then o else o + l.toNat * sz, none⟩) (Q.length - l.toNat) (c - l.toNat)) (g' := g') (w' := w) (own := none) (o' := .qu e' sz (Q.drop l.toNat)) rfl ⟨rfl, rfl, rfl, Nat.le_refl _, fun _ _ _ => rfl⟩ (fun g e => by cases e) (.inl (by rw [hHs]; simp [zI, b1, vblk])) b3 (fun g e => by cases e) (fun ρ' hρ => by
    refine ⟨_, c - l.toNat, cur, by rw [List.length_drop], c2, by rw [List.length_drop]; omega, by omega, ?_, fun x hx => c6 x (List.mem_of_mem_drop hx), fun j y hy => ?_⟩
    · split
      · rename_i hcl; rw [hcl, Nat.sub_self, Nat.zero_mul]; omega
      · have h3 : l.toNat ≤ c := by omega
        have h4 : l.toNat * sz + (c - l.toNat) * sz = c * sz := by rw [← Nat.add_mul]; congr 1; omega
        omega
    · rw [(pA Q l.toNat c6).2, List.getElem?_drop] at hy
      obtain ⟨u, q1, q2, q3⟩ := c7 _ y hy
      have hlt := zM hy
      have hfl : (Q.flatMap AV.cells).length = Q.length * sz := yc c6
      split
      · rename_i hcl
        have h5 : Q.length = l.toNat := by omega
        rw [hfl, h5] at hlt
        omega
      · exact ⟨u, by rw [← q1]; congr 1; omega, q2, q3⟩)
  rw [hkk] at hA
  refine ⟨_, w, M, _, by unfold execOp; simp only [← e1, Option.map_none, Sem.run_bind, hr]; rfl, hA, .own _ _ _ _ (by simp [updρ]) rfl⟩
/-- The end of a queue appended to: in its place, or in a new row. -/
theorem vM {t : TypeId} {x y : Operand} {s k k' e sz by_ : Nat} {b : Bool} {zs : List Value} {q : Option (List AV)} {N : List AV} (hgs : q = none → X.gs = []) (hs : lk TB.sle t = some e) (hz : lk TB.ty e = some (b, sz)) (hzr : lk TB.zer e = some zs) (hby : lk TB.byt e = some by_) (hzl : zs.length = sz) (hpos : 0 < sz)
    (hx : ev σ x = .own s k) (hH : σ.H s = ⟨k', qC e sz q⟩) (hk : k = k') (hy : ev σ y = .sl sz N) (hN : 0 < N.length) (ho : ∀ x ∈ N, zn x.cells = true) (hb : ((qL q).length + N.length) * by_ ≤ 140737488355328) (hm : (qL q).length + N.length ≤ 9223372036854775807)
    (hK : Exec P X n ops os (mkG gt σ [x, y] [s] d (.own s (k' + 1)) [(s, ⟨k' + 1, .ob (.qu e sz (qL q ++ N))⟩)] :: acc) ((σ.hup s ⟨k' + 1, .ob (.qu e sz (qL q ++ N))⟩).put d (.own s (k' + 1))) K) : Op1 P X n ops gt ⟨d, .call ⟨.builtin .append, #[x, y], #[t, t]⟩, ty, ps, af, g⟩ os acc σ K := by
  subst hk
  refine ⟨⟨mkR σ [x, y] [s] d (.own s (k + 1)) [(s, ⟨k + 1, .ob (.qu e sz (qL q ++ N))⟩)], zW rfl fun M ρ τ a w hf hR => ?_, zR _ _ _ _ _ _, hK⟩⟩
  have hHs := (zo hf (s := s) (by simp)).trans hH
  have hkk : (τ.H s).k = k := by rw [hHs]
  obtain ⟨i, z, t1, t2, t3, t4, t5, t6⟩ := fH hTB hs hz hzr hby hzl
  have h1 := hR.ev x
  rw [zP hf (by simp), hx] at h1
  have h2 := hR.ev y
  rw [zP hf (by simp), hy] at h2
  have e1 := h1.own_inv
  obtain ⟨A, c2, news, f1, f2, f3, f4, f5, f6, f7⟩ := mY hR.live h2 hpos ho
  -- what a new own row is as a queue
  have fin : ∀ (v' : Value) (w' : World) (own : Option Nat) (base : Nat) (olds : List Value), (execOp a.eval ⟨d, .call ⟨.builtin .append, #[x, y], #[t, t]⟩, ty, ps, af, g⟩).run P w = .ok (.value v') w' → w'.ownsRow base e sz v' ((qL q).length + N.length) (olds ++ news) → w.grownBy w' own → (∀ g, own = some g → zI ρ s (τ.H s) = some g) → (∀ g, own = some g → X.w0.heap.size ≤ g) → (∀ g, vblk v' = some g → (zI ρ s (τ.H s) = some g ∨ w.heap.size ≤ g) ∧ X.w0.heap.size ≤ g) →
      olds.length = (qL q).length * sz → (∀ x ∈ qL q, x.cells.length = sz) → (∀ (j : Nat) (x : AV) (u : Value), ((qL q).flatMap AV.cells)[j]? = some x → olds[j]? = some u → Rep M noρ x u ∧ u.oneCell' = true) →
      ∃ u w' M' ρ', (execOp a.eval ⟨d, .call ⟨.builtin .append, #[x, y], #[t, t]⟩, ty, ps, af, g⟩).run P w = .ok (.value u) w' ∧ Rel X n M' ρ' (hups [(s, ⟨k + 1, .ob (.qu e sz (qL q ++ N))⟩)] τ) a w' ∧ Rep M' ρ' (.own s (k + 1)) u := by
    intro v' w' own base olds hrun hown hg hog hob hvb hol hqc hqr
    have hone := (jc hown).2
    obtain ⟨q0, q1⟩ := hown
    rcases q1 with ⟨-, q2⟩ | ⟨g', cap, cur, rfl, q2, q3, q4, q5, q6, q7⟩
    · omega
    obtain ⟨cl⟩ := cur
    have q7' : cl.take (((qL q).length + N.length) * sz) = olds ++ news := q7
    obtain ⟨v1, v2⟩ := hvb g' rfl
    have hA := hR.toOb s (v' := .slice (some ⟨g', 0, none⟩) ((qL q).length + N.length) cap) (g' := g') (w' := w') (own := own) (o' := .qu e sz (qL q ++ N)) rfl hg hog v1 v2 hob (fun ρ' hρ => by
      refine ⟨0, cap, cl, by rw [List.length_append], q3, by rw [List.length_append]; exact q4, q5, by have : cl.length = cap * sz := q6; omega, fun x hx => (List.mem_append.1 hx).elim (hqc x) (f5 x), fun j y hy => ?_⟩
      have hfl : ((qL q).flatMap AV.cells).length = (qL q).length * sz := yc hqc
      have hlt := zM hy
      rw [List.flatMap_append, List.length_append] at hlt
      have hj : j < (olds ++ news).length := by rw [List.length_append, hol, f6]; omega
      obtain ⟨u, hu⟩ := zB hj
      have hcu : cl[0 + j]? = some u := by
        rw [Nat.zero_add]
        rw [← q7', List.getElem?_take] at hu
        split at hu
        · exact hu
        · cases hu
      refine ⟨u, hcu, ?_⟩
      rw [List.flatMap_append, List.getElem?_append] at hy
      rw [List.getElem?_append] at hu
      rw [hfl] at hy
      rw [hol] at hu
      split at hy
      · rename_i hr; rw [if_pos hr] at hu; exact hqr j y u hy hu
      · rename_i hr; rw [if_neg hr] at hu; exact f7 _ y u hy hu)
    rw [hkk] at hA
    exact ⟨_, w', M, _, hrun, hA, .own _ _ _ _ (by simp [updρ]) hone⟩
  cases q with
  | none =>
    obtain ⟨u, us, b1, b2, b3, b4, b5, b6⟩ := hR.buf s k e sz [] hHs
    rw [b1] at e1
    injection e1 with e1
    obtain ⟨v', w', hrun, r1, r2, r3⟩ := jh (P := P) w 0 t ty e i z sz by_ t1 t2 t3 t4 t5 t6 hpos u 0 us b2.1 A N.length c2 news f2 f3 f4 (by simp only [maxLen]; simp only [qL, Option.getD_none, List.length_nil] at hm; omega) hb (Nat.zero_le _)
    have hvu := (jc b2.1).1
    have hblku : ∀ g, u.ownBlock = some g → zI ρ s (τ.H s) = some g := fun g hg => by rw [hHs]; simp [qC, zI, b1, hvu, hg]
    have hbu : ∀ g, u.ownBlock = some g → X.w0.heap.size ≤ g := fun g hg => by
      rcases b2.2 g (by rw [hvu]; exact hg) with h | h
      · exact h
      · rw [hgs rfl] at h; cases h
    have hvv := (jc r1).1
    refine fin v' w' u.ownBlock 0 us (by unfold execOp; simp [resolve, invoke, builtin, ← e1, f1, hrun]) r1 r2 hblku hbu (fun g hg => ?_) b2.1.1 (fun x hx => by cases hx) (fun j x u hx => by simp [qL] at hx)
    rw [hvv] at hg
    rcases r3 with r3 | r3
    · rw [r3] at hg
      exact ⟨.inl (hblku g hg), hbu g hg⟩
    · rw [r3] at hg
      injection hg with hg
      subst hg
      exact ⟨.inr (Nat.le_refl _), hR.size⟩
  | some Q =>
    obtain ⟨v, g', hMg, b1, b2, b3, o, c, cur, rfl, c2', c3, c4, c5, c6, c7⟩ := hR.mp s k _ hHs
    rw [b1] at e1
    injection e1 with e1
    have hblk : zI ρ s (τ.H s) = some g' := by rw [hHs]; simp [qC, zI, b1, vblk]
    have hfl : (Q.flatMap AV.cells).length = Q.length * sz := yc c6
    obtain ⟨ad, had, hcell⟩ := f3 hN
    have hlQ : (qL (some Q)).length = Q.length := rfl
    have hsplit : Q.length * sz ≤ c * sz := Nat.mul_le_mul_right _ c3
    subst had
    by_cases hroom : Q.length + N.length ≤ c
    · have hrm : (Q.length + N.length) * sz ≤ c * sz := Nat.mul_le_mul_right _ hroom
      rw [Nat.add_mul] at hrm
      have hrun := run_append_room_cells (P := P) w t ty e i t1 t2 g' o Q.length c ad N.length c2 news (by rw [f2, t4]) hcell f4 hroom (fun j hj => by
        rw [cell_of_row w g' _ ⟨cur⟩ e (0, 0) c2', t4]
        simp
        omega) (fun j hj => by simp [World.frozen?, c2'])
      rw [t4] at hrun
      obtain ⟨s1, s2, s3, s4⟩ := jT (g := g') news (o + Q.length * sz) w
      have hA := hR.toOb s (v' := .slice (some ⟨g', o, none⟩) (Q.length + N.length) c) (g' := g') (w' := w.setCells g' (o + Q.length * sz) news) (own := some g') (o' := .qu e sz (Q ++ N)) rfl ⟨s1, s2, s3, by rw [s4]; exact Nat.le_refl _, fun g1 hg1 hne => yB (fun e => hne (by rw [e])) news _ w⟩ (fun g hg => by rw [← hg]; exact hblk) (.inl hblk) b3 (fun g e => by injection e with e; omega) (fun ρ' hρ => by
        refine ⟨o, c, putL cur (o + Q.length * sz) news, by rw [List.length_append], ji news cur _ w c2', by rw [List.length_append]; exact hroom, c4, by rw [zm]; exact c5, fun x hx => (List.mem_append.1 hx).elim (c6 x) (f5 x), fun j y hy => ?_⟩
        rw [aL _ _ _ _ (by omega)]
        rw [List.flatMap_append, List.getElem?_append, hfl] at hy
        split at hy
        · rename_i hr
          rw [if_pos (by omega)]
          exact c7 j y hy
        · rename_i hr
          have hlt := zM hy
          obtain ⟨u, hu⟩ := zB (L := news) (k := j - Q.length * sz) (by omega)
          rw [if_neg (by omega), if_pos (by omega), show o + j - (o + Q.length * sz) = j - Q.length * sz by omega]
          exact ⟨u, hu, f7 _ y u hy hu⟩)
      rw [hkk] at hA
      exact ⟨.slice (some ⟨g', o, none⟩) (Q.length + N.length) c, _, M, _, by unfold execOp; simp [resolve, invoke, builtin, ← e1, f1, hrun], hA, .own _ _ _ _ (by simp [updρ]) rfl⟩
    · have holds : ∀ j u, ((cur.drop o).take (Q.length * sz))[j]? = some u → w.cell? ((⟨g', o, none⟩ : Addr).add j) = some u := fun j u hj => by
        rw [List.getElem?_take] at hj
        split at hj
        · rw [List.getElem?_drop] at hj
          rw [Addr.add_lit, cell_of_row w g' _ ⟨cur⟩ e (0, 0) c2']
          simpa using hj
        · cases hj
      have hol : ((cur.drop o).take (Q.length * sz)).length = Q.length * sz := by
        rw [List.length_take, List.length_drop]; omega
      obtain ⟨v', w', hrun, r1, r2⟩ := run_append_arg_grows (P := P) w t ty e i z sz by_ t1 t2 t3 t4 t5 t6 hpos ⟨g', o, none⟩ Q.length c ((cur.drop o).take (Q.length * sz)) hol holds ad N.length c2 news f2 hcell (by omega) (by simp only [maxLen]; simp only [hlQ] at hm; omega) hb
      refine fin v' w' none w.heap.size ((cur.drop o).take (Q.length * sz)) (by unfold execOp; simp [resolve, invoke, builtin, ← e1, f1, hrun]) r1 r2 (fun g hg => by cases hg) (fun g hg => by cases hg) (fun g hg => ?_) hol c6 (fun j x u hx hu => ?_)
      · rcases r1.2 with ⟨-, r3⟩ | ⟨g1, cap, cur1, rfl, r3, -⟩
        · omega
        · simp [vblk] at hg
          subst hg
          exact ⟨.inr r3, Nat.le_trans hR.size r3⟩
      · obtain ⟨u', q1, q2, q3⟩ := c7 j x hx
        rw [List.getElem?_take] at hu
        split at hu
        · rw [List.getElem?_drop, q1] at hu
          injection hu with hu
          subst hu
          exact ⟨q2, q3⟩
        · cases hu
end
end Go.Proofs.YtnafokinifbfhaaGreatDoor
