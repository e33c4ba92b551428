/- append in the abstract machine; conditions: tables of types that agree with the program's. | Shorter forms of the abstract machine's laws: the value is computed rather than named; conditions: none. -/
import Derived.Test.YtnafokinifbfhaaGreatDoorAbsL
set_option linter.unusedVariables false
set_option linter.unusedSimpArgs false
namespace Go.Proofs.YtnafokinifbfhaaGreatDoor
open Go Go.RowKit
theorem flat_inv' {L : List AV} {sz : Nat} (hsz : ∀ x ∈ L, x.cells.length = sz) : ∀ (j : Nat) (y : AV), (L.flatMap AV.cells)[j]? = some y → ∃ k r x, L[k]? = some x ∧ x.cells[r]? = some y ∧ j = k * sz + r ∧ r < sz := by
  induction L with
  | nil => intro j y h; simp at h
  | cons z L ih =>
    intro j y h
    rw [List.flatMap_cons, List.getElem?_append] at h
    have hz := hsz z (by simp)
    split at h
    · rename_i hj
      exact ⟨0, j, z, rfl, h, by omega, by omega⟩
    · rename_i hj
      obtain ⟨k, r, x, h1, h2, h3, h4⟩ := ih (fun x hx => hsz x (by simp [hx])) _ y h
      exact ⟨k + 1, r, x, by simpa using h1, h2, by rw [Nat.succ_mul]; omega, h4⟩
theorem jc {u : Value} {w : World} {base e size m : Nat} {xs : List Value} (h : w.ownsRow base e size u m xs) : vblk u = u.ownBlock ∧ u.oneCell' = true := by
  rcases h.2 with ⟨rfl, _⟩ | ⟨g, cap, cur, rfl, _⟩ <;> exact ⟨rfl, rfl⟩
theorem mine_next {X : Ctx} {u v' : Value} {w w' : World} {e sz m m' : Nat} {us us' : List Value} (h0 : nY X w e sz u m us) (h1 : w'.ownsRow 0 e sz v' m' us') (hat : v'.ownBlock = u.ownBlock ∨ ∃ g, w.heap.size ≤ g ∧ v'.ownBlock = some g) (hs : X.w0.heap.size ≤ w.heap.size) : X.mine v' := fun g hg => by
  rw [(jc h1).1] at hg
  rcases hat with h2 | ⟨g1, hg1, h2⟩
  · exact h0.2 g (by rw [(jc h0.1).1, ← h2]; exact hg)
  · rw [hg] at h2; injection h2 with h2; subst h2; exact .inl (Nat.le_trans hs hg1)
theorem cG (X : Ctx) (w : World) (e sz : Nat) : nY X w e sz (.slice none 0 0) 0 [] := ⟨⟨by simp, .inl ⟨rfl, rfl⟩⟩, fun g h => by simp [vblk] at h⟩
section
variable {X : Ctx} {n : Nat} {M : Nat → Option (Array Value)} {ρ : Nat → Nat → Option Value} {σ : AS} {a : Act} {w : World}
/-- A row of the frame's own that has grown. -/
theorem Rel.appendTo (h : Rel X n M ρ σ a w) (d : Nat) {u v' : Value} {w' : World} {e sz m : Nat} {us news : List Value} {L : List AV} (hown0 : nY X w e sz u m us) (hown : w'.ownsRow 0 e sz v' L.length (us ++ news)) (hg : w.grownBy w' u.ownBlock)
    (hat : v'.ownBlock = u.ownBlock ∨ ∃ g, w.heap.size ≤ g ∧ v'.ownBlock = some g) (hM : ∀ g, vblk u = some g → M g = none) (hne : ∀ s' g, vblk u = some g → zI ρ s' (σ.H s') ≠ some g)
    (hl : (us ++ news).length = (L.flatMap AV.cells).length) (hsz : ∀ x ∈ L, x.cells.length = sz) (hrep : ∀ (j : Nat) (x : AV) (y : Value), (L.flatMap AV.cells)[j]? = some x → (us ++ news)[j]? = some y → Rep M noρ x y ∧ y.oneCell' = true) :
    Rel X n M (updρ ρ d ((σ.H d).k + 1) v') (σ.hup d ⟨(σ.H d).k + 1, .buf e sz L⟩) a w' := by
  have hvu := (jc hown0.1).1
  have hvv := (jc hown).1
  have hmine : X.mine v' := mine_next hown0 hown hat h.size
  have hm := aD (u := v') (qV h d)
  have hMn : ∀ g, w.heap.size ≤ g → M g = none := fun g hg => by
    cases hx : M g with
    | none => rfl
    | some arr => exact absurd (h.lt hx) (Nat.not_lt.2 hg)
  have hMv : ∀ g, vblk v' = some g → M g = none := fun g hg' => by
    rw [hvv] at hg'
    rcases hat with h1 | ⟨g1, hg1, h1⟩
    · exact hM g (by rw [hvu, ← h1]; exact hg')
    · rw [hg'] at h1; injection h1 with h1; rw [h1]; exact hMn _ hg1
  have hother : ∀ s', s' ≠ d → (σ.hup d ⟨(σ.H d).k + 1, .buf e sz L⟩).H s' = σ.H s' := fun s' hs => by simp [AS.hup, zV hs]
  have hsame : (σ.hup d ⟨(σ.H d).k + 1, .buf e sz L⟩).H d = ⟨(σ.H d).k + 1, .buf e sz L⟩ := by simp [AS.hup, Nat.beq_refl]
  have hblk : ∀ s', s' ≠ d → zI (updρ ρ d ((σ.H d).k + 1) v') s' (σ.H s') = zI ρ s' (σ.H s') := fun s' hs => by
    unfold zI updρ
    cases (σ.H s').c <;> simp [hs]
  have hblks : zI (updρ ρ d ((σ.H d).k + 1) v') d ⟨(σ.H d).k + 1, .buf e sz L⟩ = vblk v' := by simp [zI, updρ]
  have hkeep : ∀ s' g, zI ρ s' (σ.H s') = some g → w'.heap[g]? = w.heap[g]? := fun s' g hg' => hg.block g (h.blk_lt hg').1 (fun e => hne s' g (by rw [hvu]; exact e.symm) hg')
  have hdiff : ∀ s' g, zI ρ s' (σ.H s') = some g → vblk v' ≠ some g := fun s' g hg' e => by
    rw [hvv] at e
    rcases hat with h1 | ⟨g1, hg1, h1⟩
    · exact hne s' g (by rw [hvu, ← h1]; exact e) hg'
    · rw [e] at h1; injection h1 with h1; have := (h.blk_lt hg').1; omega
  refine ⟨fun g arr hgm => ?_, h.sz, fun i => (h.tm i).mono' (fun _ _ e => e) hm, fun s' k cs' e => ?_, fun s' k e1 sz1 L1 he => ?_, fun s1 s2 g e1 e2 => ?_, fun s' k hk => ?_, h.glob, h.base, fun i g e => hm _ _ _ (h.root i g e), hg.os.trans h.os, hg.tape.trans h.tape, hg.output.trans h.output, Nat.le_trans h.size hg.size, fun g hgl hn => ?_, h.df, fun s' k L1 he => by
    obtain ⟨hs, he'⟩ := nP (by simp) he
    exact (h.mp s' k L1 he').mono hm (fun g hg' => hkeep s' g (h.mp_blk he' hg')) (fun _ _ e => e)⟩
  · obtain ⟨t, fr, hh⟩ := h.live g arr hgm
    refine ⟨t, fr, (hg.block g (h.lt hgm) (fun e => ?_)).trans hh⟩
    rw [hM g (by rw [hvu]; exact e.symm)] at hgm
    cases hgm
  · by_cases hs : s' = d
    · subst hs
      rw [hsame] at e
      injection e with _ e
      cases e
    · rw [hother s' hs] at e
      exact (h.box s' k cs' e).mono (fun _ _ e => e) hm (fun g hg' => hkeep s' g (by rw [e]; simp [zI, hg', vblk])) (fun _ _ e => e)
  · by_cases hs : s' = d
    · subst hs
      rw [hsame] at he
      injection he with e1 e2
      injection e2 with e2 e3 e4
      subst e1; subst e2; subst e3; subst e4
      exact ⟨v', us ++ news, by simp [updρ], ⟨hown, hmine⟩, hMv, hl, hsz, hrep⟩
    · rw [hother s' hs] at he
      exact (h.buf s' k e1 sz1 L1 he).mono (fun _ _ e => e) hm (fun u g hu hg' => hkeep s' g (by rw [he]; simp [zI, hu, hg'])) (fun _ _ _ _ e => e)
  · by_cases h1 : s1 = d
    · by_cases h2 : s2 = d
      · rw [h1, h2]
      · exfalso
        subst h1
        rw [hsame, hblks] at e1
        rw [hother s2 h2, hblk s2 h2] at e2
        exact hdiff s2 g e2 e1
    · by_cases h2 : s2 = d
      · exfalso
        subst h2
        rw [hsame, hblks] at e2
        rw [hother s1 h1, hblk s1 h1] at e1
        exact hdiff s1 g e1 e2
      · rw [hother s1 h1, hblk s1 h1] at e1
        rw [hother s2 h2, hblk s2 h2] at e2
        exact h.sep s1 s2 g e1 e2
  · by_cases hs : s' = d
    · subst hs
      rw [hsame] at hk
      simp only at hk
      unfold updρ
      rw [if_neg (by omega)]
      exact h.fresh s' k (by omega)
    · rw [hother s' hs] at hk
      unfold updρ
      rw [if_neg (fun e => hs e.1)]
      exact h.fresh s' k hk
  · rw [hg.block g (Nat.lt_of_lt_of_le hgl h.size) (fun e => ?_)]
    · exact h.frame g hgl hn
    · rcases hown0.2 g (hvu.trans e.symm) with h1 | h1
      · omega
      · exact hn h1
/-- A list's cells as they lie. -/
theorem mY {sz : Nat} {N : List AV} {u : Value} (hlive : aM M w) (h : Rep M ρ (.sl sz N) u) (hsz : 0 < sz) (ho : ∀ x ∈ N, zn x.cells = true) :
    ∃ (A : Option Addr) (c : Nat) (news : List Value), u = .slice A N.length c ∧ news.length = N.length * sz ∧ (0 < N.length → ∃ ad, A = some ad ∧ ∀ j v, news[j]? = some v → w.cell? (ad.add j) = some v) ∧ (∀ v ∈ news, v.oneCell' = true) ∧ (∀ x ∈ N, x.cells.length = sz) ∧ news.length = (N.flatMap AV.cells).length ∧
      ∀ (j : Nat) (x : AV) (y : Value), (N.flatMap AV.cells)[j]? = some x → news[j]? = some y → Rep M noρ x y ∧ y.oneCell' = true := by
  obtain ⟨A, c, us, rfl, h2, h3, h4, h5⟩ := h.sl_inv
  have hlen : ∀ x ∈ N, x.cells.length = sz := fun x hx => by
    obtain ⟨k, hk⟩ := List.getElem?_of_mem hx
    exact (h5 k x hk).1
  have hnl : ((List.range (N.length * sz)).map fun i => us (i / sz) (i % sz)).length = N.length * sz := by simp
  have hat : ∀ (j : Nat) (v : Value), ((List.range (N.length * sz)).map fun i => us (i / sz) (i % sz))[j]? = some v → j < N.length * sz ∧ v = us (j / sz) (j % sz) := fun j v hj => by
    have hlt := zM hj
    rw [hnl] at hlt
    rw [List.getElem?_map, List.getElem?_range hlt] at hj
    injection hj with hj
    exact ⟨hlt, hj.symm⟩
  have hrep : ∀ (j : Nat) (x : AV) (y : Value), (N.flatMap AV.cells)[j]? = some x → ((List.range (N.length * sz)).map fun i => us (i / sz) (i % sz))[j]? = some y → Rep M noρ x y ∧ y.oneCell' = true := fun j x y hx hy => by
    obtain ⟨k, r, z, e1, e2, rfl, e4⟩ := flat_inv' hlen j x hx
    obtain ⟨_, rfl⟩ := hat _ y hy
    have d1 : (k * sz + r) / sz = k := by rw [Nat.mul_comm, Nat.mul_add_div hsz, Nat.div_eq_of_lt e4]; rfl
    have d2 : (k * sz + r) % sz = r := by rw [Nat.mul_comm, Nat.mul_add_mod, Nat.mod_eq_of_lt e4]
    rw [d1, d2]
    have hr := h4 k z r x e1 e2
    exact ⟨hr, cM hr (yl (ho z (List.mem_of_getElem? e1)) x (List.mem_of_getElem? e2))⟩
  refine ⟨A, c, (List.range (N.length * sz)).map fun i => us (i / sz) (i % sz), rfl, hnl, fun h0 => ?_, fun v hv => ?_, hlen, by rw [hnl, yc hlen], hrep⟩
  · obtain ⟨x, hx⟩ := zB h0
    obtain ⟨_, b, o, arr, hA, hb, hc⟩ := h5 0 x hx
    refine ⟨⟨b, o, none⟩, hA, fun j v hj => ?_⟩
    obtain ⟨hlt, rfl⟩ := hat j v hj
    obtain ⟨t, fr, hh⟩ := hlive b arr hb
    obtain ⟨z, hz⟩ := zB (L := N) (k := j / sz) (Nat.div_lt_of_lt_mul (by rw [Nat.mul_comm]; exact hlt))
    obtain ⟨_, b', o', arr', hA', hb', hc'⟩ := h5 _ z hz
    rw [hA] at hA'
    injection hA' with hA'
    injection hA' with e1 e2
    subst e1; subst e2
    rw [hb] at hb'
    injection hb' with hb'
    subst hb'
    have := hc' (j % sz) (Nat.mod_lt _ hsz)
    rw [Addr.add_mid, cell_of_row w b (o + j) arr t fr hh, ← this]
    congr 1
    rw [Nat.add_assoc, Nat.mul_comm, Nat.div_add_mod]
  · obtain ⟨j, hj⟩ := List.getElem?_of_mem hv
    obtain ⟨x, hx⟩ := zB (L := N.flatMap AV.cells) (k := j) (by rw [yc hlen]; have := zM hj; rw [hnl] at this; exact this)
    exact (hrep j x v hx hj).2
end
section
variable {P : Program} {X : Ctx} {n : Nat} {ops : Array Oper} {os : List Oper} {acc : List Rule} {σ : AS} {K : List Rule → AS → Prop} {gt : List (Nat × AV)} {ty : TypeId} {ps : String} {af : Array Edge} {g : Option (Nat × Bool)}
variable {TB : Tabs} (hTB : TabsOk P TB)
include hTB
theorem fH {t e sz by_ : Nat} {b : Bool} {zs : List Value} (hs : lk TB.sle t = some e) (hz : lk TB.ty e = some (b, sz)) (hzr : lk TB.zer e = some zs) (hby : lk TB.byt e = some by_) (hzl : zs.length = sz) : ∃ i z, P.underlying t = some (.slice e) ∧ P.info? e = some i ∧ i.zero = some z ∧ i.size = sz ∧ i.bytes = by_ ∧ z.cells.size = sz := by
  obtain ⟨i, z, i1, i2, i3⟩ := qE hTB hzr
  obtain ⟨dd, u1, u2, u3⟩ := jX hTB hz
  have u4 := iH hTB.byt hby
  unfold bytOf at u4
  rw [i1] at u3 u4
  injection u3 with u3
  injection u4 with u4
  exact ⟨i, z, yM hTB hs, i1, i2, u3, u4, by rw [← hzl, ← i3]; simp⟩
theorem kC {d : Nat} {t : TypeId} {x y : Operand} {e sz by_ k0 : Nat} {c0 : Cont} {b : Bool} {zs : List Value} {N : List AV} (hs : lk TB.sle t = some e) (hz : lk TB.ty e = some (b, sz)) (hzr : lk TB.zer e = some zs) (hby : lk TB.byt e = some by_) (hzl : zs.length = sz) (hpos : 0 < sz)
    (hx : ev σ x = .v (.slice none 0 0)) (hy : ev σ y = .sl sz N) (hH : σ.H d = ⟨k0, c0⟩) (ho : ∀ x ∈ N, zn x.cells = true) (hb : N.length * by_ ≤ 140737488355328)
    (h : Exec P X n ops os (mkG gt σ [x, y] [d] (some d) (.own d (k0 + 1)) [(d, ⟨k0 + 1, .buf e sz N⟩)] :: acc) ((σ.hup d ⟨k0 + 1, .buf e sz N⟩).put (some d) (.own d (k0 + 1))) K) : Op1 P X n ops gt ⟨some d, .call ⟨.builtin .append, #[x, y], #[t, t]⟩, ty, ps, af, g⟩ os acc σ K := by
  obtain rfl : (σ.H d).k = k0 := by rw [hH]
  refine ⟨⟨mkR σ [x, y] [d] (some d) (.own d ((σ.H d).k + 1)) [(d, ⟨(σ.H d).k + 1, .buf e sz N⟩)], zW rfl fun M ρ τ a w hf hR => ?_, zR _ _ _ _ _ _, h⟩⟩
  have hHd := zo hf (s := d) (by simp)
  obtain ⟨i, z, t1, t2, t3, t4, t5, t6⟩ := fH hTB hs hz hzr hby hzl
  have h1 := zT hR (zP hf (by simp)) hx
  have h2 := hR.ev y
  rw [zP hf (by simp), hy] at h2
  obtain ⟨A, c, news, e1, e2, e3, e4, e5, e6, e7⟩ := mY hR.live h2 hpos ho
  have hmax : N.length ≤ maxLen := by
    obtain ⟨A', c', us', f1, f2, f3, _⟩ := h2.sl_inv
    omega
  have hnil := cG X w e sz
  obtain ⟨v', w', hrun, r1, r2, r3⟩ := jh (P := P) w 0 t ty e i z sz by_ t1 t2 t3 t4 t5 t6 hpos (.slice none 0 0) 0 [] hnil.1 A N.length c news e2 e3 e4 (by omega) (by rw [Nat.zero_add]; exact hb) (Nat.zero_le _)
  rw [Nat.zero_add] at r1
  have hA := hR.appendTo d (L := N) hnil r1 r2 (r3.imp id fun e => ⟨_, Nat.le_refl _, e⟩) (by simp [vblk]) (by simp [vblk]) (by simpa using e6) e5 (by simpa using e7)
  rw [hHd] at hA
  refine ⟨v', w', M, _, ?_, hA, .own _ _ _ _ (by simp [updρ]) (jc r1).2⟩
  unfold execOp
  simp [resolve, invoke, builtin, h1, e1, hrun]
theorem za {d : Nat} {t : TypeId} {x y : Operand} {s k k' e sz by_ k0 : Nat} {c0 : Cont} {b : Bool} {zs : List Value} {L N : List AV} (hs : lk TB.sle t = some e) (hz : lk TB.ty e = some (b, sz)) (hzr : lk TB.zer e = some zs) (hby : lk TB.byt e = some by_) (hzl : zs.length = sz) (hpos : 0 < sz)
    (hx : ev σ x = .own s k) (hHs : σ.H s = ⟨k', .buf e sz L⟩) (hk : k = k') (hy : ev σ y = .sl sz N) (hH : σ.H d = ⟨k0, c0⟩) (ho : ∀ x ∈ N, zn x.cells = true) (hb : (L.length + N.length) * by_ ≤ 140737488355328) (hm : L.length + N.length ≤ 9223372036854775807)
    (h : Exec P X n ops os (mkG gt σ [x, y] [s, d] (some d) (.own d (k0 + 1)) [(s, ⟨k', .dead⟩), (d, ⟨k0 + 1, .buf e sz (L ++ N)⟩)] :: acc) (((σ.hup s ⟨k', .dead⟩).hup d ⟨k0 + 1, .buf e sz (L ++ N)⟩).put (some d) (.own d (k0 + 1))) K) : Op1 P X n ops gt ⟨some d, .call ⟨.builtin .append, #[x, y], #[t, t]⟩, ty, ps, af, g⟩ os acc σ K := by
  obtain rfl : (σ.H d).k = k0 := by rw [hH]
  subst hk
  refine ⟨⟨mkR σ [x, y] [s, d] (some d) (.own d ((σ.H d).k + 1)) [(s, ⟨k, .dead⟩), (d, ⟨(σ.H d).k + 1, .buf e sz (L ++ N)⟩)], zW rfl fun M ρ τ a w hf hR => ?_, zR _ _ _ _ _ _, h⟩⟩
  have hHd := zo hf (s := d) (by simp)
  have hHs' := (zo hf (s := s) (by simp)).trans hHs
  obtain ⟨i, z, t1, t2, t3, t4, t5, t6⟩ := fH hTB hs hz hzr hby hzl
  have h1 := hR.ev x
  rw [zP hf (by simp), hx] at h1
  have h2 := hR.ev y
  rw [zP hf (by simp), hy] at h2
  obtain ⟨A, c, news, e1, e2, e3, e4, e5, e6, e7⟩ := mY hR.live h2 hpos ho
  obtain ⟨u, us, b1, b2, b3, b4, b5, b6⟩ := hR.buf s k e sz L hHs'
  have hu : a.eval x = u := by
    generalize a.eval x = q at h1
    cases h1 with
    | own _ _ _ q o1 o2 => rw [b1] at o1; injection o1 with o1; exact o1.symm
  obtain ⟨v', w', hrun, r1, r2, r3⟩ := jh (P := P) w 0 t ty e i z sz by_ t1 t2 t3 t4 t5 t6 hpos u L.length us b2.1 A N.length c news e2 e3 e4 (by simp only [maxLen]; omega) hb (Nat.zero_le _)
  have hweak : Rel X n M ρ (τ.hup s ⟨k, .dead⟩) a w := hR.weak ⟨fun _ => .inl rfl, fun s' => by
    simp only [AS.hup]
    by_cases hs' : s' = s
    · subst hs'; rw [Nat.beq_refl]; exact ⟨by rw [hHs']; rfl, .inr rfl⟩
    · rw [zV hs']; exact ⟨rfl, .inl rfl⟩⟩
  have hkd : ((τ.hup s ⟨k, .dead⟩).H d).k = (σ.H d).k := by
    simp only [AS.hup]
    by_cases hs' : d = s
    · subst hs'; rw [Nat.beq_refl, ← hHd, hHs']; rfl
    · rw [zV hs']; exact congrArg HC.k hHd
  have hb0 : ∀ g, vblk u = some g → zI ρ s (τ.H s) = some g := fun g hg => by rw [hHs']; simp [zI, b1, hg]
  have hA := hweak.appendTo d (L := L ++ N) b2 (by rw [List.length_append]; exact r1) r2 (r3.imp id fun e => ⟨_, Nat.le_refl _, e⟩) b3 (fun s' g hg hs' => by
      simp only [AS.hup] at hs'
      by_cases he : s' = s
      · subst he; rw [Nat.beq_refl] at hs'; simp [zI] at hs'
      · rw [zV he] at hs'; exact he (hR.sep s' s g hs' (hb0 g hg)))
    (by rw [List.length_append, b4, e6, List.flatMap_append, List.length_append]) (fun x hx => (List.mem_append.1 hx).elim (b5 x) (e5 x)) (fun j x y hx hy => by
      rw [List.flatMap_append, List.getElem?_append] at hx
      rw [List.getElem?_append, b4] at hy
      split at hx
      · rename_i hj; rw [if_pos hj] at hy; exact b6 j x y hx hy
      · rename_i hj; rw [if_neg hj] at hy; exact e7 _ x y hx hy)
  rw [hkd] at hA
  refine ⟨v', w', M, _, ?_, hA, .own _ _ _ _ (by simp [updρ]) (jc r1).2⟩
  unfold execOp
  simp [resolve, invoke, builtin, hu, e1, hrun]
end
section
variable {P : Program} {X : Ctx} {n : Nat} {σ : AS} {TB : Tabs} {fn : Func} {r : AV} {e : Exit} {p ty s k k' m : Nat} {cs c c' : List AV}
theorem sQ (he : e = .normal ∨ e = .ret) (hfn : fn.results = #[.cell p ty]) (hT : σ.T p = .ptr s k 0) (hH : σ.H s = ⟨k, .box cs⟩) (ht : lk TB.ty ty = some (true, m)) (hl : cs.length = m) (hH1 : σ.H (refB + 0) = ⟨k', .box c'⟩) (hk : k' = 0) (hr : r = .ag cs) (hp : js cs = true) (hc : c = c') (hp1 : js c' = true) : RetQ TB fn 1 r [c] e σ := by
  subst hr; subst hc
  refine ret1 he (xs := [.ag cs]) ?_ (zO (jG hp)) hH1 hk (jG hp1)
  rw [hfn]
  exact ⟨.agg p ty s k m cs hT hH ht hl, trivial⟩
end
/-- A slice that is nil reads as the empty list. -/
def ImpA : AV → AV → Prop := fun x y => x = y ∨ (x = .v (.slice none 0 0) ∧ ∃ sz, y = .sl sz [])
theorem ImpA.rep {M : Nat → Option (Array Value)} {ρ : Nat → Nat → Option Value} {x y : AV} {u : Value} (h : ImpA x y) (hx : Rep M ρ x u) : Rep M ρ y u := by
  rcases h with rfl | ⟨rfl, sz, rfl⟩
  · exact hx
  · cases hx; exact .sl _ sz [] none 0 (fun _ _ => undef) (by simp) (by simp) (by simp) (by simp)
theorem ImpA.one {x y : AV} (h : ImpA x y) : x = y ∨ ∃ sz, x = .v (.slice none 0 0) ∧ y = .sl sz [] := by
  rcases h with h | ⟨h, sz, h2⟩
  · exact .inl h
  · exact .inr ⟨sz, h, h2⟩
def ImpL : List AV → List AV → Prop
  | [], [] => True
  | x :: xs, y :: ys => ImpA x y ∧ ImpL xs ys
  | _, _ => False
theorem ImpL.spec : ∀ {cs cs' : List AV}, ImpL cs cs' → cs.length = cs'.length ∧ ∀ (j : Nat) (x y : AV), cs[j]? = some x → cs'[j]? = some y → ImpA x y
  | [], [], _ => ⟨rfl, by simp⟩
  | x :: xs, y :: ys, h => by
    obtain ⟨h1, h2⟩ := ImpL.spec h.2
    refine ⟨by simp [h1], fun j a b ha hb => ?_⟩
    cases j with
    | zero => simp at ha hb; subst ha; subst hb; exact h.1
    | succ j => exact h2 j a b (by simpa using ha) (by simpa using hb)
  | [], y :: ys, h => h.elim
  | x :: xs, [], h => h.elim
section
variable {P : Program} {X : Ctx} {n : Nat} {σ : AS} {Q : Exit → AS → Prop} {c : Code}
end
end Go.Proofs.YtnafokinifbfhaaGreatDoor
namespace Go.Proofs.YtnafokinifbfhaaGreatDoor
open Go Go.RowKit
/-- A value with its outermost form in sight. -/
def vf : AV → Option AV
  | .v x => some (.v x)
  | .ag cs => some (.ag cs)
  | .tu cs => some (.tu cs)
  | .sl sz L => some (.sl sz L)
  | .ptr s k o => some (.ptr s k o)
  | .ep cs => some (.ep cs)
  | .own s k => some (.own s k)
  | .fn f cs => some (.fn f cs)
  | .junk => some .junk
  | .po s k o => some (.po s k o)
  | .os s k sz lo hi => some (.os s k sz lo hi)
  | .bs s k sz len => some (.bs s k sz len)
  | .qp s k o => some (.qp s k o)
theorem qN {y z : AV} (h : vf y = some z) : y = z := by
  cases y <;> (injection h)
def vfsL (σ : AS) : List (Nat × Operand) → Option (List (Nat × AV))
  | [] => some []
  | (i, o) :: r => match vf (ev σ o) with
    | some y => match vfsL σ r with
      | some s => some ((i, y) :: s)
      | none => none
    | none => none
theorem nI {σ : AS} : ∀ {ps : List (Nat × Operand)} {vals : List (Nat × AV)}, vfsL σ ps = some vals → EvL σ ps vals
  | [], vals, h => by injection h with h; subst h; exact .nil
  | (i, o) :: r, vals, h => by
    unfold vfsL at h
    split at h
    · rename_i y hy
      split at h
      · rename_i s hs
        injection h with h
        subst h
        exact .cons y (qN hy) (nI hs)
      · cases h
    · cases h
def binI (k : IntKind) (a b : Int) : BinOp → Option Value
  | .eql => some (.bool (a == b))
  | .neq => some (.bool (a != b))
  | .lss => some (.bool (decide (a < b)))
  | .leq => some (.bool (decide (a ≤ b)))
  | .gtr => some (.bool (decide (a > b)))
  | .geq => some (.bool (decide (a ≥ b)))
  | .add => some (.int k (k.wrap (a + b)))
  | .sub => some (.int k (k.wrap (a - b)))
  | .mul => some (.int k (k.wrap (a * b)))
  | .and => some (.int k (bits .and k a b))
  | .or => some (.int k (bits .or k a b))
  | .andNot => some (.int k (bits .andNot k a b))
  | _ => none
def binS (a b : ByteArray) : BinOp → Option Value
  | .eql => some (.bool (jD a b))
  | .neq => some (.bool (!jD a b))
  | .lss => some (.bool (qM a b))
  | .leq => some (.bool (qM a b || jD a b))
  | .gtr => some (.bool (!(qM a b || jD a b)))
  | .geq => some (.bool (!qM a b))
  | _ => none
section
variable {P : Program} {X : Ctx} {n : Nat} {ops : Array Oper} {os : List Oper} {acc : List Rule} {σ : AS} {K : List Rule → AS → Prop} {gt : List (Nat × AV)} {d : Option Nat} {ty : TypeId} {ps : String} {af : Array Edge} {g : Option (Nat × Bool)} {tx yt : TypeId} {x y : Operand} {TB : Tabs}
theorem yE {z : AV} (hx : vf (ev σ x) = some z) (h : Exec P X n ops os (mkG gt σ [x] [] d z [] :: acc) (σ.put d z) K) : Op1 P X n ops gt ⟨d, .move x, ty, ps, af, g⟩ os acc σ K := x_move z (qN hx) h
theorem zh {z : AV} (hx : vf (ev σ x) = some z) (h : Exec P X n ops os (mkG gt σ [x] [] d z [] :: acc) (σ.put d z) K) : Op1 P X n ops gt ⟨d, .assign x, ty, ps, af, g⟩ os acc σ K := x_assign z (qN hx) h
theorem mP {d : Nat} {e : TypeId} {k0 : Nat} {c0 : Cont} {z : AV} (hy : vf (ev σ x) = some z) (ho : zn z.cells = true) (hH : σ.H d = ⟨k0, c0⟩) (h : Exec P X n ops os (mkG gt σ [x] [d] (some d) (.ptr d (k0 + 1) 0) [(d, ⟨k0 + 1, .box z.cells⟩)] :: acc) ((σ.hup d ⟨k0 + 1, .box z.cells⟩).put (some d) (.ptr d (k0 + 1) 0)) K) :
    Op1 P X n ops gt ⟨some d, .box e x, ty, ps, af, g⟩ os acc σ K := x_box z (qN hy) ho hH h
theorem jn (hTB : TabsOk P TB) {t : TypeId} {s k k' off m : Nat} {b : Bool} {cs xs : List AV} {z : AV} (ht : lk TB.ty t = some (b, m)) (hx : ev σ x = .ptr s k off) (hH : σ.H s = ⟨k', .box cs⟩) (hk : k = k') (hz : vf (ev σ y) = some z) (hxs : z.cells = xs) (hl : xs.length = m) (hm : off + m ≤ cs.length) (ho : zn xs = true)
    (h : Exec P X n ops os (mkG gt σ [x, y] [s] none (.v undef) [(s, ⟨k', .box (putL cs off xs)⟩)] :: acc) (σ.hup s ⟨k', .box (putL cs off xs)⟩) K) : Op1 P X n ops gt ⟨none, .store t x y, ty, ps, af, g⟩ os acc σ K := x_store hTB ht hx hH hk z (qN hz) hxs hl hm ho h
theorem m_fn1 {f : FuncId} {z : AV} (hy : vf (ev σ x) = some z) (h : Exec P X n ops os (mkG gt σ [x] [] d (.fn f [z]) [] :: acc) (σ.put d (.fn f [z])) K) : Op1 P X n ops gt ⟨d, .makeFunc (.func f) #[] #[x], ty, ps, af, g⟩ os acc σ K := xJ z (qN hy) h
theorem yj {c : Operand} {b : Bool} {z : AV} (hc : ev σ c = .v (.bool b)) (hb : b = true) (hz : vf (ev σ x) = some z) (h : Exec P X n ops os (mkG gt σ [c, x, y] [] d z [] :: acc) (σ.put d z) K) : Op1 P X n ops gt ⟨d, .pick c x y, ty, ps, af, g⟩ os acc σ K := x_pick_t z hc hb (qN hz) h
theorem yW {c : Operand} {b : Bool} {z : AV} (hc : ev σ c = .v (.bool b)) (hb : b = false) (hz : vf (ev σ y) = some z) (h : Exec P X n ops os (mkG gt σ [c, x, y] [] d z [] :: acc) (σ.put d z) K) : Op1 P X n ops gt ⟨d, .pick c x y, ty, ps, af, g⟩ os acc σ K := x_pick_f z hc hb (qN hz) h
theorem yI {op : BinOp} {k : IntKind} {a b : Int} {r : Value} (hx : ev σ x = .v (.int k a)) (hy : ev σ y = .v (.int k b)) (hr : binI k a b op = some r) (h : Exec P X n ops os (mkG gt σ [x, y] [] d (.v r) [] :: acc) (σ.put d (.v r)) K) : Op1 P X n ops gt ⟨d, .binOp op tx x y yt, ty, ps, af, g⟩ os acc σ K := by
  cases op <;> first | (injection hr with hr; subst hr; first | exact x_eql hx hy h | exact x_neq hx hy h | exact x_lss hx hy h | exact x_leq hx hy h | exact x_gtr hx hy h | exact x_geq hx hy h | exact x_add hx hy h | exact x_sub hx hy h | exact x_mul hx hy h | exact x_and hx hy h | exact x_or hx hy h | exact x_andNot hx hy h) | cases hr
theorem m_binS {op : BinOp} {a b : ByteArray} {r : Value} (hx : ev σ x = .v (.string a)) (hy : ev σ y = .v (.string b)) (hr : binS a b op = some r) (h : Exec P X n ops os (mkG gt σ [x, y] [] d (.v r) [] :: acc) (σ.put d (.v r)) K) : Op1 P X n ops gt ⟨d, .binOp op tx x y yt, ty, ps, af, g⟩ os acc σ K := by
  cases op <;> first | (injection hr with hr; subst hr; first | exact x_eql_s hx hy h | exact x_neq_s hx hy h | exact x_lss_s hx hy h | exact x_leq_s hx hy h | exact x_gtr_s hx hy h | exact x_geq_s hx hy h) | cases hr
theorem gC (hTB : TabsOk P TB) {t : TypeId} {parts : List (Nat × Operand)} {fs pl : List (Nat × Nat)} {zs : List Value} {vals : List (Nat × AV)} {cs : List AV} (hf : lk TB.fld t = some fs) (hz : lk TB.zer t = some zs) (hp : qw TB fs = some pl) (hv : vfsL σ parts = some vals) (hc : rR pl (zs.map .v) vals = some cs)
    (h : Exec P X n ops os (mkG gt σ (parts.map (·.2)) [] d (.ag cs) [] :: acc) (σ.put d (.ag cs)) K) : Op1 P X n ops gt ⟨d, .build t parts.toArray, ty, ps, af, g⟩ os acc σ K := x_build hTB hf hz hp (nI hv) ⟨cs, hc, h⟩
theorem jM (hTB : TabsOk P TB) {t : TypeId} {e sz len : Nat} {b : Bool} {parts : List (Nat × Operand)} {vals : List (Nat × AV)} {zs : List Value} (hs : lk TB.sle t = some e) (hz : lk TB.ty e = some (b, sz + 1)) (hzr : lk TB.zer e = some zs) (hzl : zs.length = sz + 1) (hlen : parts.length = len) (hpos : 0 < len) (hsm : Nat.ble (len * (sz + 1)) 16777216 = true) (hv : vfsL σ parts = some vals) (hok : kD (sz + 1) 0 vals = true)
    (h : Exec P X n ops os (mkG gt σ (parts.map (·.2)) [] d (.sl (sz + 1) (vals.map (·.2))) [] :: acc) (σ.put d (.sl (sz + 1) (vals.map (·.2)))) K) : Op1 P X n ops gt ⟨d, .buildSlice t len parts.toArray, ty, ps, af, g⟩ os acc σ K := uD hTB hs hz hzr hzl hlen hpos hsm (nI hv) ⟨hok, h⟩
end
end Go.Proofs.YtnafokinifbfhaaGreatDoor
