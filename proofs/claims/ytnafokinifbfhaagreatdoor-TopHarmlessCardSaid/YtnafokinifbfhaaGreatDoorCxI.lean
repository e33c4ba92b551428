/- The executor's operations that make rows, maps and channels, and what is compared; nothing of the program stands here; conditions: tables of types that agree with the program's / The executor's laws for literals, rows that are made or grow, maps and channels; nothing of the program stands here; conditions: tables of types that agree with the program's. -/
import Derived.Test.YtnafokinifbfhaaGreatDoorCxF
import Derived.Test.YtnafokinifbfhaaGreatDoorFdA
import Derived.ArgAppend
import Derived.Conc.SmallLaws
set_option linter.unusedVariables false
set_option linter.unusedSimpArgs false
namespace Go.Proofs.YtnafokinifbfhaaGreatDoor.Cx
open Go Go.RowKit
section
variable {X : Ctx} {n : Nat} {M : Unit} {ρ : Rho} {σ : AS} {a : Act} {w w' : World}
/-- A block that another has made takes a new name. -/
theorem Rel.newAt (h : Rel X n M ρ σ a w) {s g : Nat} (hs : σ.H s = .none) (hg : w.heap.size ≤ g) (hold : ∀ k, k < w.heap.size → w'.heap[k]? = w.heap[k]?) (e1 : w'.os = w.os) (e2 : w'.tape = w.tape) (e3 : w'.output = w.output) (e4 : w.heap.size ≤ w'.heap.size) (co : CO) (z : Nat) (hco : co ≠ .none) (hd : Desc X (upd ρ s (g, 0, z)) w' s co) : Rel X n M (upd ρ s (g, 0, z)) (σ.hup s co) a w' := by
  have hn := h.fresh s hs
  have hm := aW (v := (g, 0, z)) hn
  refine ⟨⟨fun s' => ?_, fun s1 s2 g1 b z b' z' l1 l2 r1 r2 => ?_, fun s' hs' => ?_, fun s' y hy => hm _ _ (h.ext s' y hy), e1.trans h.os, e2.trans h.tape, e3.trans h.output, Nat.le_trans h.size e4, fun k hk => (hold k (Nat.lt_of_lt_of_le hk h.size)).trans (h.frame k hk)⟩, h.sz, fun i => (h.tm i).mono hm, h.df⟩
  · by_cases he : s' = s
    · subst he; rw [ja]; exact hd
    · rw [zr _ _ he]
      have h0 := h.ob s'
      cases hl : (σ.H s').live with
      | true =>
        obtain ⟨g', b, z, r, hlt, _⟩ := h0.blk hl
        exact h0.mono hm (fun g'' b' z' r' => by rw [r] at r'; injection r' with r'; injection r' with r1 r2; subst r1; exact hold _ hlt) (fun g' hg' => hold g' (Nat.lt_of_lt_of_le hg' h.size))
      | false =>
        cases hH : σ.H s' with
        | none => trivial
        | dead => trivial
        | ro cs =>
          rw [hH] at h0
          obtain ⟨h1, t, fr, h2⟩ := h0
          exact ⟨h1, t, fr, (hold s' (Nat.lt_of_lt_of_le h1 h.size)).trans h2⟩
        | _ => rw [hH] at hl; cases hl
  · by_cases e1 : s1 = s
    · by_cases e2 : s2 = s
      · rw [e1, e2]
      · subst e1
        rw [yG] at r1
        injection r1 with r1; injection r1 with r1 _; subst r1
        rw [zr _ _ e2] at l2
        rw [yX _ _ e2] at r2
        obtain ⟨g', b', z', r', hlt, _⟩ := (h.ob s2).blk l2
        rw [r2] at r'; injection r' with r'; injection r' with r1 _; omega
    · by_cases e2 : s2 = s
      · subst e2
        rw [yG] at r2
        injection r2 with r2; injection r2 with r2 _; subst r2
        rw [zr _ _ e1] at l1
        rw [yX _ _ e1] at r1
        obtain ⟨g', b', z', r', hlt, _⟩ := (h.ob s1).blk l1
        rw [r1] at r'; injection r' with r'; injection r' with r1 _; omega
      · rw [zr _ _ e1] at l1
        rw [zr _ _ e2] at l2
        rw [yX _ _ e1] at r1
        rw [yX _ _ e2] at r2
        exact h.sep s1 s2 g1 b z b' z' l1 l2 r1 r2
  · by_cases he : s' = s
    · subst he
      rw [ja] at hs'
      exact absurd hs' hco
    · rw [zr _ _ he] at hs'
      rw [yX _ _ he]
      exact h.fresh s' hs'
/-- What owns a row is a slice of a new block. -/
theorem iO {base e sz m : Nat} {v' : Value} {us : List Value} {ρ : Rho} {cs : List CV} {s : Nat} (h : w'.ownsRow base e sz v' m us) (hm : 0 < m) (hb : X.w0.heap.size ≤ base) (hl : cs.length = us.length)
    (hr : ∀ (ρ' : Rho), (∀ s y, ρ s = some y → ρ' s = some y) → ∀ (j : Nat) (x : CV) (u : Value), cs[j]? = some x → us[j]? = some u → Rep ρ' x u ∧ u.oneCell' = true) (hn : ρ s = none) :
    ∃ g z c, v' = .slice (some ⟨g, 0, none⟩) m c ∧ base ≤ g ∧ m ≤ c ∧ c ≤ maxLen ∧ 0 + c * sz ≤ z ∧ Desc X (upd ρ s (g, 0, z)) w' s (.row cs) := by
  obtain ⟨h1, h2⟩ := h
  rcases h2 with ⟨-, h2⟩ | ⟨g, cap, cur, rfl, q2, q3, q4, q5, q6, q7⟩
  · omega
  obtain ⟨cl⟩ := cur
  have q6' : cl.length = cap * sz := q6
  have q7' : cl.take (m * sz) = us := q7
  have hle : m * sz ≤ cap * sz := Nat.mul_le_mul_right sz q4
  refine ⟨g, cl.length, cap, rfl, q2, q4, q5, by omega, g, 0, cl, e, yG _ _ _, q3, by omega, by omega, fun j x hx => ?_⟩
  obtain ⟨u, hu⟩ := zB (L := us) (k := j) (by have := zM hx; omega)
  obtain ⟨k1, k2⟩ := hr _ (aW (v := (g, 0, cl.length)) hn) j x u hx hu
  refine ⟨u, ?_, k1, k2⟩
  rw [← q7', List.getElem?_take] at hu
  split at hu
  · rw [Nat.zero_add]; exact hu
  · cases hu
end
section
variable {P : Program} {X : Ctx} {n : Nat} {σ : AS} {d : Option Nat} {ty : TypeId} {ps : String} {af : Array Edge} {g : Option (Nat × Bool)}
variable {TB : Tabs} (hTB : TabsOk P TB)
include hTB
theorem dZ {t : TypeId} {x i : Operand} {len e sz : Nat} {kk : IntKind} {z : Int} {cs : List CV} (ht : P.underlying t = some (.array len e)) (hz : lk TB.ty e = some (true, sz)) (hx : ev σ x = .ag cs) (hi : ev σ i = .v (.int kk z)) (h0 : 0 ≤ z ∧ z < (len : Int)) :
    zb P X n ⟨d, .index t x i, ty, ps, af, g⟩ (mkR σ [x, i] [] d (.ag ((cs.drop (z.toNat * sz)).take sz)) []) :=
  yO fun M ρ τ a w he hR => by
    have h1 := hR.ev x
    rw [he x (by simp), hx] at h1
    obtain ⟨vs, e1, e2, e3⟩ := h1.ag_inv
    have h2 := zT hR (he i (by simp)) hi
    refine ⟨.agg ⟨(vs.drop (z.toNat * sz)).take sz⟩, ?_, .ag _ _ (by simp; omega) (fun j y u a b => ?_)⟩
    · have hp : ∀ w, (part e (⟨vs⟩ : Array Value) (z.toNat * sz)).run P w = .ok (.agg ⟨(vs.drop (z.toNat * sz)).take sz⟩) w := fun w => by
        unfold part
        simp only [Sem.run_bind, qH hTB hz w, Result.andThen_ok, if_true, yA hTB hz, Sem.run_pure]
        congr 2
        apply Array.toList_inj.1
        simp only [Array.toList_extract, List.extract_eq_take_drop]
        rw [Nat.add_sub_cancel_left]
      unfold execOp
      simp only [e1, h2, Instr.index, asIntOf, Sem.run_bind, Sem.run_pure, run_underlying ht, Result.andThen_ok, Sem.run_ite, if_pos h0, yA hTB hz, hp]
    · rw [List.getElem?_take] at a b
      split at a
      · rename_i hj
        rw [if_pos hj] at b
        rw [List.getElem?_drop] at a b
        exact e3 _ y u a b
      · cases a
theorem oK {t : TypeId} {x : Operand} {f gl off off' ft : Nat} {b : Bool} {m : Nat} {fs : List (Nat × Nat)} (hx : ev σ x = .v (.pointer (some ⟨gl, off, none⟩))) (hf : lk TB.fld t = some fs) (hf2 : fs[f]? = some (off', ft)) (hm : lk TB.ty ft = some (b, m + 1)) :
    zb P X n ⟨d, .fieldAddr t x f, ty, ps, af, g⟩ (mkR σ [x] [] d (.v (.pointer (some ⟨gl, off + off', none⟩))) []) :=
  yO fun M ρ τ a w he hR => by
    have h1 := zT hR (he x (by simp)) hx
    obtain ⟨gs, u1, u2⟩ := cX hTB hf
    refine ⟨.pointer (some ⟨gl, off + off', none⟩), ?_, .v _⟩
    rw [← u2] at hf2
    simp only [List.getElem?_map, Option.map_eq_some_iff, Array.getElem?_toList, Prod.mk.injEq] at hf2
    obtain ⟨fd, h3, h4, h5⟩ := hf2
    unfold execOp
    simp only [h1, Instr.fieldAt, Sem.run_bind, run_underlying u1, Result.andThen_ok, h3, Instr.sureAddr, Sem.run_pure, fieldPlace]
    rw [h5, yA hTB hm]
    simp only [Result.andThen_ok, Nat.succ_ne_zero, if_false, Sem.run_pure, Nat.add_eq_zero_iff, and_false]
    rw [h4, Addr.add_mid]
theorem rC {t : TypeId} {x : Operand} {gl m : Nat} {vs : List Value} (ht : lk TB.ty t = some (true, m)) (hx : ev σ x = .v (.pointer (some ⟨gl, 0, none⟩))) (hG : σ.H gl = .ro vs) (hm : vs.length = m) :
    zb P X n ⟨d, .load t x, ty, ps, af, g⟩ (mkR σ [x] [gl] d (.ag (vs.map .v)) []) := by
  refine zW rfl fun M ρ τ a w hf hR => ?_
  have hHs := (zo hf (s := gl) (by simp)).trans hG
  have h1 := zT hR (zP hf (by simp)) hx
  have h0 := hR.ob gl
  rw [hHs] at h0
  obtain ⟨_, t', fr, hh⟩ := h0
  obtain ⟨dd, u1, u2, u3⟩ := jX hTB ht
  refine ⟨.agg ⟨vs⟩, w, M, ρ, ?_, hR, .ag _ _ (by simp) (fun j y u a b => ?_)⟩
  · have hr : w.rangeAt gl 0 vs := jb hh fun j u hu => by simpa using hu
    have := run_loadAt_mid (P := P) w gl 0 t vs dd hr u1 u2 (by rw [hm]; exact u3)
    unfold execOp
    simp only [h1, Sem.run_bind, this, Result.andThen_ok]
    rfl
  · rw [List.getElem?_map, b] at a
    injection a with a; subst a; exact .v _
theorem tV {x y : Operand} {tx e yt : TypeId} {s sz off len mc : Nat} {ex : Bool} (ht : lk TB.sle tx = some e) (hx : ev σ x = .sl s sz off len mc ex) (hy : ev σ y = .v (.slice none 0 0)) :
    zb P X n ⟨d, .binOp .eql tx x y yt, ty, ps, af, g⟩ (mkR σ [x, y] [] d (.v (.bool false)) []) :=
  yO fun M ρ τ b w he hR => ⟨.bool false, by
    have h1 := hR.ev x
    rw [he x (by simp), hx] at h1
    obtain ⟨g', b', z', c, e1, e2, e3, e4, e5, e6, e7⟩ := h1.sl_inv
    unfold execOp
    simp only [e2, zT hR (he y (by simp)) hy]
    rw [Sem.run_bind]
    refine (congrArg (fun r => Result.andThen r _) (?_ : _ = Result.ok (Value.bool false) w)).trans rfl
    rw [Sem.run_bind]
    exact (congrArg (fun r => Result.andThen r _) (show (eqGuard .eql tx x y (.slice (some ⟨g', b' + off, none⟩) len c) (.slice none 0 0)).run P w = .ok () w from rfl)).trans (Lib.run_eql_slice_some_nil w _ _ _ (yM hTB ht)), .v _⟩
theorem s_eql_nil {x y : Operand} {tx e yt : TypeId} (ht : lk TB.sle tx = some e) (hx : ev σ x = .v (.slice none 0 0)) (hy : ev σ y = .v (.slice none 0 0)) :
    zb P X n ⟨d, .binOp .eql tx x y yt, ty, ps, af, g⟩ (mkR σ [x, y] [] d (.v (.bool true)) []) :=
  kP hx hy (fun w => by
    rw [Sem.run_bind]
    exact (congrArg (fun r => Result.andThen r _) (show (eqGuard .eql tx x y (.slice none 0 0) (.slice none 0 0)).run P w = .ok () w from rfl)).trans (Lib.run_eql_slice_nil_nil w 0 0 (yM hTB ht)))
end
/-- Structs of whole numbers are compared field by field. -/
def tU (P : Program) (t : TypeId) (n : Nat) : Prop := ∀ (as1 bs : List Int) (x y : Operand) (w : World), as1.length = n → bs.length = n → (do eqGuard .neq t x y (.agg ⟨as1.map (.int .i64)⟩) (.agg ⟨bs.map (.int .i64)⟩); binOp .neq t (.agg ⟨as1.map (.int .i64)⟩) (.agg ⟨bs.map (.int .i64)⟩) : Sem Value).run P w = .ok (.bool (!eqZ as1 bs)) w
theorem lE : ∀ {cs : List CV} {as1 : List Int}, nQ cs = some as1 → cs = as1.map fun z => .v (.int .i64 z)
  | [], as1, h => by injection h with h; subst h; rfl
  | x :: cs, as1, h => by
    unfold nQ at h
    split at h
    · cases ‹x :: cs = []›
    · rename_i z l heq
      injection heq with h1 h2
      subst h1; subst h2
      split at h
      · rename_i zs hz
        injection h with h
        subst h
        rw [lE hz]; rfl
      · cases h
    · cases h
theorem rW {ρ : Rho} {as1 : List Int} {u : Value} (h : Rep ρ (.ag (as1.map fun z => .v (.int .i64 z))) u) : u = .agg ⟨as1.map (.int .i64)⟩ := by
  obtain ⟨vs, rfl, h1, h2⟩ := h.ag_inv
  have : vs = as1.map (.int .i64) := by
    refine List.ext_getElem? fun j => ?_
    rw [List.getElem?_map]
    cases hj : as1[j]? with
    | none =>
      have : as1.length ≤ j := by simpa using hj
      exact List.getElem?_eq_none (by simp at h1; omega)
    | some x =>
      obtain ⟨y, hy⟩ := zB (L := vs) (k := j) (by have := zM hj; simp at h1; omega)
      have h3 := h2 j (.v (.int .i64 x)) y (by rw [List.getElem?_map, hj]; rfl) hy
      rw [hy, h3.v_inv]; rfl
  rw [this]
section
variable {P : Program} {X : Ctx} {n : Nat} {σ : AS} {d : Option Nat} {ty : TypeId} {ps : String} {af : Array Edge} {g : Option (Nat × Bool)}
theorem s_neq_ag {x y : Operand} {tx yt : TypeId} {m : Nat} {cs ds : List CV} {as1 bs : List Int} (hF : tU P tx m) (hx : ev σ x = .ag cs) (hy : ev σ y = .ag ds) (ha : nQ cs = some as1) (hb : nQ ds = some bs) (h1 : as1.length = m) (h2 : bs.length = m) :
    zb P X n ⟨d, .binOp .neq tx x y yt, ty, ps, af, g⟩ (mkR σ [x, y] [] d (.v (.bool (!eqZ as1 bs))) []) :=
  yO fun M ρ τ a w he hR => ⟨.bool (!eqZ as1 bs), by
    have e1 := hR.ev x
    rw [he x (by simp), hx, lE ha] at e1
    have e2 := hR.ev y
    rw [he y (by simp), hy, lE hb] at e2
    unfold execOp
    simp only [rW e1, rW e2]
    rw [Sem.run_bind, hF as1 bs x y w h1 h2]; rfl, .v _⟩
end
end Go.Proofs.YtnafokinifbfhaaGreatDoor.Cx
namespace Go.Proofs.YtnafokinifbfhaaGreatDoor.Cx
open Go Go.RowKit
theorem putL_zero {α : Type} : ∀ (xs : List α) (c : α) (l : List α), putL (c :: l) 0 xs = match xs with | [] => c :: l | y :: ys => y :: putL l 0 ys
  | [], c, l => rfl
  | y :: ys, c, l => by
    have key : ∀ (zs : List α) (c : α) (l : List α) (o : Nat), putL (c :: l) (o + 1) zs = c :: putL l o zs := by
      intro zs
      induction zs with
      | nil => intro c l o; rfl
      | cons z zs ih => intro c l o; rw [putL, putL, List.set_cons_succ, ih]
    show putL ((c :: l).set 0 y) (0 + 1) ys = _
    rw [List.set_cons_zero, key]
theorem sB {α : Type} : ∀ (zs : List α) (c : α) (l : List α) (o : Nat), putL (c :: l) (o + 1) zs = c :: putL l o zs
  | [], c, l, o => rfl
  | z :: zs, c, l, o => by rw [putL, putL, List.set_cons_succ, sB zs]
theorem lA {β : Type} : ∀ (cs : List CV) (o m : Nat) (e : β) (K : List CV → β), 0 < m → subK cs o m e K = if o + m ≤ cs.length then K ((cs.drop o).take m) else e
  | [], o, m, e, K, hm => by
    obtain ⟨m, rfl⟩ : ∃ k, m = k + 1 := ⟨m - 1, by omega⟩
    rw [if_neg (by simp)]; rfl
  | c :: l, 0, m, e, K, hm => by
    obtain ⟨m, rfl⟩ : ∃ k, m = k + 1 := ⟨m - 1, by omega⟩
    show subK l 0 m e (fun l => K (c :: l)) = _
    by_cases h0 : m = 0
    · subst h0
      rw [if_pos (by simp)]
      cases l <;> rfl
    · rw [lA l 0 m e _ (by omega)]
      by_cases h : 0 + m ≤ l.length
      · rw [if_pos h, if_pos (by simp; omega)]; simp
      · rw [if_neg h, if_neg (by simp; omega)]
  | c :: l, o + 1, m, e, K, hm => by
    show subK l o m e K = _
    rw [lA l o m e K hm]
    by_cases h : o + m ≤ l.length
    · rw [if_pos h, if_pos (by simp; omega)]; simp
    · rw [if_neg h, if_neg (by simp; omega)]
theorem lP {β : Type} : ∀ (cs : List CV) (o : Nat) (e : β) (K : List CV → β), subK cs o 0 e K = K []
  | [], o, e, K => rfl
  | c :: l, 0, e, K => rfl
  | c :: l, o + 1, e, K => lP l o e K
theorem vW {β : Type} : ∀ (cs : List CV) (o : Nat) (e : β) (K : List CV → β), putK cs o [] e K = K cs
  | [], o, e, K => rfl
  | c :: l, 0, e, K => rfl
  | c :: l, o + 1, e, K => vW l o e fun l => K (c :: l)
theorem bX {β : Type} : ∀ (cs : List CV) (o : Nat) (xs : List CV) (e : β) (K : List CV → β), 0 < xs.length → putK cs o xs e K = if o + xs.length ≤ cs.length then K (putL cs o xs) else e
  | [], o, xs, e, K, hm => by
    cases xs with
    | nil => simp at hm
    | cons y ys => rw [if_neg (by simp)]; rfl
  | c :: l, 0, xs, e, K, hm => by
    cases xs with
    | nil => simp at hm
    | cons y ys =>
      show putK l 0 ys e (fun l => K (y :: l)) = _
      rw [putL_zero]
      by_cases h0 : ys = []
      · subst h0
        rw [vW, if_pos (by simp)]; rfl
      · rw [bX l 0 ys e _ (List.length_pos_iff.2 h0)]
        by_cases h : 0 + ys.length ≤ l.length
        · rw [if_pos h, if_pos (by simp; omega)]
        · rw [if_neg h, if_neg (by simp; omega)]
  | c :: l, o + 1, xs, e, K, hm => by
    show putK l o xs e (fun l => K (c :: l)) = _
    rw [bX l o xs e _ hm, sB]
    by_cases h : o + xs.length ≤ l.length
    · rw [if_pos h, if_pos (by simp; omega)]
    · rw [if_neg h, if_neg (by simp; omega)]
theorem fM {β : Type} : ∀ (cs : List CV) (o : Nat) (e : β) (K : CV → β), getK cs o e K = match cs[o]? with | some y => K y | none => e
  | [], o, e, K => rfl
  | c :: l, 0, e, K => rfl
  | c :: l, o + 1, e, K => by
    show getK l o e K = _
    rw [fM l o e K]; rfl
theorem tX {β : Type} {T : Tr CV} : ∀ (xs : List Operand) (K : List CV → β), evL xs T K = K (xs.map fun o => eT o T)
  | [], K => rfl
  | x :: xs, K => by
    show evL xs T (fun l => K (eT x T :: l)) = _
    rw [tX xs]; rfl
theorem evP_eq {β : Type} {T : Tr CV} : ∀ (ps : List (Nat × Operand)) (K : List (Nat × CV) → β), evP ps T K = K (ps.map fun p => (p.1, eT p.2 T))
  | [], K => rfl
  | p :: ps, K => by
    show evP ps T (fun l => K ((p.1, eT p.2 T) :: l)) = _
    rw [evP_eq ps]; rfl
theorem repL_put {ρ : Rho} {cs xs : List CV} {us vs : List Value} (o : Nat) (hl : us.length = cs.length) (hv : vs.length = xs.length) (h1 : ∀ (j : Nat) (x : CV) (u : Value), cs[j]? = some x → us[j]? = some u → Rep ρ x u) (h2 : ∀ (j : Nat) (x : CV) (u : Value), xs[j]? = some x → vs[j]? = some u → Rep ρ x u) :
    ∀ (j : Nat) (x : CV) (u : Value), (putL cs o xs)[j]? = some x → (putL us o vs)[j]? = some u → Rep ρ x u := eL (R := fun x u => Rep ρ x u) xs cs vs us o hl hv h1 h2
/-- Places of a literal, filled. -/
theorem sS {ρ : Rho} {nx : Nat} {pl : List (Nat × Nat)} {f : Nat → Option (Nat × Nat)} (hf : ∀ i p, pl[i]? = some p → f i = some p) : ∀ (vals : List (Nat × CV)) (cs : List CV) (r : Res) (us : List Value) (vs : List (Nat × Value)), fillK pl nx vals cs = r → r ≠ .no → us.length = cs.length →
    (∀ (j : Nat) (x : CV) (u : Value), cs[j]? = some x → us[j]? = some u → Rep ρ x u) → vs.length = vals.length → (∀ (j : Nat) (p : Nat × CV) (q : Nat × Value), vals[j]? = some p → vs[j]? = some q → q.1 = p.1 ∧ Rep ρ p.2 q.2) →
    ∃ cs' us', r = .val (.ag cs') [] [] nx ∧ Instr.fill f ⟨us⟩ vs = some ⟨us'⟩ ∧ us'.length = cs'.length ∧ ∀ (j : Nat) (x : CV) (u : Value), cs'[j]? = some x → us'[j]? = some u → Rep ρ x u
  | [], cs, r, us, vs, h, hn, hl, hr, hv, hp => by
    obtain rfl : vs = [] := List.eq_nil_of_length_eq_zero (by simpa using hv)
    exact ⟨cs, us, h.symm, rfl, hl, hr⟩
  | (i, x) :: vals, cs, r, us, [], h, hn, hl, hr, hv, hp => by simp at hv
  | (i, x) :: vals, cs, r, us, (i', u) :: vs, h, hn, hl, hr, hv, hp => by
    obtain ⟨e1, e2⟩ := hp 0 _ _ rfl rfl
    simp only at e1 e2
    subst e1
    unfold fillK at h
    cases hpl : pl[i']? with
    | none => rw [hpl] at h; exact absurd h.symm hn
    | some q =>
      obtain ⟨off, sz⟩ := q
      rw [hpl] at h
      simp only at h
      cases hb : (Nat.blt 0 sz && (Nat.beq x.cells.length sz && zn x.cells)) with
      | false => rw [hb] at h; exact absurd h.symm hn
      | true =>
        rw [hb] at h
        simp only [Bool.and_eq_true] at hb
        have b0 : 0 < sz := Nat.le_of_ble_eq_true hb.1
        have b1 := Nat.eq_of_beq_eq_true hb.2.1
        obtain ⟨c1, c2, c3⟩ := yx e2 hb.2.2
        simp only [cond_true] at h
        rw [bX _ _ _ _ _ (by omega)] at h
        by_cases hle : off + x.cells.length ≤ cs.length
        · rw [if_pos hle] at h
          rw [lZ (off := off) (sz := sz) (hf _ _ hpl) (by omega) (by omega)]
          exact sS hf vals _ r _ vs h hn (by rw [zm, zm, hl]) (repL_put _ hl c1 hr c2) (by simpa using hv) (fun j p q a b => hp (j + 1) p q (by simpa using a) (by simpa using b))
        · rw [if_neg hle] at h
          exact absurd h.symm hn
section
variable {P : Program} {X : Ctx} {n : Nat} {σ : AS} {d : Option Nat} {ty : TypeId} {ps : String} {af : Array Edge} {g : Option (Nat × Bool)}
theorem aE {M : Unit} {ρ : Rho} {τ : AS} {a : Act} {w : World} (hR : Rel X n M ρ τ a w) {parts : List (Nat × Operand)} (he : ∀ x ∈ parts.map (·.2), ev τ x = ev σ x) :
    (parts.map fun p => (p.1, a.eval p.2)).length = (parts.map fun p => (p.1, ev σ p.2)).length ∧ ∀ (j : Nat) (p : Nat × CV) (q : Nat × Value), (parts.map fun p => (p.1, ev σ p.2))[j]? = some p → (parts.map fun p => (p.1, a.eval p.2))[j]? = some q → q.1 = p.1 ∧ Rep ρ p.2 q.2 := by
  refine ⟨by simp, fun j p q hp hq => ?_⟩
  rw [List.getElem?_map] at hp hq
  cases ho : parts[j]? with
  | none => rw [ho] at hp; cases hp
  | some o =>
    rw [ho] at hp hq
    injection hp with hp; injection hq with hq
    subst hp; subst hq
    refine ⟨rfl, ?_⟩
    have := hR.ev o.2
    rwa [he o.2 (List.mem_map_of_mem (List.mem_of_getElem? ho))] at this
omit P in
theorem sD {pl : List (Nat × Nat)} {nx : Nat} : ∀ (vals : List (Nat × CV)) (cs : List CV), fillK pl nx vals cs = .no ∨ ∃ cs', fillK pl nx vals cs = .val (.ag cs') [] [] nx
  | [], cs => .inr ⟨cs, rfl⟩
  | (i, x) :: vals, cs => by
    unfold fillK
    split
    · cases hb : (Nat.blt 0 _ && (Nat.beq x.cells.length _ && zn x.cells)) with
      | false => exact .inl rfl
      | true =>
        simp only [cond_true]
        simp only [Bool.and_eq_true] at hb
        have b0 := Nat.le_of_ble_eq_true hb.1
        have b1 := Nat.eq_of_beq_eq_true hb.2.1
        rw [bX _ _ _ _ _ (by omega)]
        split
        · exact sD vals _
        · exact .inl rfl
    · exact .inl rfl
/-- A literal: what is filled is what is built. -/
theorem vY {t : TypeId} {parts : Array (Nat × Operand)} {pl : List (Nat × Nat)} {f : Nat → Option (Nat × Nat)} {zs : List Value} {nx : Nat} {r : Res} (hf : ∀ i p, pl[i]? = some p → f i = some p) (hb : ∀ (vs : List (Nat × Value)) (us' : List Value), Instr.fill f ⟨zs⟩ vs = some ⟨us'⟩ → P.built t vs = some ⟨us'⟩)
    (hr : fillK pl nx (parts.toList.map fun p => (p.1, ev σ p.2)) (zs.map .v) = r) (hn : r ≠ .no) : ∃ cs, r = .val (.ag cs) [] [] nx ∧ zb P X n ⟨d, .build t parts, ty, ps, af, g⟩ (mkR σ (parts.toList.map (·.2)) [] d (.ag cs) []) := by
  obtain ⟨cs, hcs⟩ : ∃ cs, r = .val (.ag cs) [] [] nx := by
    rcases sD (parts.toList.map fun p => (p.1, ev σ p.2)) (zs.map .v) with h | ⟨cs, h⟩
    · exact absurd (hr.symm.trans h) hn
    · exact ⟨cs, hr.symm.trans h⟩
  refine ⟨cs, hcs, yO fun M ρ τ a w he hR => ?_⟩
  obtain ⟨p1, p2⟩ := aE hR he
  obtain ⟨cs', us', h0, h1, h2, h3⟩ := sS (ρ := ρ) hf _ _ r zs _ hr hn (by simp) (fun j x u a b => by
    rw [List.getElem?_map, b] at a
    injection a with a
    subst a
    exact .v _) p1 p2
  rw [hcs] at h0
  injection h0 with h0
  injection h0 with h0
  subst h0
  refine ⟨.agg ⟨us'⟩, ?_, .ag _ _ h2 h3⟩
  have := run_build (P := P) w t (parts.map fun (x : Nat × Operand) => (x.1, a.eval x.2)) _ (hb _ _ (by rw [Array.toList_map]; exact h1))
  unfold execOp
  simp only [Sem.run_bind]
  rw [this]; rfl
variable {TB : Tabs} (hTB : TabsOk P TB)
include hTB
theorem s_build {t : TypeId} {parts : Array (Nat × Operand)} {fs pl : List (Nat × Nat)} {zs : List Value} {nx : Nat} {r : Res} (hf : lk TB.fld t = some fs) (hz : lk TB.zer t = some zs) (hp : qw TB fs = some pl) (hr : fillK pl nx (parts.toList.map fun p => (p.1, ev σ p.2)) (zs.map .v) = r) (hn : r ≠ .no) :
    ∃ cs, r = .val (.ag cs) [] [] nx ∧ zb P X n ⟨d, .build t parts, ty, ps, af, g⟩ (mkR σ (parts.toList.map (·.2)) [] d (.ag cs) []) := by
  obtain ⟨i, z, i1, i2, rfl⟩ := qE hTB hz
  obtain ⟨gs, u1, u2⟩ := cX hTB hf
  rw [← u2] at hp
  have hmp := eI hTB hp
  refine vY (pl := pl) (f := fun i => pl.toArray[i]?) (fun i p h => by simpa using h) (fun vs us' h => ?_) hr hn
  unfold Program.built
  rw [i1, u1]
  simp only [i2, hmp]
  exact h
omit hTB in
theorem rY {sz : Nat} : ∀ (m i0 i : Nat) (p : Nat × Nat), (kV sz m i0)[i]? = some p → p = ((i0 + i) * sz, sz)
  | 0, i0, i, p, h => by simp [kV] at h
  | m + 1, i0, 0, p, h => by simp [kV] at h; rw [← h]; rfl
  | m + 1, i0, i + 1, p, h => by
    have := rY m (i0 + 1) i p (by simpa [kV] using h)
    rw [this]; congr 2; omega
theorem xH {t : TypeId} {parts : Array (Nat × Operand)} {len e sz : Nat} {b : Bool} {zs : List Value} {nx : Nat} {r : Res} (ht : P.underlying t = some (.array len e)) (he : lk TB.ty e = some (b, sz)) (hz : lk TB.zer t = some zs) (hr : fillK (kV sz len 0) nx (parts.toList.map fun p => (p.1, ev σ p.2)) (zs.map .v) = r) (hn : r ≠ .no) :
    ∃ cs, r = .val (.ag cs) [] [] nx ∧ zb P X n ⟨d, .build t parts, ty, ps, af, g⟩ (mkR σ (parts.toList.map (·.2)) [] d (.ag cs) []) := by
  obtain ⟨i, z, i1, i2, rfl⟩ := qE hTB hz
  obtain ⟨dd, u1, u2, u3⟩ := jX hTB he
  refine vY (pl := kV sz len 0) (f := fun i => some (i * sz, sz)) (fun i p h => by rw [rY _ _ _ _ h, Nat.zero_add]) (fun vs us' h => ?_) hr hn
  unfold Program.built
  rw [i1, ht]
  cases hi : P.info? e with
  | none => rw [hi] at u3; cases u3
  | some ie =>
    rw [hi] at u3
    injection u3 with u3
    have u4 : ie.size = sz := u3
    simp only [i2, hi, u4]
    exact h
end
end Go.Proofs.YtnafokinifbfhaaGreatDoor.Cx
