/- Strings of bytes, and ends with a struct and a value behind a reference, in the abstract machine; conditions: none. | Arrays in the abstract machine: a cell's address by an index, a cell by an index, whole arrays; conditions: tables of types that agree with the program's. -/
import Derived.Test.YtamihjgfncjdoaaGreatDoorAbsU
import Derived.Laws.BytesArg
import Derived.Laws.IdiomStrings
set_option linter.unusedVariables false
set_option linter.unusedSimpArgs false
namespace Go.Proofs.YtamihjgfncjdoaaGreatDoor
open Go Go.RowKit
section
variable {P : Program} {X : Ctx} {n : Nat} {ops : Array Oper} {os : List Oper} {acc : List Rule} {σ : AS} {K : List Rule → AS → Prop} {gt : List (Nat × AV)} {d : Option Nat} {ty : TypeId} {ps : String} {af : Array Edge} {g : Option (Nat × Bool)}
/-- The numbers of a list of bytes. -/
def bytesL : List AV → Option (List Int)
  | [] => some []
  | .v (.int .u8 b) :: l => match bytesL l with
    | some r => some (b :: r)
    | none => none
  | _ => none
theorem bytesL_map : ∀ {N : List AV} {zs : List Int}, bytesL N = some zs → N = zs.map fun b => .v (.int .u8 b)
  | [], zs, h => by injection h with h; subst h; rfl
  | x :: l, zs, h => by
    unfold bytesL at h
    split at h
    · rename_i heq; cases heq
    · rename_i b l' heq
      injection heq with h1 h2
      subst h1; subst h2
      cases hl : bytesL l with
      | none => rw [hl] at h; cases h
      | some r => rw [hl] at h; injection h with h; subst h; rw [bytesL_map hl]; rfl
    · cases h
theorem x_conv_bytes {src dst e : TypeId} {x : Operand} {N : List AV} {zs : List Int} (hs : P.underlying src = some (.slice e)) (he : P.underlying e = some (.int .u8)) (hd : P.underlying dst = some .string) (hx : ev σ x = .sl 1 N) (hb : bytesL N = some zs) (hpos : 0 < zs.length)
    (h : Exec P X n ops os (mkG gt σ [x] [] d (.v (.string (strOfNums zs))) [] :: acc) (σ.put d (.v (.string (strOfNums zs)))) K) : Op1 P X n ops gt ⟨d, .convert src dst x, ty, ps, af, g⟩ os acc σ K :=
  x_pure (fun M ρ τ a w he' hR => by
    have h1 := hR.ev x
    rw [he' x (by simp), hx] at h1
    obtain ⟨A, c, us, e1, e2, e2', e3, e4⟩ := h1.sl_inv
    have hN := bytesL_map hb
    have hNl : N.length = zs.length := by rw [hN]; simp
    obtain ⟨y0, hy0⟩ := some_at (L := N) (k := 0) (by omega)
    obtain ⟨f1, b, o, arr, rfl, f3, f4⟩ := e4 0 y0 hy0
    obtain ⟨t, fr, hh⟩ := hR.live b arr f3
    refine ⟨_, ?_, .v _ _⟩
    have hr := run_convert_bytes_arg (P := P) w src e hs he b o N.length c zs hNl.symm (fun i hi => by
      obtain ⟨z, hz⟩ := some_at (L := zs) (k := i) (by omega)
      have hNi : N[i]? = some (.v (.int .u8 z)) := by rw [hN, List.getElem?_map, hz]; rfl
      obtain ⟨_, b', o', arr', hA, g3, g4⟩ := e4 i _ hNi
      injection hA with hA
      injection hA with ha hb
      subst ha; subst hb
      rw [f3] at g3
      injection g3 with g3
      subst g3
      have := g4 0 (by omega)
      rw [Nat.mul_one, Nat.add_zero] at this
      rw [cell_of_row w b (o + i) arr t fr hh, this]
      have h5 := (e3 i _ 0 (.v (.int .u8 z)) hNi rfl).v_inv
      rw [h5, List.getD_eq_getElem?_getD, hz]; rfl) dst hd
    unfold execOp
    simp only [e1, Sem.run_bind, hr]
    rfl) h
end
theorem ret1_ct {TB : Tabs} {σ : AS} {fn : Func} {r : AV} {e : Exit} {p ty t s k m k2 : Nat} {cs c c' : List AV} {z : AV} (he : e = .normal ∨ e = .ret) (hfn : fn.results = #[.cell p ty, .tmp t]) (hT : σ.T p = .ptr s k 0) (hH : σ.H s = ⟨k, .box cs⟩) (ht : lk TB.ty ty = some (true, m)) (hl : cs.length = m) (hT2 : vf (σ.T t) = some z) (hH1 : σ.H (refB + 0) = ⟨k2, .box c'⟩) (hk : k2 = 0) (hr : Ren (bufs σ) (frameπ 1 []) r (.tu [.ag cs, z])) (hc : RenL (bufs σ) (frameπ 1 []) c c') : RetQ TB fn 1 r [c] e σ := by
  refine ret1 he (xs := [.ag cs, σ.T t]) ?_ (by rw [vf_eq hT2]; exact hr) hH1 hk hc
  rw [hfn]
  exact ⟨.agg p ty s k m cs hT hH ht hl, .tmp t, trivial⟩
end Go.Proofs.YtamihjgfncjdoaaGreatDoor
namespace Go.Proofs.YtamihjgfncjdoaaGreatDoor
open Go Go.RowKit
section
variable {P : Program} {X : Ctx} {n : Nat} {ops : Array Oper} {os : List Oper} {acc : List Rule} {σ : AS} {K : List Rule → AS → Prop} {gt : List (Nat × AV)} {ty : TypeId} {ps : String} {af : Array Edge} {g : Option (Nat × Bool)} {d : Option Nat}
variable {TB : Tabs} (hTB : TabsOk P TB)
include hTB
theorem x_index_arr {t : TypeId} {x i : Operand} {len e : Nat} {kk : IntKind} {z : Int} {cs : List AV} {y : AV} (ht : P.underlying t = some (.array len e)) (hz : lk TB.ty e = some (false, 1)) (hx : ev σ x = .ag cs) (hi : ev σ i = .v (.int kk z)) (h0 : 0 ≤ z ∧ z < (len : Int)) (hl : cs.length = len) (hy : cs[z.toNat]? = some y)
    (h : Exec P X n ops os (mkG gt σ [x, i] [] d y [] :: acc) (σ.put d y) K) : Op1 P X n ops gt ⟨d, .index t x i, ty, ps, af, g⟩ os acc σ K :=
  x_pure (fun M ρ τ a w he hR => by
    have h1 := hR.ev x
    rw [he x (by simp), hx] at h1
    obtain ⟨vs, e1, e2, e3⟩ := h1.ag_inv
    have h2 := eval_v hR (he i (by simp)) hi
    obtain ⟨u, hu⟩ := some_at (L := vs) (k := z.toNat) (by rw [e2]; exact lt_at hy)
    refine ⟨u, ?_, e3 _ y u hy hu⟩
    obtain ⟨dd, u1, u2, u3⟩ := tab_ty hTB hz
    have hp : ∀ w, (part e (⟨vs⟩ : Array Value) (z.toNat * 1)).run P w = .ok u w := fun w => by
      have hg : (⟨vs⟩ : Array Value)[z.toNat]? = some u := by simpa using hu
      have ha := run_agg hTB hz w
      unfold part
      simp [Sem.run_bind, ha, Result.andThen_ok, hg]
    unfold execOp
    simp only [e1, h2, Instr.index, asIntOf, Sem.run_bind, Sem.run_pure, run_underlying ht, Result.andThen_ok, Sem.run_ite, if_pos h0, run_size hTB hz, hp]) h
end
theorem hc_box {a b : List AV} (h : a = b) : Cont.box a = .box b := by rw [h]
theorem hc_buf {e sz : Nat} {a b : List AV} (h : a = b) : Cont.buf e sz a = .buf e sz b := by rw [h]
/-- A part of a string. -/
theorem run_sliceAt_str {P : Program} {t : TypeId} {s : ByteArray} {lo hi : Option Value} {l h : Nat} (ht : P.underlying t = some .string) (h1 : l ≤ h) (h2 : h ≤ s.size)
    (hl : (lo = none ∧ l = 0) ∨ ∃ k, lo = some (.int k (l : Int))) (hh : (hi = none ∧ h = s.size) ∨ ∃ k, hi = some (.int k (h : Int))) (w : World) :
    (Instr.sliceAt t (.string s) lo hi none).run P w = .ok (.string (s.extract l h)) w := by
  unfold Instr.sliceAt Instr.slice Instr.sliceBounds
  rcases hl with ⟨rfl, rfl⟩ | ⟨k, rfl⟩ <;> rcases hh with ⟨rfl, rfl⟩ | ⟨k', rfl⟩
  · simp [run_underlying ht]
  · simp [run_underlying ht, run_sliceBound w k' (h : Int) s.size .sliceAlen (by omega) (by omega)]
  · simp [run_underlying ht, run_sliceBound w k (l : Int) s.size .sliceB (by omega) (by omega)]
  · simp [run_underlying ht, run_sliceBound w k' (h : Int) s.size .sliceAlen (by omega) (by omega), run_sliceBound w k (l : Int) h .sliceB (by omega) (by omega)]
section
variable {P : Program} {X : Ctx} {n : Nat} {ops : Array Oper} {os : List Oper} {acc : List Rule} {σ : AS} {K : List Rule → AS → Prop} {gt : List (Nat × AV)} {d : Option Nat} {ty : TypeId} {ps : String} {af : Array Edge} {g : Option (Nat × Bool)}
theorem x_sliceS {t : TypeId} {x : Operand} {lo hi : Option Operand} {s : ByteArray} {l h : Int} (ht : P.underlying t = some .string) (hx : ev σ x = .v (.string s)) (hlo : loOf σ lo = some l) (hhi : hiOf σ s.size hi = some h) (hb : 0 ≤ l ∧ l ≤ h ∧ h ≤ s.size)
    (hK : Exec P X n ops os (mkG gt σ (x :: (lo.toList ++ hi.toList)) [] d (.v (.string (s.extract l.toNat h.toNat))) [] :: acc) (σ.put d (.v (.string (s.extract l.toNat h.toNat)))) K) : Op1 P X n ops gt ⟨d, .slice t x lo hi none, ty, ps, af, g⟩ os acc σ K :=
  x_pure (fun M ρ τ a w he hR => by
    obtain ⟨b1, b2, b3⟩ := hb
    have el : (l.toNat : Int) = l := Int.toNat_of_nonneg b1
    have eh : (h.toNat : Int) = h := Int.toNat_of_nonneg (by omega)
    have hl : ((lo.map a.eval) = none ∧ l.toNat = 0) ∨ ∃ k, lo.map a.eval = some (.int k (l.toNat : Int)) := by
      cases lo with
      | none => injection hlo with hlo; subst hlo; exact .inl ⟨rfl, rfl⟩
      | some o =>
        obtain ⟨k, hk⟩ := loOf_some hlo
        exact .inr ⟨k, by rw [Option.map_some, eval_v hR (he o (by simp)) hk, el]⟩
    have hh : ((hi.map a.eval) = none ∧ h.toNat = s.size) ∨ ∃ k, hi.map a.eval = some (.int k (h.toNat : Int)) := by
      cases hi with
      | none => injection hhi with hhi; subst hhi; exact .inl ⟨rfl, by omega⟩
      | some o =>
        obtain ⟨k, hk⟩ := hiOf_some hhi
        exact .inr ⟨k, by rw [Option.map_some, eval_v hR (he o (by simp)) hk, eh]⟩
    have hr := run_sliceAt_str (P := P) (s := s) ht (show l.toNat ≤ h.toNat by omega) (show h.toNat ≤ s.size by omega) hl hh w
    refine ⟨_, ?_, .v _ _⟩
    unfold execOp
    simp only [eval_v hR (he x (by simp)) hx, Option.map_none, Sem.run_bind, hr]
    rfl) hK
theorem x_neg {k : IntKind} {a : Int} {x : Operand} {tx : TypeId} (hx : ev σ x = .v (.int k a)) (h : Exec P X n ops os (mkG gt σ [x] [] d (.v (.int k (k.wrap (0 - a)))) [] :: acc) (σ.put d (.v (.int k (k.wrap (0 - a))))) K) : Op1 P X n ops gt ⟨d, .unOp .neg tx x, ty, ps, af, g⟩ os acc σ K :=
  x_un hx (fun w => rfl) h
/-- An array's literal. -/
theorem m_build_arr {TB : Tabs} (hTB : TabsOk P TB) {t len e sz : Nat} {b : Bool} {parts : List (Nat × Operand)} {zs : List Value} {vals : List (Nat × AV)} {cs : List AV} (ht : P.underlying t = some (.array len e)) (he : lk TB.ty e = some (b, sz)) (hz : lk TB.zer t = some zs) (hv : vfsL σ parts = some vals) (hc : afill ((List.range len).map fun i => (i * sz, sz)) (zs.map .v) vals = some cs)
    (h : Exec P X n ops os (mkG gt σ (parts.map (·.2)) [] d (.ag cs) [] :: acc) (σ.put d (.ag cs)) K) : Op1 P X n ops gt ⟨d, .build t parts.toArray, ty, ps, af, g⟩ os acc σ K := by
  have hv := vfsL_eq hv
  refine x_pure (xs := parts.map (·.2)) (fun M ρ τ a w he' hR => ?_) h
  obtain ⟨i, z, i1, i2, rfl⟩ := tab_zer hTB hz
  obtain ⟨dd, u1, u2, u3⟩ := tab_ty hTB he
  obtain ⟨p1, p2⟩ := parts_rep hR he' hv
  obtain ⟨us', h1, h2, h3⟩ := afill_rep (M := M) (ρ := ρ) (f := fun i => some (i * sz, sz)) (fun i p h => by
    rw [List.getElem?_map] at h
    cases hr : (List.range len)[i]? with
    | none => rw [hr] at h; cases h
    | some r =>
      rw [hr] at h
      injection h with h
      obtain ⟨hlt, e⟩ := List.getElem?_eq_some_iff.1 hr
      rw [List.getElem_range] at e
      subst e
      rw [← h]) vals (z.cells.toList.map .v) cs z.cells.toList (parts.map fun p => (p.1, a.eval p.2)) hc (by simp) (fun j x u a b => by
    rw [List.getElem?_map, b] at a
    injection a with a
    subst a
    exact .v _ _) p1 p2
  refine ⟨.agg ⟨us'⟩, ?_, .ag _ _ _ h2 h3⟩
  have hb : P.built t (parts.toArray.map fun (x : Nat × Operand) => (x.1, a.eval x.2)).toList = some ⟨us'⟩ := by
    unfold Program.built
    rw [i1, ht]
    cases hi : P.info? e with
    | none => rw [hi] at u3; cases u3
    | some ie =>
      rw [hi] at u3
      injection u3 with u3
      have u4 : ie.size = sz := u3
      simp only [i2, hi]
      rw [Array.toList_map, u4]
      exact h1
  have := run_build (P := P) w t _ _ hb
  unfold execOp
  simp only [Sem.run_bind]
  rw [this]; rfl
end
section
variable {X : Ctx} {n : Nat} {M : Nat → Option (Array Value)} {ρ : Nat → Nat → Option Value} {σ : AS} {a : Act} {w : World}
theorem Rel.storeObC (h : Rel X n M ρ σ a w) {s k g off : Nat} {v : Value} {vs : List Value} {o o' : AO} (hH : σ.H s = ⟨k, .ob o⟩) (hg : ρ s k = some v) (hvb : vblk v = some g) (hb : X.w0.heap.size ≤ g) (hx : ObIn ρ (w.setCells g off vs) v g o') :
    Rel X n M ρ (σ.hup s ⟨k, .ob o'⟩) a (w.setCells g off vs) := by
  have hb0 := h.mp_blk hH (g := g) (by rw [hg]; exact hvb)
  have hMg : M g = none := (h.blk_lt hb0).2
  obtain ⟨e1, e2, e3, e4⟩ := same_setCells (g := g) vs off w
  have hother : ∀ s', s' ≠ s → (σ.hup s ⟨k, .ob o'⟩).H s' = σ.H s' := fun s' hs => by simp [AS.hup, beq_ne hs]
  have hsame : (σ.hup s ⟨k, .ob o'⟩).H s = ⟨k, .ob o'⟩ := by simp [AS.hup, Nat.beq_refl]
  have hblk : ∀ s', blkOf ρ s' ((σ.hup s ⟨k, .ob o'⟩).H s') = blkOf ρ s' (σ.H s') := fun s' => by
    by_cases hs : s' = s
    · subst hs; rw [hsame, hH]; simp [blkOf]
    · rw [hother s' hs]
  have hfar : ∀ s' g', s' ≠ s → blkOf ρ s' (σ.H s') = some g' → g' ≠ g := fun s' g' hs hg' e => hs (h.sep s' s g' hg' (by rw [hb0, e]))
  refine ⟨fun g' arr hg' => ?_, h.sz, h.tm, fun s' k' cs' e => ?_, fun s' k' e' sz' L1 he => ?_, fun s1 s2 g' a1 a2 => h.sep s1 s2 g' (by rw [← hblk]; exact a1) (by rw [← hblk]; exact a2), fun s' k' hk => ?_, h.glob, h.base, h.root, e1.trans h.os, e2.trans h.tape, e3.trans h.output, by rw [e4]; exact h.size, fun g' hgl hn => ?_, h.df, fun s' k' L1 e => ?_⟩
  · obtain ⟨t', fr, h1⟩ := h.live g' arr hg'
    exact ⟨t', fr, (far_setCells (by rintro rfl; rw [hMg] at hg'; cases hg') vs off w).trans h1⟩
  · by_cases hs : s' = s
    · subst hs
      rw [hsame] at e
      injection e with _ e
      cases e
    · rw [hother s' hs] at e
      exact (h.box s' k' cs' e).mono (fun _ _ e => e) (fun _ _ _ e => e) (fun g' hg' => far_setCells (hfar s' g' hs (by rw [e]; simp [blkOf, hg', vblk])) vs off w) (fun _ _ e => e)
  · by_cases hs : s' = s
    · subst hs
      rw [hsame] at he
      injection he with _ he
      cases he
    · rw [hother s' hs] at he
      exact (h.buf s' k' e' sz' L1 he).mono (fun _ _ e => e) (fun _ _ _ e => e) (fun u g' hu hg' => far_setCells (hfar s' g' hs (by rw [he]; simp [blkOf, hu, hg'])) vs off w) (fun _ _ _ _ e => e)
  · by_cases hs : s' = s
    · subst hs
      rw [hsame] at hk
      exact h.fresh s' k' (by rw [hH]; exact hk)
    · rw [hother s' hs] at hk
      exact h.fresh s' k' hk
  · exact (far_setCells (by rintro rfl; omega) vs off w).trans (h.frame g' hgl hn)
  · by_cases hs : s' = s
    · subst hs
      rw [hsame] at e
      injection e with e1 e2
      injection e2 with e2
      subst e1; subst e2
      exact ⟨v, g, hMg, hg, hvb, hb, hx⟩
    · rw [hother s' hs] at e
      exact (h.mp s' k' L1 e).mono (fun _ _ _ e => e) (fun g' hg' => far_setCells (hfar s' g' hs (h.mp_blk e hg')) vs off w) (fun _ _ e => e)
/-- What the handle of a row of bytes means. -/
theorem Rel.by_at (h : Rel X n M ρ σ a w) {s k : Nat} {L : List Int} (hH : σ.H s = ⟨k, .ob (.by_ L)⟩) : ∃ g cap cur t fz, ρ s k = some (.slice (some ⟨g, 0, none⟩) L.length cap) ∧ w.heap[g]? = some (.cells ⟨cur⟩ t fz) ∧ L.length ≤ cap ∧ cur.length = cap ∧ (fz = (0, 0) ∨ cap ≤ fz.1) ∧ (∀ (j : Nat) (z : Int), L[j]? = some z → cur[j]? = some (.int .u8 z)) ∧ X.w0.heap.size ≤ g := by
  obtain ⟨v, g, -, h1, h2, h3, cap, cur, t, fz, rfl, h5, h6, h7, h8, h9⟩ := h.mp s k _ hH
  exact ⟨g, cap, cur, t, fz, h1, h5, h6, h7, h8, h9, h3⟩
/-- The bytes of a string, as numbers. -/
def numsS (s : ByteArray) : List Int := s.data.toList.map fun c => (c.toNat : Int)
theorem numsS_len (s : ByteArray) : (numsS s).length = s.size := by
  unfold numsS
  rw [List.length_map]
  rfl
theorem bytesRow_list (s : ByteArray) (c : Nat) : bytesRow s c = ⟨(numsS s).map (fun z => Value.int .u8 z) ++ List.replicate (c - s.size) (.int .u8 0)⟩ := by
  apply Array.toList_inj.1
  unfold bytesRow numsS
  rw [Array.toList_append, Array.toList_map, List.map_map, Array.toList_replicate]
  rfl
end
section
variable {P : Program} {X : Ctx} {n : Nat} {ops : Array Oper} {os : List Oper} {acc : List Rule} {σ : AS} {K : List Rule → AS → Prop} {gt : List (Nat × AV)} {ty : TypeId} {ps : String} {af : Array Edge} {g : Option (Nat × Bool)}
theorem x_conv_by {src dst e : TypeId} {x : Operand} {s : ByteArray} {d k0 : Nat} {q0 : Cont} (hs : P.underlying src = some .string) (hd : P.underlying dst = some (.slice e)) (he : P.underlying e = some (.int .u8)) (hx : ev σ x = .v (.string s)) (hH0 : σ.H d = ⟨k0, q0⟩)
    (h : Exec P X n ops os (mkG gt σ [x] [d] (some d) (.own d (k0 + 1)) [(d, ⟨k0 + 1, .ob (.by_ (numsS s))⟩)] :: acc) ((σ.hup d ⟨k0 + 1, .ob (.by_ (numsS s))⟩).put (some d) (.own d (k0 + 1))) K) : Op1 P X n ops gt ⟨some d, .convert src dst x, ty, ps, af, g⟩ os acc σ K := by
  obtain rfl : (σ.H d).k = k0 := by rw [hH0]
  refine ⟨⟨mkR σ [x] [d] (some d) (.own d ((σ.H d).k + 1)) [(d, ⟨(σ.H d).k + 1, .ob (.by_ (numsS s))⟩)], rule_val rfl fun M ρ τ a w hf hR => ?_, mkR_fires _ _ _ _ _ _, h⟩⟩
  have hH' := mkR_H hf (s := d) (by simp)
  have hxe := eval_v hR (mkR_ev hf (by simp)) hx
  have hdr : Rel X n M ρ τ a w.drew := ⟨hR.live, hR.sz, hR.tm, hR.box, hR.buf, hR.sep, hR.fresh, hR.glob, hR.base, hR.root, hR.os, hR.tape, hR.output, hR.size, hR.frame, hR.df, hR.mp⟩
  have hlen := numsS_len s
  have hcap : s.size ≤ grownCap w s.size 0 e := grownCap_ge w s.size 0 e
  have hrow := bytesRow_list s (grownCap w s.size 0 e)
  have hN := hdr.newOb d (v := .slice (some ⟨w.heap.size, 0, none⟩) s.size (grownCap w s.size 0 e)) (x := .cells (bytesRow s (grownCap w s.size 0 e)) e ((bytesRow s (grownCap w s.size 0 e)).size, (bytesRow s (grownCap w s.size 0 e)).size + 1)) (ob := .by_ (numsS s)) rfl fun ρ' _ => by
    refine ⟨grownCap w s.size 0 e, _, e, _, by rw [hlen]; rfl, (heap_alloc_new w.drew _).trans (by rw [hrow]), by rw [hlen]; exact hcap, by rw [List.length_append, List.length_map, List.length_replicate, hlen]; omega, .inr ?_, fun j z hj => ?_⟩
    · show _ ≤ (List.map _ _ ++ List.replicate _ _).length
      rw [List.length_append, List.length_map, List.length_replicate, hlen]; omega
    · rw [List.getElem?_append_left (by rw [List.length_map]; exact lt_at hj), List.getElem?_map, hj]; rfl
  refine ⟨.slice (some ⟨w.heap.size, 0, none⟩) s.size (grownCap w s.size 0 e), _, M, _, ?_, by rw [← hH']; exact hN, .own _ _ _ _ (by rw [← hH']; simp [updρ]) rfl⟩
  unfold execOp
  simp only [hxe, Sem.run_bind, run_bytes_of_string w src dst e s hs hd he]
  rfl
variable {TB : Tabs} (hTB : TabsOk P TB)
include hTB
theorem x_len_by {t : TypeId} {d : Option Nat} {x : Operand} {s k k' e : Nat} {L : List Int} (hs : lk TB.sle t = some e) (hx : ev σ x = .own s k) (hH : σ.H s = ⟨k', .ob (.by_ L)⟩) (hk : k = k')
    (h : Exec P X n ops os (mkG gt σ [x] [s] d (.v (.int .i64 L.length)) [] :: acc) (σ.put d (.v (.int .i64 L.length))) K) : Op1 P X n ops gt ⟨d, .call ⟨.builtin .len, #[x], #[t]⟩, ty, ps, af, g⟩ os acc σ K := by
  refine ⟨⟨mkR σ [x] [s] d (.v (.int .i64 L.length)) [], rule_val rfl fun M ρ τ a w hf hR => ?_, mkR_fires _ _ _ _ _ _, h⟩⟩
  subst hk
  have hHs := (mkR_H hf (s := s) (by simp)).trans hH
  have h1 := hR.ev x
  rw [mkR_ev hf (by simp), hx] at h1
  obtain ⟨g, cap, cur, t', fz, b1, -⟩ := hR.by_at hHs
  have e1 := h1.own_inv
  rw [b1] at e1
  injection e1 with e1
  refine ⟨goInt L.length, w, M, ρ, ?_, hR, .v _ _⟩
  unfold execOp
  simp [resolve, invoke, builtin, ← e1, Builtin.len_, run_underlying (tab_sle hTB hs)]
theorem x_indexAddr_by {t : TypeId} {d : Option Nat} {x i : Operand} {s k k' e : Nat} {b : Bool} {L : List Int} {kk : IntKind} {z : Int} (hs : lk TB.sle t = some e) (hz : lk TB.ty e = some (b, 1)) (hx : ev σ x = .own s k) (hH : σ.H s = ⟨k', .ob (.by_ L)⟩) (hk : k = k') (hi : ev σ i = .v (.int kk z)) (h0 : 0 ≤ z ∧ z < (L.length : Int))
    (h : Exec P X n ops os (mkG gt σ [x, i] [s] d (.po s k z.toNat) [] :: acc) (σ.put d (.po s k z.toNat)) K) : Op1 P X n ops gt ⟨d, .indexAddr t x i, ty, ps, af, g⟩ os acc σ K := by
  refine ⟨⟨mkR σ [x, i] [s] d (.po s k z.toNat) [], rule_val rfl fun M ρ τ a w hf hR => ?_, mkR_fires _ _ _ _ _ _, h⟩⟩
  subst hk
  have hHs := (mkR_H hf (s := s) (by simp)).trans hH
  have h1 := hR.ev x
  rw [mkR_ev hf (by simp), hx] at h1
  have h2 := eval_v hR (mkR_ev hf (by simp)) hi
  obtain ⟨g, cap, cur, t', fz, b1, -⟩ := hR.by_at hHs
  have e1 := h1.own_inv
  rw [b1] at e1
  injection e1 with e1
  refine ⟨.pointer (some ⟨g, z.toNat * 1, none⟩), w, M, ρ, ?_, hR, ?_⟩
  · unfold execOp
    simp only [← e1, h2, Instr.indexAt, asIntOf, Sem.run_bind, Sem.run_pure, run_underlying (tab_sle hTB hs), Result.andThen_ok, Sem.run_ite, if_pos h0, run_size hTB hz, Addr.add_mid, Nat.zero_add]
  · rw [Nat.mul_one]; exact .po _ s k _ g _ cap b1
theorem x_store_by {t : TypeId} {x y : Operand} {s k k' off : Nat} {b : Bool} {L : List Int} {z : Int} (ht : lk TB.ty t = some (b, 1)) (hx : ev σ x = .po s k off) (hH : σ.H s = ⟨k', .ob (.by_ L)⟩) (hk : k = k') (hz : ev σ y = .v (.int .u8 z)) (ho : off < L.length)
    (h : Exec P X n ops os (mkG gt σ [x, y] [s] none (.v undef) [(s, ⟨k', .ob (.by_ (L.set off z))⟩)] :: acc) (σ.hup s ⟨k', .ob (.by_ (L.set off z))⟩) K) : Op1 P X n ops gt ⟨none, .store t x y, ty, ps, af, g⟩ os acc σ K := by
  refine ⟨⟨mkR σ [x, y] [s] none (.v undef) [(s, ⟨k', .ob (.by_ (L.set off z))⟩)], rule_unit rfl rfl fun M ρ τ a w hf hR => ?_, mkR_fires _ _ _ _ _ _, h⟩⟩
  subst hk
  have hHs := (mkR_H hf (s := s) (by simp)).trans hH
  have h1 := hR.ev x
  rw [mkR_ev hf (by simp), hx] at h1
  obtain ⟨g, l, c, e1, e2⟩ := h1.po_inv
  have h2 := eval_v hR (mkR_ev hf (by simp)) hz
  obtain ⟨dd, u1, u2, u3⟩ := tab_ty hTB ht
  obtain ⟨g', cap, cur, t', fz, b1, b2, b3, b4, b5, b6, b7⟩ := hR.by_at hHs
  rw [e1] at b1
  injection b1 with b1
  injection b1 with ba bl bc
  injection ba with ba
  injection ba with ba
  subst ba; subst bl; subst bc
  have hth : w.there g off 1 := fun j hj => by
    obtain rfl : j = 0 := by omega
    refine ⟨?_, ?_⟩
    · rw [cell_of_row w g (off + 0) ⟨cur⟩ t' fz b2]
      simp
      omega
    · rcases b5 with rfl | b5
      · simp [World.frozen?, b2]
      · simp [World.frozen?, b2]
        omega
  have hset : (w.setCells g off [.int .u8 z]).heap[g]? = some (.cells ⟨cur.set off (.int .u8 z)⟩ t' fz) := by
    simp [World.setCells, World.setCell, Array.getElem?_modify, b2]
  refine ⟨_, M, ρ, ?_, hR.storeObC (off := off) (vs := [.int .u8 z]) hHs e1 rfl b7 ⟨c, cur.set off (.int .u8 z), t', fz, by rw [List.length_set], hset, by rw [List.length_set]; exact b3, by rw [List.length_set]; exact b4, b5, fun j y hj => ?_⟩⟩
  · have := runVar_store (P := P) (w := w) (b := g) (o := off) (ty := t) (v := .int .u8 z) hth u3 (fun q hq => by
      simp [Value.cells] at hq
      subst hq
      rfl)
    unfold execOp
    simp only [e2, h2, Sem.run_bind, this, Result.andThen_ok]
    rfl
  · by_cases hjo : off = j
    · subst hjo
      rw [List.getElem?_set_self (by omega)] at hj
      injection hj with hj
      subst hj
      rw [List.getElem?_set_self (by omega)]
    · rw [List.getElem?_set_ne hjo] at hj ⊢
      exact b6 j y hj
omit hTB in
theorem x_conv_ybs {d : Option Nat} {src dst e : TypeId} {x : Operand} {s k k' : Nat} {L : List Int} (hs : P.underlying src = some (.slice e)) (he : P.underlying e = some (.int .u8)) (hd : P.underlying dst = some .string) (hx : ev σ x = .own s k) (hH : σ.H s = ⟨k', .ob (.by_ L)⟩) (hk : k = k')
    (h : Exec P X n ops os (mkG gt σ [x] [s] d (.v (.string (strOfNums L))) [] :: acc) (σ.put d (.v (.string (strOfNums L)))) K) : Op1 P X n ops gt ⟨d, .convert src dst x, ty, ps, af, g⟩ os acc σ K := by
  refine ⟨⟨mkR σ [x] [s] d (.v (.string (strOfNums L))) [], rule_val rfl fun M ρ τ a w hf hR => ?_, mkR_fires _ _ _ _ _ _, h⟩⟩
  subst hk
  have hHs := (mkR_H hf (s := s) (by simp)).trans hH
  have h1 := hR.ev x
  rw [mkR_ev hf (by simp), hx] at h1
  obtain ⟨g, cap, cur, t', fz, b1, b2, b3, b4, b5, b6, b7⟩ := hR.by_at hHs
  have e1 := h1.own_inv
  rw [b1] at e1
  injection e1 with e1
  refine ⟨.string (strOfNums L), w, M, ρ, ?_, hR, .v _ _⟩
  have hr := run_convert_bytes_arg (P := P) w src e hs he g 0 L.length cap L rfl (fun i hi => by
    obtain ⟨z, hz⟩ := some_at (L := L) (k := i) (by omega)
    rw [cell_of_row w g (0 + i) ⟨cur⟩ t' fz b2]
    have := b6 i z hz
    rw [List.getD_eq_getElem?_getD, hz]
    simpa using this) dst hd
  unfold execOp
  simp only [← e1, Sem.run_bind, hr]
  rfl
end
end Go.Proofs.YtamihjgfncjdoaaGreatDoor
