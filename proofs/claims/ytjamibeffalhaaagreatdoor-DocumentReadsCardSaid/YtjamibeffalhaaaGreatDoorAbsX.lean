/- A callee that gives back a new map of its own; conditions: none / Strings of bytes, and ends with a struct and a value behind a reference, in the abstract machine; conditions: none. | Arrays in the abstract machine: a cell's address by an index, a cell by an index, whole arrays; conditions: tables of types that agree with the program's. -/
import Derived.Test.YtjamibeffalhaaaGreatDoorAbsU
import Derived.Laws.BytesArg
import Derived.Laws.IdiomStrings
set_option linter.unusedVariables false
set_option linter.unusedSimpArgs false
namespace Go.Proofs.YtjamibeffalhaaaGreatDoor
open Go Go.RowKit
section
variable {X : Ctx} {n : Nat} {M : Nat → Option (Array Value)} {ρ : Nat → Nat → Option Value} {σ : AS} {a : Act} {w : World}
end
section
variable {P : Program} {TB : Tabs} {G : Nat → Option (List Value)} {f : FuncId} {args : List AV} {L : List (Value × Value)}
end
section
variable {P : Program} {X : Ctx} {n : Nat} {ops : Array Oper} {os : List Oper} {acc : List Rule} {σ : AS} {K : List Rule → AS → Prop} {gt : List (Nat × AV)} {ty : TypeId} {ps : String} {af : Array Edge} {g : Option (Nat × Bool)}
end
/-- A call whose contract is known elsewhere: numbers, strings and truth values go in and come out. -/
theorem sD {P : Program} {G : Nat → Option (List Value)} {f : FuncId} {vs : List Value} {r : Value} {y : AV} (he : cX P f) (hy : ∀ M ρ, Rep M ρ y r) (h : ∀ w, (∀ g us, G g = some us → ∃ t fr, w.heap[g]? = some (.cells ⟨us⟩ t fr)) → Calls P f ⟨vs⟩ w (fun e w' => e = .returned r ∧ Below w.heap.size w w')) :
    zz P G f (vs.map .v) [] y [] := by
  refine ⟨he, fun M w gs us hl hG hnd hr hv hrep => ?_⟩
  have hgs : gs = [] := List.eq_nil_of_length_eq_zero hr.len
  subst hgs
  have hus : us = vs := by
    apply List.ext_getElem?
    intro j
    rw [List.length_map] at hv
    cases hj : us[j]? with
    | none =>
      rw [List.getElem?_eq_none_iff] at hj
      exact (List.getElem?_eq_none (by omega)).symm
    | some u =>
      obtain ⟨x, hx⟩ := zd (L := vs) (k := j) (by have := yO hj; omega)
      have := hrep j (.v x) u (by rw [List.getElem?_map, hx]; rfl) hj
      rw [hx, this.v_inv]
  subst hus
  refine (h w fun g u e => ?_).mono ?_
  · exact hl g _ (hG g u e)
  · rintro en w' ⟨rfl, hb⟩
    exact ⟨r, M, [], rfl, fun _ _ e => e, fun g arr e => by
      obtain ⟨t, fr, h1⟩ := hl g arr e
      exact ⟨t, fr, (hb.block g (Array.getElem?_eq_some_iff.1 h1).1).trans h1⟩, hb.os, hb.tape, hb.output, hb.size, fun g hg _ => hb.block g hg, fun g _ e => e, by simp, by simp, ⟨rfl, by simp⟩, hy _ _⟩
end Go.Proofs.YtjamibeffalhaaaGreatDoor
namespace Go.Proofs.YtjamibeffalhaaaGreatDoor
open Go Go.RowKit
section
variable {P : Program} {X : Ctx} {n : Nat} {ops : Array Oper} {os : List Oper} {acc : List Rule} {σ : AS} {K : List Rule → AS → Prop} {gt : List (Nat × AV)} {d : Option Nat} {ty : TypeId} {ps : String} {af : Array Edge} {g : Option (Nat × Bool)}
/-- The numbers of a list of bytes. -/
def iS : List AV → Option (List Int)
  | [] => some []
  | .v (.int .u8 b) :: l => match iS l with
    | some r => some (b :: r)
    | none => none
  | _ => none
theorem iL : ∀ {N : List AV} {zs : List Int}, iS N = some zs → N = zs.map fun b => .v (.int .u8 b)
  | [], zs, h => by injection h with h; subst h; rfl
  | x :: l, zs, h => by
    unfold iS at h
    split at h
    · rename_i heq; cases heq
    · rename_i b l' heq
      injection heq with h1 h2
      subst h1; subst h2
      cases hl : iS l with
      | none => rw [hl] at h; cases h
      | some r => rw [hl] at h; injection h with h; subst h; rw [iL hl]; rfl
    · cases h
theorem bO {src dst e : TypeId} {x : Operand} {N : List AV} {zs : List Int} (hs : P.underlying src = some (.slice e)) (he : P.underlying e = some (.int .u8)) (hd : P.underlying dst = some .string) (hx : ev σ x = .sl 1 N) (hb : iS N = some zs) (hpos : 0 < zs.length)
    (h : Exec P X n ops os (mkG gt σ [x] [] d (.v (.string (strOfNums zs))) [] :: acc) (σ.put d (.v (.string (strOfNums zs)))) K) : Op1 P X n ops gt ⟨d, .convert src dst x, ty, ps, af, g⟩ os acc σ K :=
  jV (fun M ρ τ a w he' hR => by
    have h1 := hR.ev x
    rw [he' x (by simp), hx] at h1
    obtain ⟨A, c, us, e1, e2, e2', e3, e4⟩ := h1.sl_inv
    have hN := iL hb
    have hNl : N.length = zs.length := by rw [hN]; simp
    obtain ⟨y0, hy0⟩ := zd (L := N) (k := 0) (by omega)
    obtain ⟨f1, b, o, arr, rfl, f3, f4⟩ := e4 0 y0 hy0
    obtain ⟨t, fr, hh⟩ := hR.live b arr f3
    refine ⟨_, ?_, .v _ _⟩
    have hr := run_convert_bytes_arg (P := P) w src e hs he b o N.length c zs hNl.symm (fun i hi => by
      obtain ⟨z, hz⟩ := zd (L := zs) (k := i) (by omega)
      have hNi : N[i]? = some (.v (.int .u8 z)) := by rw [hN, List.getElem?_map, hz]; rfl
      obtain ⟨_, b', o', arr', hA, g3, g4⟩ := e4 i _ hNi
      injection hA with hA
      injection hA with ha hb
      subst ha; subst hb
      rw [f3] at g3
      injection g3 with g3
      subst g3
      have := g4 0 (by omega)
      rw [Nat.mul_one, Nat.add_zero] at this
      rw [cell_of_row w b (o + i) arr t fr hh, this]
      have h5 := (e3 i _ 0 (.v (.int .u8 z)) hNi rfl).v_inv
      rw [h5, List.getD_eq_getElem?_getD, hz]; rfl) dst hd
    unfold execOp
    simp only [e1, Sem.run_bind, hr]
    rfl) h
end
theorem fQ {TB : Tabs} {σ : AS} {fn : Func} {r : AV} {e : Exit} {p ty t s k m k2 : Nat} {cs c c' : List AV} {z : AV} (he : e = .normal ∨ e = .ret) (hfn : fn.results = #[.cell p ty, .tmp t]) (hT : σ.T p = .ptr s k 0) (hH : σ.H s = ⟨k, .box cs⟩) (ht : lk TB.ty ty = some (true, m)) (hl : cs.length = m) (hT2 : vf (σ.T t) = some z) (hH1 : σ.H (refB + 0) = ⟨k2, .box c'⟩) (hk : k2 = 0) (hr : Ren (bufs σ) (jK 1 []) r (.tu [.ag cs, z])) (hc : RenL (bufs σ) (jK 1 []) c c') : RetQ TB fn 1 r [c] e σ := by
  refine ret1 he (xs := [.ag cs, σ.T t]) ?_ (by rw [qp hT2]; exact hr) hH1 hk hc
  rw [hfn]
  exact ⟨.agg p ty s k m cs hT hH ht hl, .tmp t, trivial⟩
end Go.Proofs.YtjamibeffalhaaaGreatDoor
namespace Go.Proofs.YtjamibeffalhaaaGreatDoor
open Go Go.RowKit
section
variable {P : Program} {X : Ctx} {n : Nat} {ops : Array Oper} {os : List Oper} {acc : List Rule} {σ : AS} {K : List Rule → AS → Prop} {gt : List (Nat × AV)} {ty : TypeId} {ps : String} {af : Array Edge} {g : Option (Nat × Bool)} {d : Option Nat}
variable {TB : Tabs} (hTB : TabsOk P TB)
include hTB
theorem yK {t : TypeId} {x i : Operand} {s k off len sz e : Nat} {b : Bool} {kk : IntKind} {z : Int} (ht : P.underlying t = some (.array len e)) (hz : lk TB.ty e = some (b, sz)) (hx : ev σ x = .ptr s k off) (hi : ev σ i = .v (.int kk z)) (h0 : 0 ≤ z ∧ z < (len : Int))
    (h : Exec P X n ops os (mkG gt σ [x, i] [] d (.ptr s k (off + z.toNat * sz)) [] :: acc) (σ.put d (.ptr s k (off + z.toNat * sz))) K) : Op1 P X n ops gt ⟨d, .indexAddr t x i, ty, ps, af, g⟩ os acc σ K :=
  jV (fun M ρ τ a w he hR => by
    have h1 := hR.ev x
    rw [he x (by simp), hx] at h1
    obtain ⟨g', e1, e2⟩ := h1.ptr_inv
    have h2 := jO hR (he i (by simp)) hi
    refine ⟨.pointer (some ⟨g', off + z.toNat * sz, none⟩), ?_, .ptr _ s k _ g' e1⟩
    unfold execOp
    simp only [e2, h2, Instr.indexAt, asIntOf, Instr.sureAddr, Sem.run_bind, Sem.run_pure, run_underlying ht, Result.andThen_ok, Sem.run_ite, if_pos h0, aP hTB hz, Addr.add_mid]) h
end
theorem jr {e sz : Nat} {a b : List AV} (h : a = b) : Cont.buf e sz a = .buf e sz b := by rw [h]
/-- A part of a string. -/
theorem iB {P : Program} {t : TypeId} {s : ByteArray} {lo hi : Option Value} {l h : Nat} (ht : P.underlying t = some .string) (h1 : l ≤ h) (h2 : h ≤ s.size)
    (hl : (lo = none ∧ l = 0) ∨ ∃ k, lo = some (.int k (l : Int))) (hh : (hi = none ∧ h = s.size) ∨ ∃ k, hi = some (.int k (h : Int))) (w : World) :
    (Instr.sliceAt t (.string s) lo hi none).run P w = .ok (.string (s.extract l h)) w := by
  unfold Instr.sliceAt Instr.slice Instr.sliceBounds
  rcases hl with ⟨rfl, rfl⟩ | ⟨k, rfl⟩ <;> rcases hh with ⟨rfl, rfl⟩ | ⟨k', rfl⟩
  · simp [run_underlying ht]
  · simp [run_underlying ht, run_sliceBound w k' (h : Int) s.size .sliceAlen (by omega) (by omega)]
  · simp [run_underlying ht, run_sliceBound w k (l : Int) s.size .sliceB (by omega) (by omega)]
  · simp [run_underlying ht, run_sliceBound w k' (h : Int) s.size .sliceAlen (by omega) (by omega), run_sliceBound w k (l : Int) h .sliceB (by omega) (by omega)]
section
variable {P : Program} {X : Ctx} {n : Nat} {ops : Array Oper} {os : List Oper} {acc : List Rule} {σ : AS} {K : List Rule → AS → Prop} {gt : List (Nat × AV)} {d : Option Nat} {ty : TypeId} {ps : String} {af : Array Edge} {g : Option (Nat × Bool)}
theorem aM {t : TypeId} {x : Operand} {lo hi : Option Operand} {s : ByteArray} {l h : Int} (ht : P.underlying t = some .string) (hx : ev σ x = .v (.string s)) (hlo : loOf σ lo = some l) (hhi : hiOf σ s.size hi = some h) (hb : 0 ≤ l ∧ l ≤ h ∧ h ≤ s.size)
    (hK : Exec P X n ops os (mkG gt σ (x :: (lo.toList ++ hi.toList)) [] d (.v (.string (s.extract l.toNat h.toNat))) [] :: acc) (σ.put d (.v (.string (s.extract l.toNat h.toNat)))) K) : Op1 P X n ops gt ⟨d, .slice t x lo hi none, ty, ps, af, g⟩ os acc σ K :=
  jV (fun M ρ τ a w he hR => by
    obtain ⟨b1, b2, b3⟩ := hb
    have el : (l.toNat : Int) = l := Int.toNat_of_nonneg b1
    have eh : (h.toNat : Int) = h := Int.toNat_of_nonneg (by omega)
    have hl : ((lo.map a.eval) = none ∧ l.toNat = 0) ∨ ∃ k, lo.map a.eval = some (.int k (l.toNat : Int)) := by
      cases lo with
      | none => injection hlo with hlo; subst hlo; exact .inl ⟨rfl, rfl⟩
      | some o =>
        obtain ⟨k, hk⟩ := mG hlo
        exact .inr ⟨k, by rw [Option.map_some, jO hR (he o (by simp)) hk, el]⟩
    have hh : ((hi.map a.eval) = none ∧ h.toNat = s.size) ∨ ∃ k, hi.map a.eval = some (.int k (h.toNat : Int)) := by
      cases hi with
      | none => injection hhi with hhi; subst hhi; exact .inl ⟨rfl, by omega⟩
      | some o =>
        obtain ⟨k, hk⟩ := lJ hhi
        exact .inr ⟨k, by rw [Option.map_some, jO hR (he o (by simp)) hk, eh]⟩
    have hr := iB (P := P) (s := s) ht (show l.toNat ≤ h.toNat by omega) (show h.toNat ≤ s.size by omega) hl hh w
    refine ⟨_, ?_, .v _ _⟩
    unfold execOp
    simp only [jO hR (he x (by simp)) hx, Option.map_none, Sem.run_bind, hr]
    rfl) hK
theorem x_neg {k : IntKind} {a : Int} {x : Operand} {tx : TypeId} (hx : ev σ x = .v (.int k a)) (h : Exec P X n ops os (mkG gt σ [x] [] d (.v (.int k (k.wrap (0 - a)))) [] :: acc) (σ.put d (.v (.int k (k.wrap (0 - a))))) K) : Op1 P X n ops gt ⟨d, .unOp .neg tx x, ty, ps, af, g⟩ os acc σ K :=
  x_un hx (fun w => rfl) h
end
section
variable {X : Ctx} {n : Nat} {M : Nat → Option (Array Value)} {ρ : Nat → Nat → Option Value} {σ : AS} {a : Act} {w : World}
theorem Rel.storeObC (h : Rel X n M ρ σ a w) {s k g off : Nat} {v : Value} {vs : List Value} {o o' : AO} (hH : σ.H s = ⟨k, .ob o⟩) (hg : ρ s k = some v) (hvb : vblk v = some g) (hb : X.w0.heap.size ≤ g) (hx : ObIn ρ (w.setCells g off vs) v g o') :
    Rel X n M ρ (σ.hup s ⟨k, .ob o'⟩) a (w.setCells g off vs) := by
  have hb0 := h.mp_blk hH (g := g) (by rw [hg]; exact hvb)
  have hMg : M g = none := (h.blk_lt hb0).2
  obtain ⟨e1, e2, e3, e4⟩ := ql (g := g) vs off w
  have hother : ∀ s', s' ≠ s → (σ.hup s ⟨k, .ob o'⟩).H s' = σ.H s' := fun s' hs => by simp [AS.hup, jE hs]
  have hsame : (σ.hup s ⟨k, .ob o'⟩).H s = ⟨k, .ob o'⟩ := by simp [AS.hup, Nat.beq_refl]
  have hblk : ∀ s', yD ρ s' ((σ.hup s ⟨k, .ob o'⟩).H s') = yD ρ s' (σ.H s') := fun s' => by
    by_cases hs : s' = s
    · subst hs; rw [hsame, hH]; simp [yD]
    · rw [hother s' hs]
  have hfar : ∀ s' g', s' ≠ s → yD ρ s' (σ.H s') = some g' → g' ≠ g := fun s' g' hs hg' e => hs (h.sep s' s g' hg' (by rw [hb0, e]))
  refine ⟨fun g' arr hg' => ?_, h.sz, h.tm, fun s' k' cs' e => ?_, fun s' k' e' sz' L1 he => ?_, fun s1 s2 g' a1 a2 => h.sep s1 s2 g' (by rw [← hblk]; exact a1) (by rw [← hblk]; exact a2), fun s' k' hk => ?_, h.glob, h.base, h.root, e1.trans h.os, e2.trans h.tape, e3.trans h.output, by rw [e4]; exact h.size, fun g' hgl hn => ?_, h.df, fun s' k' L1 e => ?_⟩
  · obtain ⟨t', fr, h1⟩ := h.live g' arr hg'
    exact ⟨t', fr, (ym (by rintro rfl; rw [hMg] at hg'; cases hg') vs off w).trans h1⟩
  · by_cases hs : s' = s
    · subst hs
      rw [hsame] at e
      injection e with _ e
      cases e
    · rw [hother s' hs] at e
      exact (h.box s' k' cs' e).mono (fun _ _ e => e) (fun _ _ _ e => e) (fun g' hg' => ym (hfar s' g' hs (by rw [e]; simp [yD, hg', vblk])) vs off w) (fun _ _ e => e)
  · by_cases hs : s' = s
    · subst hs
      rw [hsame] at he
      injection he with _ he
      cases he
    · rw [hother s' hs] at he
      exact (h.buf s' k' e' sz' L1 he).mono (fun _ _ e => e) (fun _ _ _ e => e) (fun u g' hu hg' => ym (hfar s' g' hs (by rw [he]; simp [yD, hu, hg'])) vs off w) (fun _ _ _ _ e => e)
  · by_cases hs : s' = s
    · subst hs
      rw [hsame] at hk
      exact h.fresh s' k' (by rw [hH]; exact hk)
    · rw [hother s' hs] at hk
      exact h.fresh s' k' hk
  · exact (ym (by rintro rfl; omega) vs off w).trans (h.frame g' hgl hn)
  · by_cases hs : s' = s
    · subst hs
      rw [hsame] at e
      injection e with e1 e2
      injection e2 with e2
      subst e1; subst e2
      exact ⟨v, g, hMg, hg, hvb, hb, hx⟩
    · rw [hother s' hs] at e
      exact (h.mp s' k' L1 e).mono (fun _ _ _ e => e) (fun g' hg' => ym (hfar s' g' hs (h.mp_blk e hg')) vs off w) (fun _ _ e => e)
/-- What the handle of a row of bytes means. -/
theorem Rel.by_at (h : Rel X n M ρ σ a w) {s k : Nat} {L : List Int} (hH : σ.H s = ⟨k, .ob (.by_ L)⟩) : ∃ g cap cur t fz, ρ s k = some (.slice (some ⟨g, 0, none⟩) L.length cap) ∧ w.heap[g]? = some (.cells ⟨cur⟩ t fz) ∧ L.length ≤ cap ∧ cur.length = cap ∧ (fz = (0, 0) ∨ cap ≤ fz.1) ∧ (∀ (j : Nat) (z : Int), L[j]? = some z → cur[j]? = some (.int .u8 z)) ∧ X.w0.heap.size ≤ g := by
  obtain ⟨v, g, -, h1, h2, h3, cap, cur, t, fz, rfl, h5, h6, h7, h8, h9⟩ := h.mp s k _ hH
  exact ⟨g, cap, cur, t, fz, h1, h5, h6, h7, h8, h9, h3⟩
/-- The bytes of a string, as numbers. -/
def cI (s : ByteArray) : List Int := s.data.toList.map fun c => (c.toNat : Int)
theorem vI (s : ByteArray) : (cI s).length = s.size := by
  unfold cI
  rw [List.length_map]
  rfl
theorem kZ (s : ByteArray) (c : Nat) : bytesRow s c = ⟨(cI s).map (fun z => Value.int .u8 z) ++ List.replicate (c - s.size) (.int .u8 0)⟩ := by
  apply Array.toList_inj.1
  unfold bytesRow cI
  rw [Array.toList_append, Array.toList_map, List.map_map, Array.toList_replicate]
  rfl
end
section
variable {P : Program} {X : Ctx} {n : Nat} {ops : Array Oper} {os : List Oper} {acc : List Rule} {σ : AS} {K : List Rule → AS → Prop} {gt : List (Nat × AV)} {ty : TypeId} {ps : String} {af : Array Edge} {g : Option (Nat × Bool)}
theorem vB {src dst e : TypeId} {x : Operand} {s : ByteArray} {d k0 : Nat} {q0 : Cont} (hs : P.underlying src = some .string) (hd : P.underlying dst = some (.slice e)) (he : P.underlying e = some (.int .u8)) (hx : ev σ x = .v (.string s)) (hH0 : σ.H d = ⟨k0, q0⟩)
    (h : Exec P X n ops os (mkG gt σ [x] [d] (some d) (.own d (k0 + 1)) [(d, ⟨k0 + 1, .ob (.by_ (cI s))⟩)] :: acc) ((σ.hup d ⟨k0 + 1, .ob (.by_ (cI s))⟩).put (some d) (.own d (k0 + 1))) K) : Op1 P X n ops gt ⟨some d, .convert src dst x, ty, ps, af, g⟩ os acc σ K := by
  obtain rfl : (σ.H d).k = k0 := by rw [hH0]
  refine ⟨⟨mkR σ [x] [d] (some d) (.own d ((σ.H d).k + 1)) [(d, ⟨(σ.H d).k + 1, .ob (.by_ (cI s))⟩)], jD rfl fun M ρ τ a w hf hR => ?_, yV _ _ _ _ _ _, h⟩⟩
  have hH' := jh hf (s := d) (by simp)
  have hxe := jO hR (yo hf (by simp)) hx
  have hdr : Rel X n M ρ τ a w.drew := ⟨hR.live, hR.sz, hR.tm, hR.box, hR.buf, hR.sep, hR.fresh, hR.glob, hR.base, hR.root, hR.os, hR.tape, hR.output, hR.size, hR.frame, hR.df, hR.mp⟩
  have hlen := vI s
  have hcap : s.size ≤ grownCap w s.size 0 e := grownCap_ge w s.size 0 e
  have hrow := kZ s (grownCap w s.size 0 e)
  have hN := hdr.newOb d (v := .slice (some ⟨w.heap.size, 0, none⟩) s.size (grownCap w s.size 0 e)) (x := .cells (bytesRow s (grownCap w s.size 0 e)) e ((bytesRow s (grownCap w s.size 0 e)).size, (bytesRow s (grownCap w s.size 0 e)).size + 1)) (ob := .by_ (cI s)) rfl fun ρ' _ => by
    refine ⟨grownCap w s.size 0 e, _, e, _, by rw [hlen]; rfl, (heap_alloc_new w.drew _).trans (by rw [hrow]), by rw [hlen]; exact hcap, by rw [List.length_append, List.length_map, List.length_replicate, hlen]; omega, .inr ?_, fun j z hj => ?_⟩
    · show _ ≤ (List.map _ _ ++ List.replicate _ _).length
      rw [List.length_append, List.length_map, List.length_replicate, hlen]; omega
    · rw [List.getElem?_append_left (by rw [List.length_map]; exact yO hj), List.getElem?_map, hj]; rfl
  refine ⟨.slice (some ⟨w.heap.size, 0, none⟩) s.size (grownCap w s.size 0 e), _, M, _, ?_, by rw [← hH']; exact hN, .own _ _ _ _ (by rw [← hH']; simp [updρ]) rfl⟩
  unfold execOp
  simp only [hxe, Sem.run_bind, run_bytes_of_string w src dst e s hs hd he]
  rfl
variable {TB : Tabs} (hTB : TabsOk P TB)
include hTB
theorem rM {t : TypeId} {d : Option Nat} {x : Operand} {s k k' e : Nat} {L : List Int} (hs : lk TB.sle t = some e) (hx : ev σ x = .own s k) (hH : σ.H s = ⟨k', .ob (.by_ L)⟩) (hk : k = k')
    (h : Exec P X n ops os (mkG gt σ [x] [s] d (.v (.int .i64 L.length)) [] :: acc) (σ.put d (.v (.int .i64 L.length))) K) : Op1 P X n ops gt ⟨d, .call ⟨.builtin .len, #[x], #[t]⟩, ty, ps, af, g⟩ os acc σ K := by
  refine ⟨⟨mkR σ [x] [s] d (.v (.int .i64 L.length)) [], jD rfl fun M ρ τ a w hf hR => ?_, yV _ _ _ _ _ _, h⟩⟩
  subst hk
  have hHs := (jh hf (s := s) (by simp)).trans hH
  have h1 := hR.ev x
  rw [yo hf (by simp), hx] at h1
  obtain ⟨g, cap, cur, t', fz, b1, -⟩ := hR.by_at hHs
  have e1 := h1.own_inv
  rw [b1] at e1
  injection e1 with e1
  refine ⟨goInt L.length, w, M, ρ, ?_, hR, .v _ _⟩
  unfold execOp
  simp [resolve, invoke, builtin, ← e1, Builtin.len_, run_underlying (qQ hTB hs)]
theorem iZ {t : TypeId} {d : Option Nat} {x i : Operand} {s k k' e : Nat} {b : Bool} {L : List Int} {kk : IntKind} {z : Int} (hs : lk TB.sle t = some e) (hz : lk TB.ty e = some (b, 1)) (hx : ev σ x = .own s k) (hH : σ.H s = ⟨k', .ob (.by_ L)⟩) (hk : k = k') (hi : ev σ i = .v (.int kk z)) (h0 : 0 ≤ z ∧ z < (L.length : Int))
    (h : Exec P X n ops os (mkG gt σ [x, i] [s] d (.po s k z.toNat) [] :: acc) (σ.put d (.po s k z.toNat)) K) : Op1 P X n ops gt ⟨d, .indexAddr t x i, ty, ps, af, g⟩ os acc σ K := by
  refine ⟨⟨mkR σ [x, i] [s] d (.po s k z.toNat) [], jD rfl fun M ρ τ a w hf hR => ?_, yV _ _ _ _ _ _, h⟩⟩
  subst hk
  have hHs := (jh hf (s := s) (by simp)).trans hH
  have h1 := hR.ev x
  rw [yo hf (by simp), hx] at h1
  have h2 := jO hR (yo hf (by simp)) hi
  obtain ⟨g, cap, cur, t', fz, b1, -⟩ := hR.by_at hHs
  have e1 := h1.own_inv
  rw [b1] at e1
  injection e1 with e1
  refine ⟨.pointer (some ⟨g, z.toNat * 1, none⟩), w, M, ρ, ?_, hR, ?_⟩
  · unfold execOp
    simp only [← e1, h2, Instr.indexAt, asIntOf, Sem.run_bind, Sem.run_pure, run_underlying (qQ hTB hs), Result.andThen_ok, Sem.run_ite, if_pos h0, aP hTB hz, Addr.add_mid, Nat.zero_add]
  · rw [Nat.mul_one]; exact .po _ s k _ g _ cap b1
theorem rR {t : TypeId} {x y : Operand} {s k k' off : Nat} {b : Bool} {L : List Int} {z : Int} (ht : lk TB.ty t = some (b, 1)) (hx : ev σ x = .po s k off) (hH : σ.H s = ⟨k', .ob (.by_ L)⟩) (hk : k = k') (hz : ev σ y = .v (.int .u8 z)) (ho : off < L.length)
    (h : Exec P X n ops os (mkG gt σ [x, y] [s] none (.v undef) [(s, ⟨k', .ob (.by_ (L.set off z))⟩)] :: acc) (σ.hup s ⟨k', .ob (.by_ (L.set off z))⟩) K) : Op1 P X n ops gt ⟨none, .store t x y, ty, ps, af, g⟩ os acc σ K := by
  refine ⟨⟨mkR σ [x, y] [s] none (.v undef) [(s, ⟨k', .ob (.by_ (L.set off z))⟩)], dS rfl rfl fun M ρ τ a w hf hR => ?_, yV _ _ _ _ _ _, h⟩⟩
  subst hk
  have hHs := (jh hf (s := s) (by simp)).trans hH
  have h1 := hR.ev x
  rw [yo hf (by simp), hx] at h1
  obtain ⟨g, l, c, e1, e2⟩ := h1.po_inv
  have h2 := jO hR (yo hf (by simp)) hz
  obtain ⟨dd, u1, u2, u3⟩ := qd hTB ht
  obtain ⟨g', cap, cur, t', fz, b1, b2, b3, b4, b5, b6, b7⟩ := hR.by_at hHs
  rw [e1] at b1
  injection b1 with b1
  injection b1 with ba bl bc
  injection ba with ba
  injection ba with ba
  subst ba; subst bl; subst bc
  have hth : w.there g off 1 := fun j hj => by
    obtain rfl : j = 0 := by omega
    refine ⟨?_, ?_⟩
    · rw [cell_of_row w g (off + 0) ⟨cur⟩ t' fz b2]
      simp
      omega
    · rcases b5 with rfl | b5
      · simp [World.frozen?, b2]
      · simp [World.frozen?, b2]
        omega
  have hset : (w.setCells g off [.int .u8 z]).heap[g]? = some (.cells ⟨cur.set off (.int .u8 z)⟩ t' fz) := by
    simp [World.setCells, World.setCell, Array.getElem?_modify, b2]
  refine ⟨_, M, ρ, ?_, hR.storeObC (off := off) (vs := [.int .u8 z]) hHs e1 rfl b7 ⟨c, cur.set off (.int .u8 z), t', fz, by rw [List.length_set], hset, by rw [List.length_set]; exact b3, by rw [List.length_set]; exact b4, b5, fun j y hj => ?_⟩⟩
  · have := bP (P := P) (w := w) (b := g) (o := off) (ty := t) (v := .int .u8 z) hth u3 (fun q hq => by
      simp [Value.cells] at hq
      subst hq
      rfl)
    unfold execOp
    simp only [e2, h2, Sem.run_bind, this, Result.andThen_ok]
    rfl
  · by_cases hjo : off = j
    · subst hjo
      rw [List.getElem?_set_self (by omega)] at hj
      injection hj with hj
      subst hj
      rw [List.getElem?_set_self (by omega)]
    · rw [List.getElem?_set_ne hjo] at hj ⊢
      exact b6 j y hj
omit hTB in
theorem sH {d : Option Nat} {src dst e : TypeId} {x : Operand} {s k k' : Nat} {L : List Int} (hs : P.underlying src = some (.slice e)) (he : P.underlying e = some (.int .u8)) (hd : P.underlying dst = some .string) (hx : ev σ x = .own s k) (hH : σ.H s = ⟨k', .ob (.by_ L)⟩) (hk : k = k')
    (h : Exec P X n ops os (mkG gt σ [x] [s] d (.v (.string (strOfNums L))) [] :: acc) (σ.put d (.v (.string (strOfNums L)))) K) : Op1 P X n ops gt ⟨d, .convert src dst x, ty, ps, af, g⟩ os acc σ K := by
  refine ⟨⟨mkR σ [x] [s] d (.v (.string (strOfNums L))) [], jD rfl fun M ρ τ a w hf hR => ?_, yV _ _ _ _ _ _, h⟩⟩
  subst hk
  have hHs := (jh hf (s := s) (by simp)).trans hH
  have h1 := hR.ev x
  rw [yo hf (by simp), hx] at h1
  obtain ⟨g, cap, cur, t', fz, b1, b2, b3, b4, b5, b6, b7⟩ := hR.by_at hHs
  have e1 := h1.own_inv
  rw [b1] at e1
  injection e1 with e1
  refine ⟨.string (strOfNums L), w, M, ρ, ?_, hR, .v _ _⟩
  have hr := run_convert_bytes_arg (P := P) w src e hs he g 0 L.length cap L rfl (fun i hi => by
    obtain ⟨z, hz⟩ := zd (L := L) (k := i) (by omega)
    rw [cell_of_row w g (0 + i) ⟨cur⟩ t' fz b2]
    have := b6 i z hz
    rw [List.getD_eq_getElem?_getD, hz]
    simpa using this) dst hd
  unfold execOp
  simp only [← e1, Sem.run_bind, hr]
  rfl
end
end Go.Proofs.YtjamibeffalhaaaGreatDoor
