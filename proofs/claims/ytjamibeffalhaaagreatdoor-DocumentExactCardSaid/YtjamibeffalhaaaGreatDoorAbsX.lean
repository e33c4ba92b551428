/- A callee that gives back a new map of its own; conditions: none / Strings of bytes, and ends with a struct and a value behind a reference, in the abstract machine; conditions: none. | Arrays in the abstract machine: a cell's address by an index, a cell by an index, whole arrays; conditions: tables of types that agree with the program's. -/
import Derived.Test.YtjamibeffalhaaaGreatDoorAbsU
import Derived.Laws.BytesArg
import Derived.Laws.IdiomStrings
set_option linter.unusedVariables false
set_option linter.unusedSimpArgs false
namespace Go.Proofs.YtjamibeffalhaaaGreatDoor
open Go Go.RowKit
section
variable {X : Ctx} {n : Nat} {M : Nat → Option (Array Value)} {ρ : Nat → Nat → Option Value} {σ : AS} {a : Act} {w : World}
end
section
variable {P : Program} {TB : Tabs} {G : Nat → Option (List Value)} {f : FuncId} {args : List AV} {L : List (Value × Value)}
end
section
variable {P : Program} {X : Ctx} {n : Nat} {ops : Array Oper} {os : List Oper} {acc : List Rule} {σ : AS} {K : List Rule → AS → Prop} {gt : List (Nat × AV)} {ty : TypeId} {ps : String} {af : Array Edge} {g : Option (Nat × Bool)}
end
/-- A call whose contract is known elsewhere: numbers, strings and truth values go in and come out. -/
theorem rS {P : Program} {G : Nat → Option (List Value)} {f : FuncId} {vs : List Value} {r : Value} {y : AV} (he : cL P f) (hy : ∀ M ρ, Rep M ρ y r) (h : ∀ w, (∀ g us, G g = some us → ∃ t fr, w.heap[g]? = some (.cells ⟨us⟩ t fr)) → Calls P f ⟨vs⟩ w (fun e w' => e = .returned r ∧ Below w.heap.size w w')) :
    zy P G f (vs.map .v) [] y [] := by
  refine ⟨he, fun M w gs us hl hG hnd hr hv hrep => ?_⟩
  have hgs : gs = [] := List.eq_nil_of_length_eq_zero hr.len
  subst hgs
  have hus : us = vs := by
    apply List.ext_getElem?
    intro j
    rw [List.length_map] at hv
    cases hj : us[j]? with
    | none =>
      rw [List.getElem?_eq_none_iff] at hj
      exact (List.getElem?_eq_none (by omega)).symm
    | some u =>
      obtain ⟨x, hx⟩ := zc (L := vs) (k := j) (by have := yL hj; omega)
      have := hrep j (.v x) u (by rw [List.getElem?_map, hx]; rfl) hj
      rw [hx, this.v_inv]
  subst hus
  refine (h w fun g u e => ?_).mono ?_
  · exact hl g _ (hG g u e)
  · rintro en w' ⟨rfl, hb⟩
    exact ⟨r, M, [], rfl, fun _ _ e => e, fun g arr e => by
      obtain ⟨t, fr, h1⟩ := hl g arr e
      exact ⟨t, fr, (hb.block g (Array.getElem?_eq_some_iff.1 h1).1).trans h1⟩, hb.os, hb.tape, hb.output, hb.size, fun g hg _ => hb.block g hg, fun g _ e => e, by simp, by simp, ⟨rfl, by simp⟩, hy _ _⟩
end Go.Proofs.YtjamibeffalhaaaGreatDoor
namespace Go.Proofs.YtjamibeffalhaaaGreatDoor
open Go Go.RowKit
section
variable {P : Program} {X : Ctx} {n : Nat} {ops : Array Oper} {os : List Oper} {acc : List Rule} {σ : AS} {K : List Rule → AS → Prop} {gt : List (Nat × AV)} {d : Option Nat} {ty : TypeId} {ps : String} {af : Array Edge} {g : Option (Nat × Bool)}
/-- The numbers of a list of bytes. -/
def iS : List AV → Option (List Int)
  | [] => some []
  | .v (.int .u8 b) :: l => match iS l with
    | some r => some (b :: r)
    | none => none
  | _ => none
theorem gS : ∀ {N : List AV} {zs : List Int}, iS N = some zs → N = zs.map fun b => .v (.int .u8 b)
  | [], zs, h => by injection h with h; subst h; rfl
  | x :: l, zs, h => by
    unfold iS at h
    split at h
    · rename_i heq; cases heq
    · rename_i b l' heq
      injection heq with h1 h2
      subst h1; subst h2
      cases hl : iS l with
      | none => rw [hl] at h; cases h
      | some r => rw [hl] at h; injection h with h; subst h; rw [gS hl]; rfl
    · cases h
theorem bR {src dst e : TypeId} {x : Operand} {N : List AV} {zs : List Int} (hs : P.underlying src = some (.slice e)) (he : P.underlying e = some (.int .u8)) (hd : P.underlying dst = some .string) (hx : ev σ x = .sl 1 N) (hb : iS N = some zs) (hpos : 0 < zs.length)
    (h : Exec P X n ops os (mkG gt σ [x] [] d (.v (.string (strOfNums zs))) [] :: acc) (σ.put d (.v (.string (strOfNums zs)))) K) : Op1 P X n ops gt ⟨d, .convert src dst x, ty, ps, af, g⟩ os acc σ K :=
  jM (fun M ρ τ a w he' hR => by
    have h1 := hR.ev x
    rw [he' x (by simp), hx] at h1
    obtain ⟨A, c, us, e1, e2, e2', e3, e4⟩ := h1.sl_inv
    have hN := gS hb
    have hNl : N.length = zs.length := by rw [hN]; simp
    obtain ⟨y0, hy0⟩ := zc (L := N) (k := 0) (by omega)
    obtain ⟨f1, b, o, arr, rfl, f3, f4⟩ := e4 0 y0 hy0
    obtain ⟨t, fr, hh⟩ := hR.live b arr f3
    refine ⟨_, ?_, .v _ _⟩
    have hr := run_convert_bytes_arg (P := P) w src e hs he b o N.length c zs hNl.symm (fun i hi => by
      obtain ⟨z, hz⟩ := zc (L := zs) (k := i) (by omega)
      have hNi : N[i]? = some (.v (.int .u8 z)) := by rw [hN, List.getElem?_map, hz]; rfl
      obtain ⟨_, b', o', arr', hA, g3, g4⟩ := e4 i _ hNi
      injection hA with hA
      injection hA with ha hb
      subst ha; subst hb
      rw [f3] at g3
      injection g3 with g3
      subst g3
      have := g4 0 (by omega)
      rw [Nat.mul_one, Nat.add_zero] at this
      rw [cell_of_row w b (o + i) arr t fr hh, this]
      have h5 := (e3 i _ 0 (.v (.int .u8 z)) hNi rfl).v_inv
      rw [h5, List.getD_eq_getElem?_getD, hz]; rfl) dst hd
    unfold execOp
    simp only [e1, Sem.run_bind, hr]
    rfl) h
end
theorem eU {TB : Tabs} {σ : AS} {fn : Func} {r : AV} {e : Exit} {p ty t s k m k2 : Nat} {cs c c' : List AV} {z : AV} (he : e = .normal ∨ e = .ret) (hfn : fn.results = #[.cell p ty, .tmp t]) (hT : σ.T p = .ptr s k 0) (hH : σ.H s = ⟨k, .box cs⟩) (ht : lk TB.ty ty = some (true, m)) (hl : cs.length = m) (hT2 : vf (σ.T t) = some z) (hH1 : σ.H (refB + 0) = ⟨k2, .box c'⟩) (hk : k2 = 0) (hr : Ren (bufs σ) (yy 1 []) r (.tu [.ag cs, z])) (hc : RenL (bufs σ) (yy 1 []) c c') : RetQ TB fn 1 r [c] e σ := by
  refine ret1 he (xs := [.ag cs, σ.T t]) ?_ (by rw [qs hT2]; exact hr) hH1 hk hc
  rw [hfn]
  exact ⟨.agg p ty s k m cs hT hH ht hl, .tmp t, trivial⟩
end Go.Proofs.YtjamibeffalhaaaGreatDoor
namespace Go.Proofs.YtjamibeffalhaaaGreatDoor
open Go Go.RowKit
section
variable {P : Program} {X : Ctx} {n : Nat} {ops : Array Oper} {os : List Oper} {acc : List Rule} {σ : AS} {K : List Rule → AS → Prop} {gt : List (Nat × AV)} {ty : TypeId} {ps : String} {af : Array Edge} {g : Option (Nat × Bool)} {d : Option Nat}
variable {TB : Tabs} (hTB : TabsOk P TB)
include hTB
end
theorem jk {e sz : Nat} {a b : List AV} (h : a = b) : Cont.buf e sz a = .buf e sz b := by rw [h]
/-- A part of a string. -/
theorem gD {P : Program} {t : TypeId} {s : ByteArray} {lo hi : Option Value} {l h : Nat} (ht : P.underlying t = some .string) (h1 : l ≤ h) (h2 : h ≤ s.size)
    (hl : (lo = none ∧ l = 0) ∨ ∃ k, lo = some (.int k (l : Int))) (hh : (hi = none ∧ h = s.size) ∨ ∃ k, hi = some (.int k (h : Int))) (w : World) :
    (Instr.sliceAt t (.string s) lo hi none).run P w = .ok (.string (s.extract l h)) w := by
  unfold Instr.sliceAt Instr.slice Instr.sliceBounds
  rcases hl with ⟨rfl, rfl⟩ | ⟨k, rfl⟩ <;> rcases hh with ⟨rfl, rfl⟩ | ⟨k', rfl⟩
  · simp [run_underlying ht]
  · simp [run_underlying ht, run_sliceBound w k' (h : Int) s.size .sliceAlen (by omega) (by omega)]
  · simp [run_underlying ht, run_sliceBound w k (l : Int) s.size .sliceB (by omega) (by omega)]
  · simp [run_underlying ht, run_sliceBound w k' (h : Int) s.size .sliceAlen (by omega) (by omega), run_sliceBound w k (l : Int) h .sliceB (by omega) (by omega)]
section
variable {P : Program} {X : Ctx} {n : Nat} {ops : Array Oper} {os : List Oper} {acc : List Rule} {σ : AS} {K : List Rule → AS → Prop} {gt : List (Nat × AV)} {d : Option Nat} {ty : TypeId} {ps : String} {af : Array Edge} {g : Option (Nat × Bool)}
theorem wY {t : TypeId} {x : Operand} {lo hi : Option Operand} {s : ByteArray} {l h : Int} (ht : P.underlying t = some .string) (hx : ev σ x = .v (.string s)) (hlo : loOf σ lo = some l) (hhi : hiOf σ s.size hi = some h) (hb : 0 ≤ l ∧ l ≤ h ∧ h ≤ s.size)
    (hK : Exec P X n ops os (mkG gt σ (x :: (lo.toList ++ hi.toList)) [] d (.v (.string (s.extract l.toNat h.toNat))) [] :: acc) (σ.put d (.v (.string (s.extract l.toNat h.toNat)))) K) : Op1 P X n ops gt ⟨d, .slice t x lo hi none, ty, ps, af, g⟩ os acc σ K :=
  jM (fun M ρ τ a w he hR => by
    obtain ⟨b1, b2, b3⟩ := hb
    have el : (l.toNat : Int) = l := Int.toNat_of_nonneg b1
    have eh : (h.toNat : Int) = h := Int.toNat_of_nonneg (by omega)
    have hl : ((lo.map a.eval) = none ∧ l.toNat = 0) ∨ ∃ k, lo.map a.eval = some (.int k (l.toNat : Int)) := by
      cases lo with
      | none => injection hlo with hlo; subst hlo; exact .inl ⟨rfl, rfl⟩
      | some o =>
        obtain ⟨k, hk⟩ := lF hlo
        exact .inr ⟨k, by rw [Option.map_some, jR hR (he o (by simp)) hk, el]⟩
    have hh : ((hi.map a.eval) = none ∧ h.toNat = s.size) ∨ ∃ k, hi.map a.eval = some (.int k (h.toNat : Int)) := by
      cases hi with
      | none => injection hhi with hhi; subst hhi; exact .inl ⟨rfl, by omega⟩
      | some o =>
        obtain ⟨k, hk⟩ := kV hhi
        exact .inr ⟨k, by rw [Option.map_some, jR hR (he o (by simp)) hk, eh]⟩
    have hr := gD (P := P) (s := s) ht (show l.toNat ≤ h.toNat by omega) (show h.toNat ≤ s.size by omega) hl hh w
    refine ⟨_, ?_, .v _ _⟩
    unfold execOp
    simp only [jR hR (he x (by simp)) hx, Option.map_none, Sem.run_bind, hr]
    rfl) hK
theorem x_neg {k : IntKind} {a : Int} {x : Operand} {tx : TypeId} (hx : ev σ x = .v (.int k a)) (h : Exec P X n ops os (mkG gt σ [x] [] d (.v (.int k (k.wrap (0 - a)))) [] :: acc) (σ.put d (.v (.int k (k.wrap (0 - a))))) K) : Op1 P X n ops gt ⟨d, .unOp .neg tx x, ty, ps, af, g⟩ os acc σ K :=
  x_un hx (fun w => rfl) h
end
section
variable {X : Ctx} {n : Nat} {M : Nat → Option (Array Value)} {ρ : Nat → Nat → Option Value} {σ : AS} {a : Act} {w : World}
end
section
variable {P : Program} {X : Ctx} {n : Nat} {ops : Array Oper} {os : List Oper} {acc : List Rule} {σ : AS} {K : List Rule → AS → Prop} {gt : List (Nat × AV)} {ty : TypeId} {ps : String} {af : Array Edge} {g : Option (Nat × Bool)}
variable {TB : Tabs} (hTB : TabsOk P TB)
include hTB
omit hTB in
end
end Go.Proofs.YtjamibeffalhaaaGreatDoor
