/- Shorter forms of the abstract machine's laws: the value is computed rather than named; conditions: none. -/
import Derived.Test.YtbacidnhjmdnlaaDoorAbsP
set_option linter.unusedVariables false
set_option linter.unusedSimpArgs false
namespace Go.Proofs.YtbacidnhjmdnlaaDoor
open Go Go.RowKit
/-- A value with its outermost form in sight. -/
def vf : AV → Option AV
  | .v x => some (.v x)
  | .ag cs => some (.ag cs)
  | .tu cs => some (.tu cs)
  | .sl sz L => some (.sl sz L)
  | .ptr s k o => some (.ptr s k o)
  | .ep cs => some (.ep cs)
  | .own s k => some (.own s k)
  | .fn f cs => some (.fn f cs)
  | .junk => some .junk
  | .po s k o => some (.po s k o)
theorem vf_eq {y z : AV} (h : vf y = some z) : y = z := by
  cases y <;> (injection h)
def vfsL (σ : AS) : List (Nat × Operand) → Option (List (Nat × AV))
  | [] => some []
  | (i, o) :: r => match vf (ev σ o) with
    | some y => match vfsL σ r with
      | some s => some ((i, y) :: s)
      | none => none
    | none => none
theorem vfsL_eq {σ : AS} : ∀ {ps : List (Nat × Operand)} {vals : List (Nat × AV)}, vfsL σ ps = some vals → EvL σ ps vals
  | [], vals, h => by injection h with h; subst h; exact .nil
  | (i, o) :: r, vals, h => by
    unfold vfsL at h
    split at h
    · rename_i y hy
      split at h
      · rename_i s hs
        injection h with h
        subst h
        exact .cons y (vf_eq hy) (vfsL_eq hs)
      · cases h
    · cases h
def binI (k : IntKind) (a b : Int) : BinOp → Option Value
  | .eql => some (.bool (a == b))
  | .neq => some (.bool (a != b))
  | .lss => some (.bool (decide (a < b)))
  | .leq => some (.bool (decide (a ≤ b)))
  | .gtr => some (.bool (decide (a > b)))
  | .geq => some (.bool (decide (a ≥ b)))
  | .add => some (.int k (k.wrap (a + b)))
  | .sub => some (.int k (k.wrap (a - b)))
  | .mul => some (.int k (k.wrap (a * b)))
  | .and => some (.int k (bits .and k a b))
  | .or => some (.int k (bits .or k a b))
  | .andNot => some (.int k (bits .andNot k a b))
  | _ => none
def binS (a b : ByteArray) : BinOp → Option Value
  | .eql => some (.bool (strEq a b))
  | .neq => some (.bool (!strEq a b))
  | .lss => some (.bool (strLt a b))
  | .leq => some (.bool (strLt a b || strEq a b))
  | .gtr => some (.bool (!(strLt a b || strEq a b)))
  | .geq => some (.bool (!strLt a b))
  | _ => none
section
variable {P : Program} {X : Ctx} {n : Nat} {ops : Array Oper} {os : List Oper} {acc : List Rule} {σ : AS} {K : List Rule → AS → Prop} {gt : List (Nat × AV)} {d : Option Nat} {ty : TypeId} {ps : String} {af : Array Edge} {g : Option (Nat × Bool)} {tx yt : TypeId} {x y : Operand} {TB : Tabs}
theorem m_move {z : AV} (hx : vf (ev σ x) = some z) (h : Exec P X n ops os (mkG gt σ [x] [] d z [] :: acc) (σ.put d z) K) : Op1 P X n ops gt ⟨d, .move x, ty, ps, af, g⟩ os acc σ K := x_move z (vf_eq hx) h
theorem m_assign {z : AV} (hx : vf (ev σ x) = some z) (h : Exec P X n ops os (mkG gt σ [x] [] d z [] :: acc) (σ.put d z) K) : Op1 P X n ops gt ⟨d, .assign x, ty, ps, af, g⟩ os acc σ K := x_assign z (vf_eq hx) h
theorem m_box {d : Nat} {e : TypeId} {k0 : Nat} {c0 : Cont} {z : AV} (hy : vf (ev σ x) = some z) (ho : allOne z.cells = true) (hH : σ.H d = ⟨k0, c0⟩) (h : Exec P X n ops os (mkG gt σ [x] [d] (some d) (.ptr d (k0 + 1) 0) [(d, ⟨k0 + 1, .box z.cells⟩)] :: acc) ((σ.hup d ⟨k0 + 1, .box z.cells⟩).put (some d) (.ptr d (k0 + 1) 0)) K) :
    Op1 P X n ops gt ⟨some d, .box e x, ty, ps, af, g⟩ os acc σ K := x_box z (vf_eq hy) ho hH h
theorem m_store (hTB : TabsOk P TB) {t : TypeId} {s k k' off m : Nat} {b : Bool} {cs xs : List AV} {z : AV} (ht : lk TB.ty t = some (b, m)) (hx : ev σ x = .ptr s k off) (hH : σ.H s = ⟨k', .box cs⟩) (hk : k = k') (hz : vf (ev σ y) = some z) (hxs : z.cells = xs) (hl : xs.length = m) (hm : off + m ≤ cs.length) (ho : allOne xs = true)
    (h : Exec P X n ops os (mkG gt σ [x, y] [s] none (.v undef) [(s, ⟨k', .box (putL cs off xs)⟩)] :: acc) (σ.hup s ⟨k', .box (putL cs off xs)⟩) K) : Op1 P X n ops gt ⟨none, .store t x y, ty, ps, af, g⟩ os acc σ K := x_store hTB ht hx hH hk z (vf_eq hz) hxs hl hm ho h
theorem m_fn1 {f : FuncId} {z : AV} (hy : vf (ev σ x) = some z) (h : Exec P X n ops os (mkG gt σ [x] [] d (.fn f [z]) [] :: acc) (σ.put d (.fn f [z])) K) : Op1 P X n ops gt ⟨d, .makeFunc (.func f) #[] #[x], ty, ps, af, g⟩ os acc σ K := x_makeFunc1 z (vf_eq hy) h
theorem m_pickt {c : Operand} {b : Bool} {z : AV} (hc : ev σ c = .v (.bool b)) (hb : b = true) (hz : vf (ev σ x) = some z) (h : Exec P X n ops os (mkG gt σ [c, x, y] [] d z [] :: acc) (σ.put d z) K) : Op1 P X n ops gt ⟨d, .pick c x y, ty, ps, af, g⟩ os acc σ K := x_pick_t z hc hb (vf_eq hz) h
theorem m_pickf {c : Operand} {b : Bool} {z : AV} (hc : ev σ c = .v (.bool b)) (hb : b = false) (hz : vf (ev σ y) = some z) (h : Exec P X n ops os (mkG gt σ [c, x, y] [] d z [] :: acc) (σ.put d z) K) : Op1 P X n ops gt ⟨d, .pick c x y, ty, ps, af, g⟩ os acc σ K := x_pick_f z hc hb (vf_eq hz) h
theorem m_binI {op : BinOp} {k : IntKind} {a b : Int} {r : Value} (hx : ev σ x = .v (.int k a)) (hy : ev σ y = .v (.int k b)) (hr : binI k a b op = some r) (h : Exec P X n ops os (mkG gt σ [x, y] [] d (.v r) [] :: acc) (σ.put d (.v r)) K) : Op1 P X n ops gt ⟨d, .binOp op tx x y yt, ty, ps, af, g⟩ os acc σ K := by
  cases op <;> first | (injection hr with hr; subst hr; first | exact x_eql hx hy h | exact x_neq hx hy h | exact x_lss hx hy h | exact x_leq hx hy h | exact x_gtr hx hy h | exact x_geq hx hy h | exact x_add hx hy h | exact x_sub hx hy h | exact x_mul hx hy h | exact x_and hx hy h | exact x_or hx hy h | exact x_andNot hx hy h) | cases hr
theorem m_binS {op : BinOp} {a b : ByteArray} {r : Value} (hx : ev σ x = .v (.string a)) (hy : ev σ y = .v (.string b)) (hr : binS a b op = some r) (h : Exec P X n ops os (mkG gt σ [x, y] [] d (.v r) [] :: acc) (σ.put d (.v r)) K) : Op1 P X n ops gt ⟨d, .binOp op tx x y yt, ty, ps, af, g⟩ os acc σ K := by
  cases op <;> first | (injection hr with hr; subst hr; first | exact x_eql_s hx hy h | exact x_neq_s hx hy h | exact x_lss_s hx hy h | exact x_leq_s hx hy h | exact x_gtr_s hx hy h | exact x_geq_s hx hy h) | cases hr
theorem m_build (hTB : TabsOk P TB) {t : TypeId} {parts : List (Nat × Operand)} {fs pl : List (Nat × Nat)} {zs : List Value} {vals : List (Nat × AV)} {cs : List AV} (hf : lk TB.fld t = some fs) (hz : lk TB.zer t = some zs) (hp : mplaces TB fs = some pl) (hv : vfsL σ parts = some vals) (hc : afill pl (zs.map .v) vals = some cs)
    (h : Exec P X n ops os (mkG gt σ (parts.map (·.2)) [] d (.ag cs) [] :: acc) (σ.put d (.ag cs)) K) : Op1 P X n ops gt ⟨d, .build t parts.toArray, ty, ps, af, g⟩ os acc σ K := x_build hTB hf hz hp (vfsL_eq hv) ⟨cs, hc, h⟩
theorem m_buildSlice (hTB : TabsOk P TB) {t : TypeId} {e sz len : Nat} {b : Bool} {parts : List (Nat × Operand)} {vals : List (Nat × AV)} {zs : List Value} (hs : lk TB.sle t = some e) (hz : lk TB.ty e = some (b, sz + 1)) (hzr : lk TB.zer e = some zs) (hzl : zs.length = sz + 1) (hlen : parts.length = len) (hpos : 0 < len) (hsm : Nat.ble (len * (sz + 1)) 16777216 = true) (hv : vfsL σ parts = some vals) (hok : elemsOk (sz + 1) 0 vals = true)
    (h : Exec P X n ops os (mkG gt σ (parts.map (·.2)) [] d (.sl (sz + 1) (vals.map (·.2))) [] :: acc) (σ.put d (.sl (sz + 1) (vals.map (·.2)))) K) : Op1 P X n ops gt ⟨d, .buildSlice t len parts.toArray, ty, ps, af, g⟩ os acc σ K := x_buildSlice hTB hs hz hzr hzl hlen hpos hsm (vfsL_eq hv) ⟨hok, h⟩
end
end Go.Proofs.YtbacidnhjmdnlaaDoor
