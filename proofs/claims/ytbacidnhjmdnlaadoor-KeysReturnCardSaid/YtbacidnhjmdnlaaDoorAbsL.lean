/- The operations of the abstract machine on numbers, truth values and strings; conditions: none. -/
import Derived.Test.YtbacidnhjmdnlaaDoorAbsK
import Derived.IntWalk
import Derived.RowKit
set_option linter.unusedVariables false
set_option linter.unusedSimpArgs false
namespace Go.Proofs.YtbacidnhjmdnlaaDoor
open Go Go.RowKit
theorem wrap_i64_in {z : Int} (h : -9223372036854775808 ≤ z ∧ z ≤ 9223372036854775807) : IntKind.i64.wrap z = z := by rw [IntKind.wrap_i64]; omega
theorem wrap_u64_in {z : Int} (h : 0 ≤ z ∧ z ≤ 18446744073709551615) : IntKind.u64.wrap z = z := by rw [IntKind.wrap_u64]; omega
theorem wrap_u8_in {z : Int} (h : 0 ≤ z ∧ z ≤ 255) : IntKind.u8.wrap z = z := by
  unfold IntKind.wrap
  simp [IntKind.bits, IntKind.signed]
  omega
def strEq (a b : ByteArray) : Bool := a.toList == b.toList
def strLt (a b : ByteArray) : Bool := Op.bytesLess a.toList b.toList
theorem strEq_iff {a b : ByteArray} : strEq a b = true ↔ a = b := by
  unfold strEq
  rw [ByteArray.toList_eq, ByteArray.toList_eq, beq_iff_eq]
  constructor
  · intro h; cases a; cases b; simp at h; rw [h]
  · rintro rfl; rfl
section
variable {P : Program} {X : Ctx} {n : Nat} {ops : Array Oper} {os : List Oper} {acc : List Rule} {σ : AS} {K : List Rule → AS → Prop} {gt : List (Nat × AV)} {d : Option Nat} {ty : TypeId} {ps : String} {af : Array Edge} {g : Option (Nat × Bool)} {tx yt : TypeId} {x y : Operand}
theorem x_eql {k : IntKind} {a b : Int} (hx : ev σ x = .v (.int k a)) (hy : ev σ y = .v (.int k b)) (h : Exec P X n ops os (mkG gt σ [x, y] [] d (.v (.bool (a == b))) [] :: acc) (σ.put d (.v (.bool (a == b)))) K) : Op1 P X n ops gt ⟨d, .binOp .eql tx x y yt, ty, ps, af, g⟩ os acc σ K :=
  x_bin hx hy (fun w => by simp only [eqGuard_at_int, binOp_eql, pure_bind]; rfl) h
theorem x_neq {k : IntKind} {a b : Int} (hx : ev σ x = .v (.int k a)) (hy : ev σ y = .v (.int k b)) (h : Exec P X n ops os (mkG gt σ [x, y] [] d (.v (.bool (a != b))) [] :: acc) (σ.put d (.v (.bool (a != b)))) K) : Op1 P X n ops gt ⟨d, .binOp .neq tx x y yt, ty, ps, af, g⟩ os acc σ K :=
  x_bin hx hy (fun w => by simp only [eqGuard_at_int, binOp_neq, pure_bind]; rfl) h
theorem x_lss {k : IntKind} {a b : Int} (hx : ev σ x = .v (.int k a)) (hy : ev σ y = .v (.int k b)) (h : Exec P X n ops os (mkG gt σ [x, y] [] d (.v (.bool (decide (a < b)))) [] :: acc) (σ.put d (.v (.bool (decide (a < b))))) K) : Op1 P X n ops gt ⟨d, .binOp .lss tx x y yt, ty, ps, af, g⟩ os acc σ K :=
  x_bin hx hy (fun w => by simp only [eqGuard_at_int, binOp_lss, pure_bind]; rfl) h
theorem x_leq {k : IntKind} {a b : Int} (hx : ev σ x = .v (.int k a)) (hy : ev σ y = .v (.int k b)) (h : Exec P X n ops os (mkG gt σ [x, y] [] d (.v (.bool (decide (a ≤ b)))) [] :: acc) (σ.put d (.v (.bool (decide (a ≤ b))))) K) : Op1 P X n ops gt ⟨d, .binOp .leq tx x y yt, ty, ps, af, g⟩ os acc σ K :=
  x_bin hx hy (fun w => by simp only [eqGuard_at_int, binOp_leq, pure_bind]; rfl) h
theorem x_gtr {k : IntKind} {a b : Int} (hx : ev σ x = .v (.int k a)) (hy : ev σ y = .v (.int k b)) (h : Exec P X n ops os (mkG gt σ [x, y] [] d (.v (.bool (decide (a > b)))) [] :: acc) (σ.put d (.v (.bool (decide (a > b))))) K) : Op1 P X n ops gt ⟨d, .binOp .gtr tx x y yt, ty, ps, af, g⟩ os acc σ K :=
  x_bin hx hy (fun w => by simp only [eqGuard_at_int, binOp_gtr, pure_bind]; rfl) h
theorem x_geq {k : IntKind} {a b : Int} (hx : ev σ x = .v (.int k a)) (hy : ev σ y = .v (.int k b)) (h : Exec P X n ops os (mkG gt σ [x, y] [] d (.v (.bool (decide (a ≥ b)))) [] :: acc) (σ.put d (.v (.bool (decide (a ≥ b))))) K) : Op1 P X n ops gt ⟨d, .binOp .geq tx x y yt, ty, ps, af, g⟩ os acc σ K :=
  x_bin hx hy (fun w => by simp only [eqGuard_at_int, binOp_geq, pure_bind]; rfl) h
theorem x_add {k : IntKind} {a b : Int} (hx : ev σ x = .v (.int k a)) (hy : ev σ y = .v (.int k b)) (h : Exec P X n ops os (mkG gt σ [x, y] [] d (.v (.int k (k.wrap (a + b)))) [] :: acc) (σ.put d (.v (.int k (k.wrap (a + b))))) K) : Op1 P X n ops gt ⟨d, .binOp .add tx x y yt, ty, ps, af, g⟩ os acc σ K :=
  x_bin hx hy (fun w => by simp only [eqGuard_at_int, binOp_add, pure_bind]; rfl) h
theorem x_add_in {a b : Int} (hx : ev σ x = .v (.int .i64 a)) (hy : ev σ y = .v (.int .i64 b)) (hb : -9223372036854775808 ≤ a + b ∧ a + b ≤ 9223372036854775807) (h : Exec P X n ops os (mkG gt σ [x, y] [] d (.v (.int .i64 (a + b))) [] :: acc) (σ.put d (.v (.int .i64 (a + b)))) K) : Op1 P X n ops gt ⟨d, .binOp .add tx x y yt, ty, ps, af, g⟩ os acc σ K :=
  x_bin hx hy (fun w => by simp only [eqGuard_at_int, binOp_add, pure_bind, Op.intArith]; rw [IntKind.wrap_i64, show (a + b + 9223372036854775808) % 18446744073709551616 - 9223372036854775808 = a + b by omega]; rfl) h
theorem x_sub {k : IntKind} {a b : Int} (hx : ev σ x = .v (.int k a)) (hy : ev σ y = .v (.int k b)) (h : Exec P X n ops os (mkG gt σ [x, y] [] d (.v (.int k (k.wrap (a - b)))) [] :: acc) (σ.put d (.v (.int k (k.wrap (a - b))))) K) : Op1 P X n ops gt ⟨d, .binOp .sub tx x y yt, ty, ps, af, g⟩ os acc σ K :=
  x_bin hx hy (fun w => by simp only [eqGuard_at_int, binOp_sub, pure_bind]; rfl) h
theorem x_sub_in {a b : Int} (hx : ev σ x = .v (.int .i64 a)) (hy : ev σ y = .v (.int .i64 b)) (hb : -9223372036854775808 ≤ a - b ∧ a - b ≤ 9223372036854775807) (h : Exec P X n ops os (mkG gt σ [x, y] [] d (.v (.int .i64 (a - b))) [] :: acc) (σ.put d (.v (.int .i64 (a - b)))) K) : Op1 P X n ops gt ⟨d, .binOp .sub tx x y yt, ty, ps, af, g⟩ os acc σ K :=
  x_bin hx hy (fun w => by simp only [eqGuard_at_int, binOp_sub, pure_bind, Op.intArith]; rw [IntKind.wrap_i64, show (a - b + 9223372036854775808) % 18446744073709551616 - 9223372036854775808 = a - b by omega]; rfl) h
theorem x_mul {k : IntKind} {a b : Int} (hx : ev σ x = .v (.int k a)) (hy : ev σ y = .v (.int k b)) (h : Exec P X n ops os (mkG gt σ [x, y] [] d (.v (.int k (k.wrap (a * b)))) [] :: acc) (σ.put d (.v (.int k (k.wrap (a * b))))) K) : Op1 P X n ops gt ⟨d, .binOp .mul tx x y yt, ty, ps, af, g⟩ os acc σ K :=
  x_bin hx hy (fun w => by simp only [eqGuard_at_int, binOp_mul, pure_bind]; rfl) h
theorem x_quo {k : IntKind} {a b : Int} (hx : ev σ x = .v (.int k a)) (hy : ev σ y = .v (.int k b)) (hb : b ≠ 0) (h : Exec P X n ops os (mkG gt σ [x, y] [] d (.v (.int k (k.wrap (a.tdiv b)))) [] :: acc) (σ.put d (.v (.int k (k.wrap (a.tdiv b))))) K) : Op1 P X n ops gt ⟨d, .binOp .quo tx x y yt, ty, ps, af, g⟩ os acc σ K :=
  x_bin hx hy (fun w => by simp only [eqGuard_at_int, binOp_quo, pure_bind, Op.intDiv, if_neg hb]; rfl) h
theorem x_rem {k : IntKind} {a b : Int} (hx : ev σ x = .v (.int k a)) (hy : ev σ y = .v (.int k b)) (hb : b ≠ 0) (h : Exec P X n ops os (mkG gt σ [x, y] [] d (.v (.int k (a.tmod b))) [] :: acc) (σ.put d (.v (.int k (a.tmod b)))) K) : Op1 P X n ops gt ⟨d, .binOp .rem tx x y yt, ty, ps, af, g⟩ os acc σ K :=
  x_bin hx hy (fun w => by simp only [eqGuard_at_int, binOp_rem, pure_bind, Op.intDiv, if_neg hb]; rfl) h
theorem x_shr {k yk : IntKind} {a b : Int} (hx : ev σ x = .v (.int k a)) (hy : ev σ y = .v (.int yk b)) (hb : 0 ≤ b ∧ b ≤ k.bits) (h : Exec P X n ops os (mkG gt σ [x, y] [] d (.v (.int k (a / 2 ^ b.toNat))) [] :: acc) (σ.put d (.v (.int k (a / 2 ^ b.toNat)))) K) : Op1 P X n ops gt ⟨d, .binOp .shr tx x y yt, ty, ps, af, g⟩ os acc σ K :=
  x_bin hx hy (fun w => by simp only [eqGuard_at_int, binOp_shr, pure_bind]; rw [shift_shr k yk a b hb.1 hb.2]; rfl) h
theorem x_shl {k yk : IntKind} {a b : Int} (hx : ev σ x = .v (.int k a)) (hy : ev σ y = .v (.int yk b)) (hb : 0 ≤ b ∧ b ≤ k.bits) (h : Exec P X n ops os (mkG gt σ [x, y] [] d (.v (.int k (k.wrap (a * 2 ^ b.toNat)))) [] :: acc) (σ.put d (.v (.int k (k.wrap (a * 2 ^ b.toNat))))) K) : Op1 P X n ops gt ⟨d, .binOp .shl tx x y yt, ty, ps, af, g⟩ os acc σ K :=
  x_bin hx hy (fun w => by simp only [eqGuard_at_int, binOp_shl, pure_bind]; rw [shift_shl k yk a b hb.1 hb.2]; rfl) h
theorem x_conv_int {TB : Tabs} (hTB : TabsOk P TB) {src dst : TypeId} {k ks kd : IntKind} {z : Int} (hs : lk TB.ik src = some ks) (hd : lk TB.ik dst = some kd) (hx : ev σ x = .v (.int k z)) (h : Exec P X n ops os (mkG gt σ [x] [] d (.v (.int kd (kd.wrap z))) [] :: acc) (σ.put d (.v (.int kd (kd.wrap z)))) K) : Op1 P X n ops gt ⟨d, .convert src dst x, ty, ps, af, g⟩ os acc σ K :=
  x_conv hx (fun w => by
    have h1 := tab_ik hTB hd
    have h2 : P.intKind dst = kd := by unfold Program.intKind; rw [h1]
    have := run_convert_int (P := P) w src dst k z (by rw [tab_ik hTB hs]; rfl) (by rw [h2]; exact h1)
    rw [h2] at this
    exact this) h
theorem x_conv_in {TB : Tabs} (hTB : TabsOk P TB) {src dst : TypeId} {k ks kd : IntKind} {z : Int} (hs : lk TB.ik src = some ks) (hd : lk TB.ik dst = some kd) (hx : ev σ x = .v (.int k z)) (hw : kd.wrap z = z) (h : Exec P X n ops os (mkG gt σ [x] [] d (.v (.int kd z)) [] :: acc) (σ.put d (.v (.int kd z))) K) : Op1 P X n ops gt ⟨d, .convert src dst x, ty, ps, af, g⟩ os acc σ K :=
  x_conv_int hTB hs hd hx (by rw [hw]; exact h)
theorem x_and {k : IntKind} {a b : Int} (hx : ev σ x = .v (.int k a)) (hy : ev σ y = .v (.int k b)) (h : Exec P X n ops os (mkG gt σ [x, y] [] d (.v (.int k (bits .and k a b))) [] :: acc) (σ.put d (.v (.int k (bits .and k a b)))) K) : Op1 P X n ops gt ⟨d, .binOp .and tx x y yt, ty, ps, af, g⟩ os acc σ K :=
  x_bin hx hy (fun w => by simp only [eqGuard_at_int, binOp_and, pure_bind]; rfl) h
theorem x_or {k : IntKind} {a b : Int} (hx : ev σ x = .v (.int k a)) (hy : ev σ y = .v (.int k b)) (h : Exec P X n ops os (mkG gt σ [x, y] [] d (.v (.int k (bits .or k a b))) [] :: acc) (σ.put d (.v (.int k (bits .or k a b)))) K) : Op1 P X n ops gt ⟨d, .binOp .or tx x y yt, ty, ps, af, g⟩ os acc σ K :=
  x_bin hx hy (fun w => by simp only [eqGuard_at_int, binOp_or, pure_bind]; rfl) h
theorem x_andNot {k : IntKind} {a b : Int} (hx : ev σ x = .v (.int k a)) (hy : ev σ y = .v (.int k b)) (h : Exec P X n ops os (mkG gt σ [x, y] [] d (.v (.int k (bits .andNot k a b))) [] :: acc) (σ.put d (.v (.int k (bits .andNot k a b)))) K) : Op1 P X n ops gt ⟨d, .binOp .andNot tx x y yt, ty, ps, af, g⟩ os acc σ K :=
  x_bin hx hy (fun w => by simp only [eqGuard_at_int, binOp_andNot, pure_bind]; rfl) h
theorem x_eql_s {a b : ByteArray} (hx : ev σ x = .v (.string a)) (hy : ev σ y = .v (.string b)) (h : Exec P X n ops os (mkG gt σ [x, y] [] d (.v (.bool (strEq a b))) [] :: acc) (σ.put d (.v (.bool (strEq a b)))) K) : Op1 P X n ops gt ⟨d, .binOp .eql tx x y yt, ty, ps, af, g⟩ os acc σ K :=
  x_bin hx hy (fun w => by simp only [eqGuard_at_string, pure_bind]; simp [binOp, Op.stringOp, strEq, strLt]) h
theorem x_neq_s {a b : ByteArray} (hx : ev σ x = .v (.string a)) (hy : ev σ y = .v (.string b)) (h : Exec P X n ops os (mkG gt σ [x, y] [] d (.v (.bool (!strEq a b))) [] :: acc) (σ.put d (.v (.bool (!strEq a b)))) K) : Op1 P X n ops gt ⟨d, .binOp .neq tx x y yt, ty, ps, af, g⟩ os acc σ K :=
  x_bin hx hy (fun w => by simp only [eqGuard_at_string, pure_bind]; simp [binOp, Op.stringOp, strEq, strLt]) h
theorem x_lss_s {a b : ByteArray} (hx : ev σ x = .v (.string a)) (hy : ev σ y = .v (.string b)) (h : Exec P X n ops os (mkG gt σ [x, y] [] d (.v (.bool (strLt a b))) [] :: acc) (σ.put d (.v (.bool (strLt a b)))) K) : Op1 P X n ops gt ⟨d, .binOp .lss tx x y yt, ty, ps, af, g⟩ os acc σ K :=
  x_bin hx hy (fun w => by simp only [eqGuard_at_string, pure_bind]; simp [binOp, Op.stringOp, strEq, strLt]) h
theorem x_leq_s {a b : ByteArray} (hx : ev σ x = .v (.string a)) (hy : ev σ y = .v (.string b)) (h : Exec P X n ops os (mkG gt σ [x, y] [] d (.v (.bool (strLt a b || strEq a b))) [] :: acc) (σ.put d (.v (.bool (strLt a b || strEq a b)))) K) : Op1 P X n ops gt ⟨d, .binOp .leq tx x y yt, ty, ps, af, g⟩ os acc σ K :=
  x_bin hx hy (fun w => by simp only [eqGuard_at_string, pure_bind]; simp [binOp, Op.stringOp, strEq, strLt]) h
theorem x_gtr_s {a b : ByteArray} (hx : ev σ x = .v (.string a)) (hy : ev σ y = .v (.string b)) (h : Exec P X n ops os (mkG gt σ [x, y] [] d (.v (.bool (!(strLt a b || strEq a b)))) [] :: acc) (σ.put d (.v (.bool (!(strLt a b || strEq a b))))) K) : Op1 P X n ops gt ⟨d, .binOp .gtr tx x y yt, ty, ps, af, g⟩ os acc σ K :=
  x_bin hx hy (fun w => by simp only [eqGuard_at_string, pure_bind]; simp [binOp, Op.stringOp, strEq, strLt]) h
theorem x_geq_s {a b : ByteArray} (hx : ev σ x = .v (.string a)) (hy : ev σ y = .v (.string b)) (h : Exec P X n ops os (mkG gt σ [x, y] [] d (.v (.bool (!strLt a b))) [] :: acc) (σ.put d (.v (.bool (!strLt a b)))) K) : Op1 P X n ops gt ⟨d, .binOp .geq tx x y yt, ty, ps, af, g⟩ os acc σ K :=
  x_bin hx hy (fun w => by simp only [eqGuard_at_string, pure_bind]; simp [binOp, Op.stringOp, strEq, strLt]) h
theorem x_add_s {a b : ByteArray} (hx : ev σ x = .v (.string a)) (hy : ev σ y = .v (.string b)) (hs : a.size + b.size ≤ 9223372036854775807) (h : Exec P X n ops os (mkG gt σ [x, y] [] d (.v (.string (a ++ b))) [] :: acc) (σ.put d (.v (.string (a ++ b)))) K) : Op1 P X n ops gt ⟨d, .binOp .add tx x y yt, ty, ps, af, g⟩ os acc σ K :=
  x_bin hx hy (fun w => by
    simp only [eqGuard_at_string, pure_bind]
    simp only [binOp, Op.stringOp]
    rw [if_neg (by simp [IntKind.max, IntKind.bits, IntKind.signed]; omega)]
    rfl) h
theorem x_eql_b {a b : Bool} (ht : P.underlying tx = some .bool) (hx : ev σ x = .v (.bool a)) (hy : ev σ y = .v (.bool b)) (h : Exec P X n ops os (mkG gt σ [x, y] [] d (.v (.bool (a == b))) [] :: acc) (σ.put d (.v (.bool (a == b)))) K) : Op1 P X n ops gt ⟨d, .binOp .eql tx x y yt, ty, ps, af, g⟩ os acc σ K :=
  x_bin hx hy (fun w => by simp only [eqGuard_at_bool, pure_bind]; exact run_eql_bool w tx a b ht) h
theorem x_neq_b {a b : Bool} (ht : P.underlying tx = some .bool) (hx : ev σ x = .v (.bool a)) (hy : ev σ y = .v (.bool b)) (h : Exec P X n ops os (mkG gt σ [x, y] [] d (.v (.bool (a != b))) [] :: acc) (σ.put d (.v (.bool (a != b)))) K) : Op1 P X n ops gt ⟨d, .binOp .neq tx x y yt, ty, ps, af, g⟩ os acc σ K :=
  x_bin hx hy (fun w => by
    simp only [eqGuard_at_bool, pure_bind]
    simp only [binOp, Sem.run_bind, run_equal_bool w tx a b ht, Result.andThen_ok]
    rfl) h
def concL : List AV → Option (List Value)
  | [] => some []
  | .v x :: l => match concL l with
    | some us => some (x :: us)
    | none => none
  | _ :: _ => none
theorem concL_map : ∀ {cs : List AV} {us : List Value}, concL cs = some us → cs = us.map .v
  | [], us, h => by injection h with h; subst h; rfl
  | .v x :: l, us, h => by
    unfold concL at h
    cases hl : concL l with
    | none => rw [hl] at h; cases h
    | some vs => rw [hl] at h; injection h with h; subst h; rw [concL_map hl]; rfl
theorem conc_rep {M : Nat → Option (Array Value)} {ρ : Nat → Nat → Option Value} {cs : List AV} {us : List Value} (hc : concL cs = some us) {u : Value} (h : Rep M ρ (.ag cs) u) : u = .agg ⟨us⟩ := by
  obtain ⟨vs, rfl, h1, h2⟩ := h.ag_inv
  have := concL_map hc
  subst this
  have : vs = us := by
    refine List.ext_getElem? fun j => ?_
    cases hj : us[j]? with
    | none =>
      have : us.length ≤ j := by simpa using hj
      exact List.getElem?_eq_none (by simp at h1; omega)
    | some x =>
      obtain ⟨y, hy⟩ := some_at (L := vs) (k := j) (by have := lt_at hj; simp at h1; omega)
      have h3 := h2 j (.v x) y (by rw [List.getElem?_map, hj]; rfl) hy
      rw [hy, h3.v_inv]
  rw [this]
theorem x_bin_ag {op : BinOp} {cs ds : List AV} {us vs : List Value} {r : Value} (hx : ev σ x = .ag cs) (hy : ev σ y = .ag ds) (hu : concL cs = some us) (hv : concL ds = some vs) (hrun : ∀ w, (do eqGuard op tx x y (.agg ⟨us⟩) (.agg ⟨vs⟩); binOp op tx (.agg ⟨us⟩) (.agg ⟨vs⟩) : Sem Value).run P w = .ok r w)
    (h : Exec P X n ops os (mkG gt σ [x, y] [] d (.v r) [] :: acc) (σ.put d (.v r)) K) : Op1 P X n ops gt ⟨d, .binOp op tx x y yt, ty, ps, af, g⟩ os acc σ K :=
  x_pure (fun M ρ τ a w he hR => ⟨r, by
    have h1 := hR.ev x
    rw [he x (by simp), hx] at h1
    have h2 := hR.ev y
    rw [he y (by simp), hy] at h2
    unfold execOp
    simp only [conc_rep hu h1, conc_rep hv h2]
    rw [Sem.run_bind, hrun w]; rfl, .v _ _⟩) h
theorem x_not {b : Bool} (hx : ev σ x = .v (.bool b)) (h : Exec P X n ops os (mkG gt σ [x] [] d (.v (.bool (!b))) [] :: acc) (σ.put d (.v (.bool (!b)))) K) : Op1 P X n ops gt ⟨d, .unOp .not tx x, ty, ps, af, g⟩ os acc σ K :=
  x_un hx (fun w => rfl) h
end
end Go.Proofs.YtbacidnhjmdnlaaDoor
