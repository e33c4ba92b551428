/- The operations of the abstract machine on numbers, truth values and strings; conditions: none. | How a walk of the abstract machine goes on from statement to statement; conditions: none. | More operations of the abstract machine: struct and slice literals, slice expressions, calls of closures; conditions: tables of types that agree with the program's. | More operations of the abstract machine: slice expressions, append, calls of closures; conditions: tables of types that agree with the program's. -/
import Derived.Test.YtnafokinifbfhaaGreatDoorAbsH
import Derived.IntWalk
import Derived.RowKit
set_option linter.unusedVariables false
set_option linter.unusedSimpArgs false
namespace Go.Proofs.YtnafokinifbfhaaGreatDoor
open Go Go.RowKit
theorem yy {z : Int} (h : -9223372036854775808 ≤ z ∧ z ≤ 9223372036854775807) : IntKind.i64.wrap z = z := by rw [IntKind.wrap_i64]; omega
theorem jg {z : Int} (h : 0 ≤ z ∧ z ≤ 18446744073709551615) : IntKind.u64.wrap z = z := by rw [IntKind.wrap_u64]; omega
theorem aP {z : Int} (h : 0 ≤ z ∧ z ≤ 255) : IntKind.u8.wrap z = z := by
  unfold IntKind.wrap
  simp [IntKind.bits, IntKind.signed]
  omega
def jD (a b : ByteArray) : Bool := a.toList == b.toList
def qM (a b : ByteArray) : Bool := Op.bytesLess a.toList b.toList
theorem qT {a b : ByteArray} : jD a b = true ↔ a = b := by
  unfold jD
  rw [ByteArray.toList_eq, ByteArray.toList_eq, beq_iff_eq]
  constructor
  · intro h; cases a; cases b; simp at h; rw [h]
  · rintro rfl; rfl
section
variable {P : Program} {X : Ctx} {n : Nat} {ops : Array Oper} {os : List Oper} {acc : List Rule} {σ : AS} {K : List Rule → AS → Prop} {gt : List (Nat × AV)} {d : Option Nat} {ty : TypeId} {ps : String} {af : Array Edge} {g : Option (Nat × Bool)} {tx yt : TypeId} {x y : Operand}
theorem x_eql {k : IntKind} {a b : Int} (hx : ev σ x = .v (.int k a)) (hy : ev σ y = .v (.int k b)) (h : Exec P X n ops os (mkG gt σ [x, y] [] d (.v (.bool (a == b))) [] :: acc) (σ.put d (.v (.bool (a == b)))) K) : Op1 P X n ops gt ⟨d, .binOp .eql tx x y yt, ty, ps, af, g⟩ os acc σ K :=
  jF hx hy (fun w => by simp only [eqGuard_at_int, binOp_eql, pure_bind]; rfl) h
theorem x_neq {k : IntKind} {a b : Int} (hx : ev σ x = .v (.int k a)) (hy : ev σ y = .v (.int k b)) (h : Exec P X n ops os (mkG gt σ [x, y] [] d (.v (.bool (a != b))) [] :: acc) (σ.put d (.v (.bool (a != b)))) K) : Op1 P X n ops gt ⟨d, .binOp .neq tx x y yt, ty, ps, af, g⟩ os acc σ K :=
  jF hx hy (fun w => by simp only [eqGuard_at_int, binOp_neq, pure_bind]; rfl) h
theorem x_lss {k : IntKind} {a b : Int} (hx : ev σ x = .v (.int k a)) (hy : ev σ y = .v (.int k b)) (h : Exec P X n ops os (mkG gt σ [x, y] [] d (.v (.bool (decide (a < b)))) [] :: acc) (σ.put d (.v (.bool (decide (a < b))))) K) : Op1 P X n ops gt ⟨d, .binOp .lss tx x y yt, ty, ps, af, g⟩ os acc σ K :=
  jF hx hy (fun w => by simp only [eqGuard_at_int, binOp_lss, pure_bind]; rfl) h
theorem x_leq {k : IntKind} {a b : Int} (hx : ev σ x = .v (.int k a)) (hy : ev σ y = .v (.int k b)) (h : Exec P X n ops os (mkG gt σ [x, y] [] d (.v (.bool (decide (a ≤ b)))) [] :: acc) (σ.put d (.v (.bool (decide (a ≤ b))))) K) : Op1 P X n ops gt ⟨d, .binOp .leq tx x y yt, ty, ps, af, g⟩ os acc σ K :=
  jF hx hy (fun w => by simp only [eqGuard_at_int, binOp_leq, pure_bind]; rfl) h
theorem x_gtr {k : IntKind} {a b : Int} (hx : ev σ x = .v (.int k a)) (hy : ev σ y = .v (.int k b)) (h : Exec P X n ops os (mkG gt σ [x, y] [] d (.v (.bool (decide (a > b)))) [] :: acc) (σ.put d (.v (.bool (decide (a > b))))) K) : Op1 P X n ops gt ⟨d, .binOp .gtr tx x y yt, ty, ps, af, g⟩ os acc σ K :=
  jF hx hy (fun w => by simp only [eqGuard_at_int, binOp_gtr, pure_bind]; rfl) h
theorem x_geq {k : IntKind} {a b : Int} (hx : ev σ x = .v (.int k a)) (hy : ev σ y = .v (.int k b)) (h : Exec P X n ops os (mkG gt σ [x, y] [] d (.v (.bool (decide (a ≥ b)))) [] :: acc) (σ.put d (.v (.bool (decide (a ≥ b))))) K) : Op1 P X n ops gt ⟨d, .binOp .geq tx x y yt, ty, ps, af, g⟩ os acc σ K :=
  jF hx hy (fun w => by simp only [eqGuard_at_int, binOp_geq, pure_bind]; rfl) h
theorem x_add {k : IntKind} {a b : Int} (hx : ev σ x = .v (.int k a)) (hy : ev σ y = .v (.int k b)) (h : Exec P X n ops os (mkG gt σ [x, y] [] d (.v (.int k (k.wrap (a + b)))) [] :: acc) (σ.put d (.v (.int k (k.wrap (a + b))))) K) : Op1 P X n ops gt ⟨d, .binOp .add tx x y yt, ty, ps, af, g⟩ os acc σ K :=
  jF hx hy (fun w => by simp only [eqGuard_at_int, binOp_add, pure_bind]; rfl) h
theorem jR {a b : Int} (hx : ev σ x = .v (.int .i64 a)) (hy : ev σ y = .v (.int .i64 b)) (hb : -9223372036854775808 ≤ a + b ∧ a + b ≤ 9223372036854775807) (h : Exec P X n ops os (mkG gt σ [x, y] [] d (.v (.int .i64 (a + b))) [] :: acc) (σ.put d (.v (.int .i64 (a + b)))) K) : Op1 P X n ops gt ⟨d, .binOp .add tx x y yt, ty, ps, af, g⟩ os acc σ K :=
  jF hx hy (fun w => by simp only [eqGuard_at_int, binOp_add, pure_bind, Op.intArith]; rw [IntKind.wrap_i64, show (a + b + 9223372036854775808) % 18446744073709551616 - 9223372036854775808 = a + b by omega]; rfl) h
theorem x_sub {k : IntKind} {a b : Int} (hx : ev σ x = .v (.int k a)) (hy : ev σ y = .v (.int k b)) (h : Exec P X n ops os (mkG gt σ [x, y] [] d (.v (.int k (k.wrap (a - b)))) [] :: acc) (σ.put d (.v (.int k (k.wrap (a - b))))) K) : Op1 P X n ops gt ⟨d, .binOp .sub tx x y yt, ty, ps, af, g⟩ os acc σ K :=
  jF hx hy (fun w => by simp only [eqGuard_at_int, binOp_sub, pure_bind]; rfl) h
theorem dW {a b : Int} (hx : ev σ x = .v (.int .i64 a)) (hy : ev σ y = .v (.int .i64 b)) (hb : -9223372036854775808 ≤ a - b ∧ a - b ≤ 9223372036854775807) (h : Exec P X n ops os (mkG gt σ [x, y] [] d (.v (.int .i64 (a - b))) [] :: acc) (σ.put d (.v (.int .i64 (a - b)))) K) : Op1 P X n ops gt ⟨d, .binOp .sub tx x y yt, ty, ps, af, g⟩ os acc σ K :=
  jF hx hy (fun w => by simp only [eqGuard_at_int, binOp_sub, pure_bind, Op.intArith]; rw [IntKind.wrap_i64, show (a - b + 9223372036854775808) % 18446744073709551616 - 9223372036854775808 = a - b by omega]; rfl) h
theorem x_mul {k : IntKind} {a b : Int} (hx : ev σ x = .v (.int k a)) (hy : ev σ y = .v (.int k b)) (h : Exec P X n ops os (mkG gt σ [x, y] [] d (.v (.int k (k.wrap (a * b)))) [] :: acc) (σ.put d (.v (.int k (k.wrap (a * b))))) K) : Op1 P X n ops gt ⟨d, .binOp .mul tx x y yt, ty, ps, af, g⟩ os acc σ K :=
  jF hx hy (fun w => by simp only [eqGuard_at_int, binOp_mul, pure_bind]; rfl) h
theorem x_quo {k : IntKind} {a b : Int} (hx : ev σ x = .v (.int k a)) (hy : ev σ y = .v (.int k b)) (hb : b ≠ 0) (h : Exec P X n ops os (mkG gt σ [x, y] [] d (.v (.int k (k.wrap (a.tdiv b)))) [] :: acc) (σ.put d (.v (.int k (k.wrap (a.tdiv b))))) K) : Op1 P X n ops gt ⟨d, .binOp .quo tx x y yt, ty, ps, af, g⟩ os acc σ K :=
  jF hx hy (fun w => by simp only [eqGuard_at_int, binOp_quo, pure_bind, Op.intDiv, if_neg hb]; rfl) h
theorem x_rem {k : IntKind} {a b : Int} (hx : ev σ x = .v (.int k a)) (hy : ev σ y = .v (.int k b)) (hb : b ≠ 0) (h : Exec P X n ops os (mkG gt σ [x, y] [] d (.v (.int k (a.tmod b))) [] :: acc) (σ.put d (.v (.int k (a.tmod b)))) K) : Op1 P X n ops gt ⟨d, .binOp .rem tx x y yt, ty, ps, af, g⟩ os acc σ K :=
  jF hx hy (fun w => by simp only [eqGuard_at_int, binOp_rem, pure_bind, Op.intDiv, if_neg hb]; rfl) h
theorem wV {k yk : IntKind} {a b : Int} (hx : ev σ x = .v (.int k a)) (hy : ev σ y = .v (.int yk b)) (hb : 0 ≤ b ∧ b ≤ k.bits) (h : Exec P X n ops os (mkG gt σ [x, y] [] d (.v (.int k (a / 2 ^ b.toNat))) [] :: acc) (σ.put d (.v (.int k (a / 2 ^ b.toNat)))) K) : Op1 P X n ops gt ⟨d, .binOp .shr tx x y yt, ty, ps, af, g⟩ os acc σ K :=
  jF hx hy (fun w => by simp only [eqGuard_at_int, binOp_shr, pure_bind]; rw [shift_shr k yk a b hb.1 hb.2]; rfl) h
theorem x_shl {k yk : IntKind} {a b : Int} (hx : ev σ x = .v (.int k a)) (hy : ev σ y = .v (.int yk b)) (hb : 0 ≤ b ∧ b ≤ k.bits) (h : Exec P X n ops os (mkG gt σ [x, y] [] d (.v (.int k (k.wrap (a * 2 ^ b.toNat)))) [] :: acc) (σ.put d (.v (.int k (k.wrap (a * 2 ^ b.toNat))))) K) : Op1 P X n ops gt ⟨d, .binOp .shl tx x y yt, ty, ps, af, g⟩ os acc σ K :=
  jF hx hy (fun w => by simp only [eqGuard_at_int, binOp_shl, pure_bind]; rw [shift_shl k yk a b hb.1 hb.2]; rfl) h
theorem qX {TB : Tabs} (hTB : TabsOk P TB) {src dst : TypeId} {k ks kd : IntKind} {z : Int} (hs : lk TB.ik src = some ks) (hd : lk TB.ik dst = some kd) (hx : ev σ x = .v (.int k z)) (h : Exec P X n ops os (mkG gt σ [x] [] d (.v (.int kd (kd.wrap z))) [] :: acc) (σ.put d (.v (.int kd (kd.wrap z)))) K) : Op1 P X n ops gt ⟨d, .convert src dst x, ty, ps, af, g⟩ os acc σ K :=
  x_conv hx (fun w => by
    have h1 := nU hTB hd
    have h2 : P.intKind dst = kd := by unfold Program.intKind; rw [h1]
    have := run_convert_int (P := P) w src dst k z (by rw [nU hTB hs]; rfl) (by rw [h2]; exact h1)
    rw [h2] at this
    exact this) h
theorem cH {TB : Tabs} (hTB : TabsOk P TB) {src dst : TypeId} {k ks kd : IntKind} {z : Int} (hs : lk TB.ik src = some ks) (hd : lk TB.ik dst = some kd) (hx : ev σ x = .v (.int k z)) (hw : kd.wrap z = z) (h : Exec P X n ops os (mkG gt σ [x] [] d (.v (.int kd z)) [] :: acc) (σ.put d (.v (.int kd z))) K) : Op1 P X n ops gt ⟨d, .convert src dst x, ty, ps, af, g⟩ os acc σ K :=
  qX hTB hs hd hx (by rw [hw]; exact h)
theorem x_and {k : IntKind} {a b : Int} (hx : ev σ x = .v (.int k a)) (hy : ev σ y = .v (.int k b)) (h : Exec P X n ops os (mkG gt σ [x, y] [] d (.v (.int k (bits .and k a b))) [] :: acc) (σ.put d (.v (.int k (bits .and k a b)))) K) : Op1 P X n ops gt ⟨d, .binOp .and tx x y yt, ty, ps, af, g⟩ os acc σ K :=
  jF hx hy (fun w => by simp only [eqGuard_at_int, binOp_and, pure_bind]; rfl) h
theorem x_or {k : IntKind} {a b : Int} (hx : ev σ x = .v (.int k a)) (hy : ev σ y = .v (.int k b)) (h : Exec P X n ops os (mkG gt σ [x, y] [] d (.v (.int k (bits .or k a b))) [] :: acc) (σ.put d (.v (.int k (bits .or k a b)))) K) : Op1 P X n ops gt ⟨d, .binOp .or tx x y yt, ty, ps, af, g⟩ os acc σ K :=
  jF hx hy (fun w => by simp only [eqGuard_at_int, binOp_or, pure_bind]; rfl) h
theorem x_andNot {k : IntKind} {a b : Int} (hx : ev σ x = .v (.int k a)) (hy : ev σ y = .v (.int k b)) (h : Exec P X n ops os (mkG gt σ [x, y] [] d (.v (.int k (bits .andNot k a b))) [] :: acc) (σ.put d (.v (.int k (bits .andNot k a b)))) K) : Op1 P X n ops gt ⟨d, .binOp .andNot tx x y yt, ty, ps, af, g⟩ os acc σ K :=
  jF hx hy (fun w => by simp only [eqGuard_at_int, binOp_andNot, pure_bind]; rfl) h
theorem x_eql_s {a b : ByteArray} (hx : ev σ x = .v (.string a)) (hy : ev σ y = .v (.string b)) (h : Exec P X n ops os (mkG gt σ [x, y] [] d (.v (.bool (jD a b))) [] :: acc) (σ.put d (.v (.bool (jD a b)))) K) : Op1 P X n ops gt ⟨d, .binOp .eql tx x y yt, ty, ps, af, g⟩ os acc σ K :=
  jF hx hy (fun w => by simp only [eqGuard_at_string, pure_bind]; simp [binOp, Op.stringOp, jD, qM]) h
theorem x_neq_s {a b : ByteArray} (hx : ev σ x = .v (.string a)) (hy : ev σ y = .v (.string b)) (h : Exec P X n ops os (mkG gt σ [x, y] [] d (.v (.bool (!jD a b))) [] :: acc) (σ.put d (.v (.bool (!jD a b)))) K) : Op1 P X n ops gt ⟨d, .binOp .neq tx x y yt, ty, ps, af, g⟩ os acc σ K :=
  jF hx hy (fun w => by simp only [eqGuard_at_string, pure_bind]; simp [binOp, Op.stringOp, jD, qM]) h
theorem x_lss_s {a b : ByteArray} (hx : ev σ x = .v (.string a)) (hy : ev σ y = .v (.string b)) (h : Exec P X n ops os (mkG gt σ [x, y] [] d (.v (.bool (qM a b))) [] :: acc) (σ.put d (.v (.bool (qM a b)))) K) : Op1 P X n ops gt ⟨d, .binOp .lss tx x y yt, ty, ps, af, g⟩ os acc σ K :=
  jF hx hy (fun w => by simp only [eqGuard_at_string, pure_bind]; simp [binOp, Op.stringOp, jD, qM]) h
theorem x_leq_s {a b : ByteArray} (hx : ev σ x = .v (.string a)) (hy : ev σ y = .v (.string b)) (h : Exec P X n ops os (mkG gt σ [x, y] [] d (.v (.bool (qM a b || jD a b))) [] :: acc) (σ.put d (.v (.bool (qM a b || jD a b)))) K) : Op1 P X n ops gt ⟨d, .binOp .leq tx x y yt, ty, ps, af, g⟩ os acc σ K :=
  jF hx hy (fun w => by simp only [eqGuard_at_string, pure_bind]; simp [binOp, Op.stringOp, jD, qM]) h
theorem x_gtr_s {a b : ByteArray} (hx : ev σ x = .v (.string a)) (hy : ev σ y = .v (.string b)) (h : Exec P X n ops os (mkG gt σ [x, y] [] d (.v (.bool (!(qM a b || jD a b)))) [] :: acc) (σ.put d (.v (.bool (!(qM a b || jD a b))))) K) : Op1 P X n ops gt ⟨d, .binOp .gtr tx x y yt, ty, ps, af, g⟩ os acc σ K :=
  jF hx hy (fun w => by simp only [eqGuard_at_string, pure_bind]; simp [binOp, Op.stringOp, jD, qM]) h
theorem x_geq_s {a b : ByteArray} (hx : ev σ x = .v (.string a)) (hy : ev σ y = .v (.string b)) (h : Exec P X n ops os (mkG gt σ [x, y] [] d (.v (.bool (!qM a b))) [] :: acc) (σ.put d (.v (.bool (!qM a b)))) K) : Op1 P X n ops gt ⟨d, .binOp .geq tx x y yt, ty, ps, af, g⟩ os acc σ K :=
  jF hx hy (fun w => by simp only [eqGuard_at_string, pure_bind]; simp [binOp, Op.stringOp, jD, qM]) h
theorem x_add_s {a b : ByteArray} (hx : ev σ x = .v (.string a)) (hy : ev σ y = .v (.string b)) (hs : a.size + b.size ≤ 9223372036854775807) (h : Exec P X n ops os (mkG gt σ [x, y] [] d (.v (.string (a ++ b))) [] :: acc) (σ.put d (.v (.string (a ++ b)))) K) : Op1 P X n ops gt ⟨d, .binOp .add tx x y yt, ty, ps, af, g⟩ os acc σ K :=
  jF hx hy (fun w => by
    simp only [eqGuard_at_string, pure_bind]
    simp only [binOp, Op.stringOp]
    rw [if_neg (by simp [IntKind.max, IntKind.bits, IntKind.signed]; omega)]
    rfl) h
theorem x_eql_b {a b : Bool} (ht : P.underlying tx = some .bool) (hx : ev σ x = .v (.bool a)) (hy : ev σ y = .v (.bool b)) (h : Exec P X n ops os (mkG gt σ [x, y] [] d (.v (.bool (a == b))) [] :: acc) (σ.put d (.v (.bool (a == b)))) K) : Op1 P X n ops gt ⟨d, .binOp .eql tx x y yt, ty, ps, af, g⟩ os acc σ K :=
  jF hx hy (fun w => by simp only [eqGuard_at_bool, pure_bind]; exact run_eql_bool w tx a b ht) h
theorem x_neq_b {a b : Bool} (ht : P.underlying tx = some .bool) (hx : ev σ x = .v (.bool a)) (hy : ev σ y = .v (.bool b)) (h : Exec P X n ops os (mkG gt σ [x, y] [] d (.v (.bool (a != b))) [] :: acc) (σ.put d (.v (.bool (a != b)))) K) : Op1 P X n ops gt ⟨d, .binOp .neq tx x y yt, ty, ps, af, g⟩ os acc σ K :=
  jF hx hy (fun w => by
    simp only [eqGuard_at_bool, pure_bind]
    simp only [binOp, Sem.run_bind, run_equal_bool w tx a b ht, Result.andThen_ok]
    rfl) h
def tC : List AV → Option (List Value)
  | [] => some []
  | .v x :: l => match tC l with
    | some us => some (x :: us)
    | none => none
  | _ :: _ => none
theorem sO : ∀ {cs : List AV} {us : List Value}, tC cs = some us → cs = us.map .v
  | [], us, h => by injection h with h; subst h; rfl
  | .v x :: l, us, h => by
    unfold tC at h
    cases hl : tC l with
    | none => rw [hl] at h; cases h
    | some vs => rw [hl] at h; injection h with h; subst h; rw [sO hl]; rfl
theorem conc_rep {M : Nat → Option (Array Value)} {ρ : Nat → Nat → Option Value} {cs : List AV} {us : List Value} (hc : tC cs = some us) {u : Value} (h : Rep M ρ (.ag cs) u) : u = .agg ⟨us⟩ := by
  obtain ⟨vs, rfl, h1, h2⟩ := h.ag_inv
  have := sO hc
  subst this
  have : vs = us := by
    refine List.ext_getElem? fun j => ?_
    cases hj : us[j]? with
    | none =>
      have : us.length ≤ j := by simpa using hj
      exact List.getElem?_eq_none (by simp at h1; omega)
    | some x =>
      obtain ⟨y, hy⟩ := zB (L := vs) (k := j) (by have := zM hj; simp at h1; omega)
      have h3 := h2 j (.v x) y (by rw [List.getElem?_map, hj]; rfl) hy
      rw [hy, h3.v_inv]
  rw [this]
theorem dM {b : Bool} (hx : ev σ x = .v (.bool b)) (h : Exec P X n ops os (mkG gt σ [x] [] d (.v (.bool (!b))) [] :: acc) (σ.put d (.v (.bool (!b)))) K) : Op1 P X n ops gt ⟨d, .unOp .not tx x, ty, ps, af, g⟩ os acc σ K :=
  x_un hx (fun w => rfl) h
end
end Go.Proofs.YtnafokinifbfhaaGreatDoor
namespace Go.Proofs.YtnafokinifbfhaaGreatDoor
open Go Go.RowKit
def nrm (Q : Exit → AS → Prop) : List Rule → AS → Prop := fun _ τ => Q .normal τ
def drw (ops : Array Oper) (Q : Exit → AS → Prop) : List Rule → AS → Prop := fun rs τ => aR ops.toList rs = true ∧ Q .normal τ
section
variable {P : Program} {X : Ctx} {n : Nat} {σ τ : AS} {Q : Exit → AS → Prop} {K : AS → Prop} {ops : Array Oper} {acc : List Rule}
theorem zl {id : Nat} (hd : qI n ops.toList = true) (h : Exec P X n ops ops.toList [] σ (nrm Q)) : AWp P X n (.region id ops false) Q σ := pQ hd h
theorem iI {id : Nat} (hm : P.follows .mixedOrders = true) (hd : qI n ops.toList = true) (h : Exec P X n ops ops.toList [] σ (drw ops Q)) : AWp P X n (.region id ops true) Q σ := uY hm hd h
theorem yh (h : Q .normal τ) : Exec P X n ops [] acc τ (nrm Q) := ⟨h⟩
theorem dN {ops' : Array Oper} (hi : aR ops'.toList acc.reverse = true) (h : Q .normal τ) : Exec P X n ops [] acc τ (drw ops' Q) := ⟨⟨hi, h⟩⟩
theorem zw (h : K τ) : mH K Q .normal τ := h
theorem jy {i : Nat} (h : Q (.exit i) τ) : mH K Q (.exit i) τ := h
theorem yd (h : Q .ret τ) : mH K Q .ret τ := h
theorem qZ (h : Q .normal τ) {i : Nat} : qk i Q .normal τ := h
theorem jI (h : Q .ret τ) {i : Nat} : qk i Q .ret τ := h
theorem jl {i j : Nat} (hb : Nat.beq i j = true) (h : Q .normal τ) : qk j Q (.exit i) τ := by
  show bif Nat.beq i j then _ else _
  rw [hb]; exact h
theorem cE {t : Nat} {x y : Code} {b : Bool} (hc : σ.T t = .v (.bool b)) (hb : b = true) (h : AWp P X n x Q σ) : AWp P X n (.cond (.tmp t) x y) Q σ := kJ hc (fun _ => h) (fun h' => by rw [hb] at h'; cases h')
theorem qj {t : Nat} {x y : Code} {b : Bool} (hc : σ.T t = .v (.bool b)) (hb : b = false) (h : AWp P X n y Q σ) : AWp P X n (.cond (.tmp t) x y) Q σ := kJ hc (fun h' => by rw [hb] at h'; cases h') (fun _ => h)
theorem zF {t : Nat} {x y : Code} {b : Bool} (hc : σ.T t = .v (.bool b)) (h1 : b = true → AWp P X n x Q σ) (h2 : b = false → AWp P X n y Q σ) : AWp P X n (.cond (.tmp t) x y) Q σ := kJ hc h1 h2
theorem zL {TB : Tabs} {fn : Func} {r : AV} {u : Value} {t : Nat} {e : Exit} (he : e = .normal ∨ e = .ret) (hfn : fn.results = #[.tmp t]) (hT : σ.T t = .v u) (hr : r = .v u) : RetQ TB fn 0 r [] e σ := by
  subst hr
  refine ⟨he, [σ.T t], [], ?_, rfl, by simp, by simp, ?_, trivial⟩
  · rw [hfn]; exact ⟨.tmp t, trivial⟩
  · show Ren _ _ (.v u) (σ.T t)
    rw [hT]; exact .v u
/-- The end of a function: no box is handed in or out. -/
theorem ret0 {TB : Tabs} {fn : Func} {r : AV} {xs : List AV} {e : Exit} (he : e = .normal ∨ e = .ret) (hx : ResL TB σ fn.results.toList xs) (hr : Ren (bufs σ) (yg 0 []) r (kW xs)) : RetQ TB fn 0 r [] e σ :=
  ⟨he, xs, [], hx, rfl, by simp, by simp, hr, trivial⟩
theorem refs_at {m : Nat} {c' : List AV} {c : List AV} {fs : List (Nat × Nat)} {i : Nat} (hi : i < m) (hH : σ.H (refB + i) = ⟨0, .box c'⟩) (hc : RenL (bufs σ) (yg m fs) c c') : ∃ s k c', yg m fs i = some (s, k) ∧ σ.H s = ⟨k, .box c'⟩ ∧ RenL (bufs σ) (yg m fs) c c' :=
  ⟨refB + i, 0, c', by unfold yg; rw [if_pos hi], hH, hc⟩
/-- The end of a function that was handed one box. -/
theorem ret1 {TB : Tabs} {fn : Func} {r : AV} {xs : List AV} {e : Exit} {c c' : List AV} (he : e = .normal ∨ e = .ret) (hx : ResL TB σ fn.results.toList xs) (hr : Ren (bufs σ) (yg 1 []) r (kW xs)) {k : Nat} (hH : σ.H (refB + 0) = ⟨k, .box c'⟩) (hk : k = 0) (hc : RenL (bufs σ) (yg 1 []) c c') : RetQ TB fn 1 r [c] e σ := by
  subst hk
  exact ⟨he, xs, [], hx, rfl, by simp, by simp, hr, refs_at (by omega) hH hc, trivial⟩
theorem dC {TB : Tabs} {fn : Func} {r : AV} {u : Value} {t k : Nat} {e : Exit} {c c' : List AV} (he : e = .normal ∨ e = .ret) (hfn : fn.results = #[.tmp t]) (hT : σ.T t = .v u) (hH : σ.H (refB + 0) = ⟨k, .box c'⟩) (hk : k = 0) (hr : r = .v u) (hc : c = c') (hp : RenL (bufs σ) (yg 1 []) c' c') : RetQ TB fn 1 r [c] e σ := by
  subst hr; subst hc
  refine ret1 he (xs := [σ.T t]) ?_ ?_ hH hk hp
  · rw [hfn]; exact ⟨.tmp t, trivial⟩
  · show Ren _ _ (.v u) (σ.T t)
    rw [hT]; exact .v u
/-- The end of a function that hands out a new box. -/
theorem retNew {TB : Tabs} {fn : Func} {s k : Nat} {e : Exit} {c c' : List AV} (he : e = .normal ∨ e = .ret) (hx : ResL TB σ fn.results.toList [.ptr s k 0]) (hs : s < refB) (hH : σ.H s = ⟨k, .box c'⟩) (hc : RenL (bufs σ) (yg 0 [(s, k)]) c c') : RetQ TB fn 0 (.ptr (refB + 0) 0 0) [c] e σ :=
  ⟨he, [.ptr s k 0], [(s, k)], hx, rfl, by simp, by simp [hs], .ptr 0 s k 0 rfl, ⟨s, k, c', rfl, hH, hc⟩, trivial⟩
end
section
variable {P : Program} {X : Ctx} {n : Nat} {ops : Array Oper} {os : List Oper} {acc : List Rule} {σ : AS} {K : List Rule → AS → Prop} {gt : List (Nat × AV)} {d : Option Nat} {ty : TypeId} {ps : String} {af : Array Edge} {g : Option (Nat × Bool)} {a b : Nat} {x y z : Operand} {lo hi mx : Option Operand} {c : Call} {bo : BinOp} {uo : UnOp} {fn : Fn} {fs cs : Array Operand} {bp : Array (Nat × Operand)}
theorem yD (h : Op1 P X n ops gt ⟨d, .move x, ty, ps, af, g⟩ os acc σ K) : Op1 P X n ops gt ⟨d, .move x, ty, ps, af, g⟩ os acc σ K := h
theorem zi (h : Op1 P X n ops gt ⟨d, .assign x, ty, ps, af, g⟩ os acc σ K) : Op1 P X n ops gt ⟨d, .assign x, ty, ps, af, g⟩ os acc σ K := h
theorem zS (h : Op1 P X n ops gt ⟨d, .fieldAddr a x b, ty, ps, af, g⟩ os acc σ K) : Op1 P X n ops gt ⟨d, .fieldAddr a x b, ty, ps, af, g⟩ os acc σ K := h
theorem ze (h : Op1 P X n ops gt ⟨d, .load a x, ty, ps, af, g⟩ os acc σ K) : Op1 P X n ops gt ⟨d, .load a x, ty, ps, af, g⟩ os acc σ K := h
theorem zt (h : Op1 P X n ops gt ⟨d, .store a x y, ty, ps, af, g⟩ os acc σ K) : Op1 P X n ops gt ⟨d, .store a x y, ty, ps, af, g⟩ os acc σ K := h
theorem nF (h : Op1 P X n ops gt ⟨d, .alloc a, ty, ps, af, g⟩ os acc σ K) : Op1 P X n ops gt ⟨d, .alloc a, ty, ps, af, g⟩ os acc σ K := h
theorem mG (h : Op1 P X n ops gt ⟨d, .box a x, ty, ps, af, g⟩ os acc σ K) : Op1 P X n ops gt ⟨d, .box a x, ty, ps, af, g⟩ os acc σ K := h
theorem yZ (h : Op1 P X n ops gt ⟨d, .binOp bo a x y b, ty, ps, af, g⟩ os acc σ K) : Op1 P X n ops gt ⟨d, .binOp bo a x y b, ty, ps, af, g⟩ os acc σ K := h
theorem k_un (h : Op1 P X n ops gt ⟨d, .unOp uo a x, ty, ps, af, g⟩ os acc σ K) : Op1 P X n ops gt ⟨d, .unOp uo a x, ty, ps, af, g⟩ os acc σ K := h
theorem aG (h : Op1 P X n ops gt ⟨d, .extract x a, ty, ps, af, g⟩ os acc σ K) : Op1 P X n ops gt ⟨d, .extract x a, ty, ps, af, g⟩ os acc σ K := h
theorem yf (h : Op1 P X n ops gt ⟨d, .pick x y z, ty, ps, af, g⟩ os acc σ K) : Op1 P X n ops gt ⟨d, .pick x y z, ty, ps, af, g⟩ os acc σ K := h
theorem zH (h : Op1 P X n ops gt ⟨d, .indexAddr a x y, ty, ps, af, g⟩ os acc σ K) : Op1 P X n ops gt ⟨d, .indexAddr a x y, ty, ps, af, g⟩ os acc σ K := h
theorem kS (h : Op1 P X n ops gt ⟨d, .index a x y, ty, ps, af, g⟩ os acc σ K) : Op1 P X n ops gt ⟨d, .index a x y, ty, ps, af, g⟩ os acc σ K := h
theorem yV (h : Op1 P X n ops gt ⟨d, .call c, ty, ps, af, g⟩ os acc σ K) : Op1 P X n ops gt ⟨d, .call c, ty, ps, af, g⟩ os acc σ K := h
theorem aZ (h : Op1 P X n ops gt ⟨d, .nilCheck x, ty, ps, af, g⟩ os acc σ K) : Op1 P X n ops gt ⟨d, .nilCheck x, ty, ps, af, g⟩ os acc σ K := h
theorem dF (h : Op1 P X n ops gt ⟨d, .makeFunc fn fs cs, ty, ps, af, g⟩ os acc σ K) : Op1 P X n ops gt ⟨d, .makeFunc fn fs cs, ty, ps, af, g⟩ os acc σ K := h
theorem bN (h : Op1 P X n ops gt ⟨d, .build a bp, ty, ps, af, g⟩ os acc σ K) : Op1 P X n ops gt ⟨d, .build a bp, ty, ps, af, g⟩ os acc σ K := h
theorem jN (h : Op1 P X n ops gt ⟨d, .buildSlice a b bp, ty, ps, af, g⟩ os acc σ K) : Op1 P X n ops gt ⟨d, .buildSlice a b bp, ty, ps, af, g⟩ os acc σ K := h
theorem iS (h : Op1 P X n ops gt ⟨d, .slice a x lo hi mx, ty, ps, af, g⟩ os acc σ K) : Op1 P X n ops gt ⟨d, .slice a x lo hi mx, ty, ps, af, g⟩ os acc σ K := h
theorem jj (h : Op1 P X n ops gt ⟨d, .convert a b x, ty, ps, af, g⟩ os acc σ K) : Op1 P X n ops gt ⟨d, .convert a b x, ty, ps, af, g⟩ os acc σ K := h
theorem jz (h : Op1 P X n ops gt ⟨d, .makeSlice a x y, ty, ps, af, g⟩ os acc σ K) : Op1 P X n ops gt ⟨d, .makeSlice a x y, ty, ps, af, g⟩ os acc σ K := h
end
theorem zA {P : Program} {f : FuncId} {fn : Func} {c : Code} (hf : P.funcs[f]? = some fn) (hname : (fn.name == "runtime.NumGoroutine") = false) (hb : fn.body = some c) : qK P f := by
  intro args w
  have h1 : fn.name ≠ "runtime.NumGoroutine" := by simpa using hname
  simp [callFunc, hf, h1, hb, mark]
end Go.Proofs.YtnafokinifbfhaaGreatDoor
namespace Go.Proofs.YtnafokinifbfhaaGreatDoor
open Go Go.RowKit
inductive EvL (σ : AS) : List (Nat × Operand) → List (Nat × AV) → Prop where
  | nil : EvL σ [] []
  | cons {i : Nat} {o : Operand} {r : List (Nat × Operand)} {s : List (Nat × AV)} (y : AV) (h : ev σ o = y) (t : EvL σ r s) : EvL σ ((i, o) :: r) ((i, y) :: s)
theorem EvL.eq {σ : AS} {ps : List (Nat × Operand)} {vals : List (Nat × AV)} (h : EvL σ ps vals) : vals = ps.map fun p => (p.1, ev σ p.2) := by
  induction h with
  | nil => rfl
  | cons y h _ ih => rw [ih, ← h]; rfl
def rR (pl : List (Nat × Nat)) : List AV → List (Nat × AV) → Option (List AV)
  | cs, [] => some cs
  | cs, (i, x) :: r => match pl[i]? with
    | some (off, sz) => bif Nat.beq x.cells.length sz && Nat.ble (off + sz) cs.length && zn x.cells then rR pl (putL cs off x.cells) r else none
    | none => none
def qw (TB : Tabs) : List (Nat × Nat) → Option (List (Nat × Nat))
  | [] => some []
  | (off, ft) :: r => match lk TB.ty ft, qw TB r with
    | some (_, m), some l => some ((off, m) :: l)
    | _, _ => none
theorem sK : ∀ (vs : List Value) (j o : Nat) (us : Array Value), (vs.zipIdx j).foldl (fun cs (x : Value × Nat) => cs.setIfInBounds (o + x.2) x.1) us = ⟨putL us.toList (o + j) vs⟩
  | [], j, o, us => rfl
  | v :: vs, j, o, us => by
    rw [List.zipIdx_cons, List.foldl_cons, sK vs (j + 1) o, putL]
    simp [Nat.add_assoc]
theorem lZ {f : Nat → Option (Nat × Nat)} {i off sz : Nat} {us : List Value} {v : Value} {r : List (Nat × Value)} (hp : f i = some (off, sz)) (h1 : v.cells.toList.length = sz) (h2 : off + sz ≤ us.length) :
    Instr.fill f ⟨us⟩ ((i, v) :: r) = Instr.fill f ⟨putL us off v.cells.toList⟩ r := by
  have h1' : v.cells.size = sz := by simpa using h1
  rw [Instr.fill, hp]
  simp only
  rw [if_neg (by rw [h1']; simp; omega)]
  congr 1
  have := sK v.cells.toList 0 off ⟨us⟩
  rw [← Array.foldl_toList, Array.toList_zipIdx]
  simpa using this
theorem lS {M : Nat → Option (Array Value)} {ρ : Nat → Nat → Option Value} {pl : List (Nat × Nat)} {f : Nat → Option (Nat × Nat)} (hf : ∀ i p, pl[i]? = some p → f i = some p) : ∀ (vals : List (Nat × AV)) (cs cs' : List AV) (us : List Value) (vs : List (Nat × Value)), rR pl cs vals = some cs' → us.length = cs.length →
    (∀ (j : Nat) (x : AV) (u : Value), cs[j]? = some x → us[j]? = some u → Rep M ρ x u) → vs.length = vals.length → (∀ (j : Nat) (p : Nat × AV) (q : Nat × Value), vals[j]? = some p → vs[j]? = some q → q.1 = p.1 ∧ Rep M ρ p.2 q.2) →
    ∃ us', Instr.fill f ⟨us⟩ vs = some ⟨us'⟩ ∧ us'.length = cs'.length ∧ ∀ (j : Nat) (x : AV) (u : Value), cs'[j]? = some x → us'[j]? = some u → Rep M ρ x u
  | [], cs, cs', us, vs, h, hl, hr, hv, hp => by
    injection h with h
    subst h
    obtain rfl : vs = [] := List.eq_nil_of_length_eq_zero (by simpa using hv)
    exact ⟨us, rfl, hl, hr⟩
  | (i, x) :: vals, cs, cs', us, [], h, hl, hr, hv, hp => by simp at hv
  | (i, x) :: vals, cs, cs', us, (i', u) :: vs, h, hl, hr, hv, hp => by
    obtain ⟨e1, e2⟩ := hp 0 _ _ rfl rfl
    simp only at e1 e2
    subst e1
    unfold rR at h
    cases hpl : pl[i']? with
    | none => rw [hpl] at h; cases h
    | some q =>
      obtain ⟨off, sz⟩ := q
      rw [hpl] at h
      simp only at h
      cases hb : (Nat.beq x.cells.length sz && Nat.ble (off + sz) cs.length && zn x.cells) with
      | false => rw [hb] at h; cases h
      | true =>
        rw [hb] at h
        simp only [Bool.and_eq_true] at hb
        have b1 := Nat.eq_of_beq_eq_true hb.1.1
        have b2 := Nat.le_of_ble_eq_true hb.1.2
        obtain ⟨c1, c2, c3⟩ := yx e2 hb.2
        rw [lZ (off := off) (sz := sz) (hf _ _ hpl) (by omega) (by omega)]
        exact lS hf vals _ cs' _ vs h (by rw [zm, zm, hl]) (eL _ _ _ _ _ hl c1 hr c2) (by simpa using hv) (fun j p q a b => hp (j + 1) p q (by simpa using a) (by simpa using b))
def rI : AV → Bool
  | .v _ => true
  | .sl _ _ => true
  | .ep _ => true
  | .fn _ [] => true
  | _ => false
def js : List AV → Bool
  | [] => true
  | x :: l => bif rI x then js l else false
theorem kB : ∀ {l : List AV}, js l = true → ∀ x ∈ l, rI x = true
  | [], _, x, h => by cases h
  | y :: l, ho, x, h => by
    unfold js at ho
    cases hy : rI y
    · rw [hy] at ho; cases ho
    · rw [hy] at ho
      rcases List.mem_cons.1 h with rfl | h
      · exact hy
      · exact kB ho x h
theorem mB {M : Nat → Option (Array Value)} {ρ ρ' : Nat → Nat → Option Value} {x : AV} {u : Value} (h : Rep M ρ x u) (hp : rI x = true) : Rep M ρ' x u := by
  cases h with
  | v x => exact .v _ _
  | sl _ sz L A c us h1 h2 h3 h4 => exact .sl _ sz L A c us h1 h2 h3 h4
  | ep _ cs b o arr us h1 h2 h3 => exact .ep _ cs b o arr us h1 h2 h3
  | fn _ f cs vs hl h =>
    cases cs with
    | nil => exact .fn _ f [] vs hl (fun j x u hj => by simp at hj)
    | cons c l => cases hp
  | _ => cases hp
def lG (sz : Nat) (x : AV) : Bool := Nat.beq x.cells.length sz && zn x.cells && js x.cells
def kD (sz : Nat) : Nat → List (Nat × AV) → Bool
  | _, [] => true
  | i, p :: r => bif Nat.beq p.1 i && lG sz p.2 then kD sz (i + 1) r else false
theorem iE {sz : Nat} : ∀ {vals : List (Nat × AV)} {i : Nat}, kD sz i vals = true → ∀ (j : Nat) (p : Nat × AV), vals[j]? = some p → p.1 = i + j ∧ lG sz p.2 = true
  | [], i, _, j, p, h => by simp at h
  | q :: r, i, ho, j, p, h => by
    unfold kD at ho
    cases hb : (Nat.beq q.1 i && lG sz q.2) with
    | false => rw [hb] at ho; cases ho
    | true =>
      rw [hb] at ho
      rw [Bool.and_eq_true] at hb
      cases j with
      | zero => simp at h; subst h; exact ⟨Nat.eq_of_beq_eq_true hb.1, hb.2⟩
      | succ j =>
        have := iE ho j p (by simpa using h)
        exact ⟨by omega, this.2⟩
/-- A slice literal's cells, one part after the other. -/
theorem hZ {sz : Nat} : ∀ (vs : List (Nat × Value)) (i : Nat) (us : List Value), (∀ (j : Nat) (q : Nat × Value), vs[j]? = some q → q.1 = i + j ∧ q.2.cells.toList.length = sz) → us.length = (i + vs.length) * sz →
    ∃ us', Instr.fill (fun i => some (i * sz, sz)) ⟨us⟩ vs = some ⟨us'⟩ ∧ us'.length = us.length ∧ (∀ m, m < i * sz → us'[m]? = us[m]?) ∧
      ∀ (j : Nat) (q : Nat × Value) (r : Nat) (u : Value), vs[j]? = some q → q.2.cells.toList[r]? = some u → us'[(i + j) * sz + r]? = some u
  | [], i, us, h, hl => ⟨us, rfl, rfl, fun _ _ => rfl, fun j q r u a => by simp at a⟩
  | (k, v) :: vs, i, us, h, hl => by
    obtain ⟨e1, e2⟩ := h 0 _ rfl
    simp only [Nat.add_zero] at e1 e2
    subst e1
    have hb : k * sz + sz ≤ us.length := by rw [hl, List.length_cons, show k + (vs.length + 1) = (k + 1) + vs.length by omega, Nat.add_mul, Nat.succ_mul]; omega
    rw [lZ (off := k * sz) (sz := sz) rfl e2 hb]
    obtain ⟨us', h1, h2, h3, h4⟩ := hZ vs (k + 1) (putL us (k * sz) v.cells.toList) (fun j q hq => by have := h (j + 1) q (by simpa using hq); exact ⟨by omega, this.2⟩) (by rw [zm, hl, List.length_cons]; congr 1; omega)
    have hput : ∀ (vs us : List Value) (o : Nat), o + vs.length ≤ us.length → (∀ m, m < o → (putL us o vs)[m]? = us[m]?) ∧ ∀ r u, vs[r]? = some u → (putL us o vs)[o + r]? = some u := by
      intro vs
      induction vs with
      | nil => intro us o _; exact ⟨fun _ _ => rfl, fun r u h => by simp at h⟩
      | cons v vs ih =>
        intro us o hlen
        simp only [List.length_cons] at hlen
        obtain ⟨i1, i2⟩ := ih (us.set o v) (o + 1) (by simp; omega)
        rw [putL]
        refine ⟨fun m hm => by rw [i1 m (by omega), List.getElem?_set_ne (by omega)], fun r u hr => ?_⟩
        cases r with
        | zero => simp at hr; subst hr; rw [show o + 0 = o from rfl, i1 o (by omega), List.getElem?_set_self (by omega)]
        | succ r => rw [show o + (r + 1) = o + 1 + r by omega]; exact i2 r u (by simpa using hr)
    obtain ⟨p1, p2⟩ := hput v.cells.toList us (k * sz) (by omega)
    refine ⟨us', h1, by rw [h2, zm], fun m hm => by rw [h3 m (by rw [Nat.succ_mul]; omega)]; exact p1 m hm, fun j q r u hq hr => ?_⟩
    cases j with
    | zero =>
      simp at hq
      subst hq
      rw [Nat.add_zero, h3 _ (by rw [Nat.succ_mul]; have := zM hr; simp only at hr this; omega)]
      exact p2 r u hr
    | succ j => rw [show k + (j + 1) = k + 1 + j by omega]; exact h4 j q r u (by simpa using hq) hr
section
variable {P : Program} {X : Ctx} {n : Nat} {ops : Array Oper} {os : List Oper} {acc : List Rule} {σ : AS} {K : List Rule → AS → Prop} {gt : List (Nat × AV)} {d : Option Nat} {ty : TypeId} {ps : String} {af : Array Edge} {g : Option (Nat × Bool)}
theorem aE {M : Nat → Option (Array Value)} {ρ : Nat → Nat → Option Value} {τ : AS} {a : Act} {w : World} (hR : Rel X n M ρ τ a w) {parts : List (Nat × Operand)} (he : ∀ x ∈ parts.map (·.2), ev τ x = ev σ x) {vals : List (Nat × AV)} (hv : EvL σ parts vals) :
    (parts.map fun p => (p.1, a.eval p.2)).length = vals.length ∧ ∀ (j : Nat) (p : Nat × AV) (q : Nat × Value), vals[j]? = some p → (parts.map fun p => (p.1, a.eval p.2))[j]? = some q → q.1 = p.1 ∧ Rep M ρ p.2 q.2 := by
  rw [hv.eq]
  refine ⟨by simp, fun j p q hp hq => ?_⟩
  rw [List.getElem?_map] at hp hq
  cases ho : parts[j]? with
  | none => rw [ho] at hp; cases hp
  | some o =>
    rw [ho] at hp hq
    injection hp with hp; injection hq with hq
    subst hp; subst hq
    refine ⟨rfl, ?_⟩
    have := hR.ev o.2
    rwa [he o.2 (List.mem_map_of_mem (List.mem_of_getElem? ho))] at this
section
variable {TB : Tabs} (hTB : TabsOk P TB)
include hTB
theorem eI : ∀ {fs : List Field} {pl : List (Nat × Nat)}, qw TB (fs.map fun f => (f.offset, f.type)) = some pl → fs.mapM (fun f => (P.info? f.type).map fun i => (f.offset, i.size)) = some pl
  | [], pl, h => by injection h with h; subst h; rfl
  | f :: fs, pl, h => by
    rw [List.map_cons, qw] at h
    cases h1 : lk TB.ty f.type with
    | none => rw [h1] at h; cases h
    | some q =>
      obtain ⟨b, m⟩ := q
      cases h2 : qw TB (fs.map fun f => (f.offset, f.type)) with
      | none => rw [h1, h2] at h; cases h
      | some l =>
        rw [h1, h2] at h
        injection h with h
        subst h
        obtain ⟨dd, u1, u2, u3⟩ := jX hTB h1
        rw [List.mapM_cons, eI h2]
        cases hi : P.info? f.type with
        | none => rw [hi] at u3; cases u3
        | some i => rw [hi] at u3; injection u3 with u3; simp [u3]
theorem x_build {t : TypeId} {parts : List (Nat × Operand)} {fs pl : List (Nat × Nat)} {zs : List Value} {vals : List (Nat × AV)} (hf : lk TB.fld t = some fs) (hz : lk TB.zer t = some zs) (hp : qw TB fs = some pl) (hv : EvL σ parts vals)
    (h : ∃ cs, rR pl (zs.map .v) vals = some cs ∧ Exec P X n ops os (mkG gt σ (parts.map (·.2)) [] d (.ag cs) [] :: acc) (σ.put d (.ag cs)) K) : Op1 P X n ops gt ⟨d, .build t parts.toArray, ty, ps, af, g⟩ os acc σ K := by
  obtain ⟨cs, hc, h⟩ := h
  refine yb (xs := parts.map (·.2)) (fun M ρ τ a w he hR => ?_) h
  obtain ⟨i, z, i1, i2, rfl⟩ := qE hTB hz
  obtain ⟨gs, u1, u2⟩ := cX hTB hf
  rw [← u2] at hp
  have hmp := eI hTB hp
  obtain ⟨p1, p2⟩ := aE hR he hv
  obtain ⟨us', h1, h2, h3⟩ := lS (M := M) (ρ := ρ) (pl := pl) (f := fun i => pl.toArray[i]?) (fun i p h => by simpa using h) vals (z.cells.toList.map .v) cs z.cells.toList (parts.map fun p => (p.1, a.eval p.2)) hc (by simp) (fun j x u a b => by
    rw [List.getElem?_map, b] at a
    injection a with a
    subst a
    exact .v _ _) p1 p2
  refine ⟨.agg ⟨us'⟩, ?_, .ag _ _ _ h2 h3⟩
  have hb : P.built t (parts.toArray.map fun (x : Nat × Operand) => (x.1, a.eval x.2)).toList = some ⟨us'⟩ := by
    unfold Program.built
    rw [i1, u1]
    simp only [i2, hmp]
    rw [Array.toList_map]
    exact h1
  have := run_build (P := P) w t _ _ hb
  unfold execOp
  simp only [Sem.run_bind]
  rw [this]; rfl
theorem uD {t : TypeId} {e sz len : Nat} {b : Bool} {parts : List (Nat × Operand)} {vals : List (Nat × AV)} {zs : List Value} (hs : lk TB.sle t = some e) (hz : lk TB.ty e = some (b, sz + 1)) (hzr : lk TB.zer e = some zs) (hzl : zs.length = sz + 1) (hlen : parts.length = len) (hpos : 0 < len) (hsm : Nat.ble (len * (sz + 1)) 16777216 = true) (hv : EvL σ parts vals)
    (h : kD (sz + 1) 0 vals = true ∧ Exec P X n ops os (mkG gt σ (parts.map (·.2)) [] d (.sl (sz + 1) (vals.map (·.2))) [] :: acc) (σ.put d (.sl (sz + 1) (vals.map (·.2)))) K) : Op1 P X n ops gt ⟨d, .buildSlice t len parts.toArray, ty, ps, af, g⟩ os acc σ K := by
  obtain ⟨hok, h⟩ := h
  refine ⟨⟨mkR σ (parts.map (fun p : Nat × Operand => p.2)) [] d (.sl (sz + 1) (vals.map (fun p : Nat × AV => p.2))) [], zW rfl fun M ρ τ a w hf hR => ?_, zR _ _ _ _ _ _, h⟩⟩
  obtain ⟨i, z, i1, i2, i3⟩ := qE hTB hzr
  obtain ⟨dd, u1, u2, u3⟩ := jX hTB hz
  rw [i1] at u3
  injection u3 with u3
  have u3 : i.size = sz + 1 := u3
  obtain ⟨p1, p2⟩ := aE hR (fun x hx => zP hf hx) hv
  have hvl : vals.length = len := by rw [← hlen, ← p1]; simp
  have hsm' := Nat.le_of_ble_eq_true hsm
  have hq : ∀ (j : Nat) (q : Nat × Value), (parts.map fun p => (p.1, a.eval p.2))[j]? = some q → ∃ p, vals[j]? = some p ∧ q.1 = p.1 ∧ Rep M ρ p.2 q.2 ∧ q.1 = 0 + j ∧ lG (sz + 1) p.2 = true := fun j q hq => by
    obtain ⟨p, hp⟩ := zB (L := vals) (k := j) (by rw [← p1]; exact zM hq)
    obtain ⟨e1, e2⟩ := p2 j p q hp hq
    obtain ⟨e3, e4⟩ := iE hok j p hp
    exact ⟨p, hp, e1, e2, by omega, e4⟩
  have helem : ∀ x, lG (sz + 1) x = true → x.cells.length = sz + 1 ∧ zn x.cells = true ∧ js x.cells = true := fun x hx => by
    unfold lG at hx
    simp only [Bool.and_eq_true] at hx
    exact ⟨Nat.eq_of_beq_eq_true hx.1.1, hx.1.2, hx.2⟩
  obtain ⟨us', f1, f2, f3, f4⟩ := hZ (sz := sz + 1) (parts.map fun p => (p.1, a.eval p.2)) 0 ((Array.range (len * i.size)).map (z.cells[· % z.cells.size]!)).toList (fun j q hq' => by
    obtain ⟨p, _, _, e2, e3, e4⟩ := hq j q hq'
    obtain ⟨c1, c2, c3⟩ := helem _ e4
    exact ⟨e3, by rw [(yx e2 c2).1]; exact c1⟩) (by simp [hlen, u3])
  have hrun := run_buildSlice (P := P) w t e len (parts.toArray.map fun (x : Nat × Operand) => (x.1, a.eval x.2)) ⟨us'⟩ i z (yM hTB hs) i1 i2 (by rw [u3]; omega) (by rw [u3]; intro h0; rcases Nat.mul_eq_zero.1 h0 with h0 | h0 <;> omega) (by rw [Array.toList_map, u3]; rw [u3] at f1; exact f1)
  obtain ⟨m1, m2⟩ := hR.newM e ⟨us'⟩
  refine ⟨.slice (some ⟨w.heap.size, 0, none⟩) len len, w.alloc (.cells ⟨us'⟩ e), updM M w.heap.size ⟨us'⟩, ρ, ?_, m2, ?_⟩
  · unfold execOp
    simp only [Sem.run_bind]
    rw [hrun]; rfl
  · have hL : (vals.map (·.2)).length = len := by simp [hvl]
    have : Rep (updM M w.heap.size ⟨us'⟩) ρ (.sl (sz + 1) (vals.map (·.2))) (.slice (some ⟨w.heap.size, 0, none⟩) (vals.map (·.2)).length len) := by
      refine .sl _ _ _ _ _ (fun k j => (us'[k * (sz + 1) + j]?).getD undef) (by omega) (by simp only [maxLen]; have : len ≤ len * (sz + 1) := Nat.le_mul_of_pos_right _ (by omega); omega) (fun k x j y hx hy => ?_) (fun k x hx => ?_)
      · rw [List.getElem?_map] at hx
        cases hk : vals[k]? with
        | none => rw [hk] at hx; cases hx
        | some p =>
          rw [hk] at hx
          injection hx with hx
          subst hx
          obtain ⟨q, hqq⟩ := zB (L := parts.map fun p => (p.1, a.eval p.2)) (k := k) (by rw [p1]; exact zM hk)
          obtain ⟨p', hp', _, e2, _, e4⟩ := hq k q hqq
          rw [hk] at hp'
          injection hp' with hp'
          subst hp'
          obtain ⟨c1, c2, c3⟩ := helem _ e4
          obtain ⟨r1, r2, _⟩ := yx e2 c2
          obtain ⟨u, hu⟩ := zB (L := q.2.cells.toList) (k := j) (by rw [r1]; exact zM hy)
          rw [show k * (sz + 1) + j = (0 + k) * (sz + 1) + j by rw [Nat.zero_add], f4 k q j u hqq hu]
          exact (mB (r2 j y u hy hu) (kB c3 y (List.mem_of_getElem? hy))).mono' (rH m1) (fun _ _ _ e => e)
      · rw [List.getElem?_map] at hx
        cases hk : vals[k]? with
        | none => rw [hk] at hx; cases hx
        | some p =>
          rw [hk] at hx
          injection hx with hx
          subst hx
          refine ⟨(helem _ (iE hok k p hk).2).1, w.heap.size, 0, ⟨us'⟩, rfl, by simp [updM], fun j hj => ?_⟩
          have hlt := zM hk
          have : k * (sz + 1) + j < us'.length := by
            rw [f2]
            simp [u3]
            have : (k + 1) * (sz + 1) ≤ len * (sz + 1) := Nat.mul_le_mul_right _ (by omega)
            rw [Nat.succ_mul] at this
            omega
          rw [Nat.zero_add]
          simp [List.getElem?_eq_getElem this]
    rwa [hL] at this
end
end
end Go.Proofs.YtnafokinifbfhaaGreatDoor
namespace Go.Proofs.YtnafokinifbfhaaGreatDoor
open Go Go.RowKit
theorem jG {B : Nat → Nat → Nat → List AV → Prop} {π : Nat → Option (Nat × Nat)} : ∀ {cs : List AV}, js cs = true → RenL B π cs cs
  | [], _ => trivial
  | x :: cs, h => by
    unfold js at h
    cases hx : rI x
    · rw [hx] at h; cases h
    · rw [hx] at h
      refine ⟨?_, jG h⟩
      cases x <;> first | exact .v _ | exact .sl _ _ | exact .ep _ | cases hx | (rename_i f cs; cases cs <;> first | exact .fn _ _ _ rfl (fun j x u hj => by simp at hj) | cases hx)
theorem pE {π : Nat → Option (Nat × Nat)} : ∀ {cs : List AV}, js cs = true → bC π cs cs
  | [], _ => trivial
  | x :: cs, h => by
    unfold js at h
    cases hx : rI x
    · rw [hx] at h; cases h
    · rw [hx] at h
      refine ⟨?_, pE h⟩
      cases x <;> first | exact .v _ | exact .sl _ _ | exact .ep _ | cases hx | (rename_i f cs; cases cs <;> first | exact .fn _ _ _ rfl (fun j x u hj => by simp at hj) | cases hx)
theorem yP {π : Nat → Option (Nat × Nat)} {c : List AV} (h : js c = true) : bW π [c] [c] := ⟨pE h, trivial⟩
theorem in1 {σ : AS} {π : Nat → Option (Nat × Nat)} {s k : Nat} {c : List AV} (hH : σ.H s = ⟨k, .box c⟩) (h : js c = true) : dK σ π [(s, k)] [c] := ⟨⟨c, hH, jG h⟩, trivial⟩
def loOf (σ : AS) : Option Operand → Option Int
  | none => some 0
  | some o => match ev σ o with
    | .v (.int _ z) => some z
    | _ => none
def hiOf (σ : AS) (m : Nat) : Option Operand → Option Int
  | none => some (m : Int)
  | some o => match ev σ o with
    | .v (.int _ z) => some z
    | _ => none
section
variable {P : Program} {X : Ctx} {n : Nat} {ops : Array Oper} {os : List Oper} {acc : List Rule} {σ : AS} {K : List Rule → AS → Prop} {gt : List (Nat × AV)} {d : Option Nat} {ty : TypeId} {ps : String} {af : Array Edge} {g : Option (Nat × Bool)}
theorem lM {o : Operand} {z : Int} (h : loOf σ (some o) = some z) : ∃ k, ev σ o = .v (.int k z) := by
  unfold loOf at h
  split at h
  · cases h; rename_i heq; simp at heq
  · rename_i o' heq
    injection heq with heq
    subst heq
    split at h
    · rename_i k z' he; injection h with h; subst h; exact ⟨k, he⟩
    · cases h
theorem rL {m : Nat} {o : Operand} {z : Int} (h : hiOf σ m (some o) = some z) : ∃ k, ev σ o = .v (.int k z) := by
  unfold hiOf at h
  split at h
  · cases h; rename_i heq; simp at heq
  · rename_i o' heq
    injection heq with heq
    subst heq
    split at h
    · rename_i k z' he; injection h with h; subst h; exact ⟨k, he⟩
    · cases h
theorem qx {t e : TypeId} {A : Option Addr} {len cap sz : Nat} {lo hi : Option Value} {l h : Nat} (hu : P.underlying t = some (.slice e)) (hz : ∀ w, (sizeOf e).run P w = .ok sz w) (h1 : l ≤ h) (h2 : h ≤ len) (h3 : len ≤ cap)
    (hl : (lo = none ∧ l = 0) ∨ ∃ k, lo = some (.int k (l : Int))) (hh : (hi = none ∧ h = len) ∨ ∃ k, hi = some (.int k (h : Int))) (w : World) :
    (Instr.sliceAt t (.slice A len cap) lo hi none).run P w = .ok (.slice (if cap = l then A else A.map (·.add (l * sz))) (h - l) (cap - l)) w := by
  have hb : (Instr.sliceBounds true len cap lo hi none).run P w = .ok (l, h, cap) w := by
    unfold Instr.sliceBounds
    rcases hl with ⟨rfl, rfl⟩ | ⟨k, rfl⟩ <;> rcases hh with ⟨rfl, rfl⟩ | ⟨k', rfl⟩
    · simp
    · simp [run_sliceBound w k' (h : Int) cap .sliceAcap (by omega) (by omega)]
    · simp [run_sliceBound w k (l : Int) h .sliceB (by omega) (by omega)]
    · simp [run_sliceBound w k' (h : Int) cap .sliceAcap (by omega) (by omega), run_sliceBound w k (l : Int) h .sliceB (by omega) (by omega)]
  unfold Instr.sliceAt Instr.slice
  simp only [Sem.run_bind, run_underlying hu, Result.andThen_ok, hb, hz, Sem.run_pure]
section
variable {TB : Tabs} (hTB : TabsOk P TB)
include hTB
theorem x_slice {t : TypeId} {x : Operand} {lo hi : Option Operand} {sz e : Nat} {b : Bool} {L : List AV} {l h : Int} (hs : lk TB.sle t = some e) (hz : lk TB.ty e = some (b, sz)) (hx : ev σ x = .sl sz L) (hlo : loOf σ lo = some l) (hhi : hiOf σ L.length hi = some h) (hb : 0 ≤ l ∧ l ≤ h ∧ h ≤ L.length)
    (hK : Exec P X n ops os (mkG gt σ (x :: (lo.toList ++ hi.toList)) [] d (.sl sz ((L.take h.toNat).drop l.toNat)) [] :: acc) (σ.put d (.sl sz ((L.take h.toNat).drop l.toNat))) K) : Op1 P X n ops gt ⟨d, .slice t x lo hi none, ty, ps, af, g⟩ os acc σ K :=
  yb (fun M ρ τ a w he hR => by
    have h1 := hR.ev x
    rw [he x (by simp), hx] at h1
    obtain ⟨A, c, us, e1, e2, e2', e3, e4⟩ := h1.sl_inv
    obtain ⟨b1, b2, b3⟩ := hb
    have el : (l.toNat : Int) = l := Int.toNat_of_nonneg b1
    have eh : (h.toNat : Int) = h := Int.toNat_of_nonneg (by omega)
    have hl : ((lo.map a.eval) = none ∧ l.toNat = 0) ∨ ∃ k, lo.map a.eval = some (.int k (l.toNat : Int)) := by
      cases lo with
      | none => injection hlo with hlo; subst hlo; exact .inl ⟨rfl, rfl⟩
      | some o =>
        obtain ⟨k, hk⟩ := lM hlo
        exact .inr ⟨k, by rw [Option.map_some, zT hR (he o (by simp)) hk, el]⟩
    have hh : ((hi.map a.eval) = none ∧ h.toNat = L.length) ∨ ∃ k, hi.map a.eval = some (.int k (h.toNat : Int)) := by
      cases hi with
      | none => injection hhi with hhi; subst hhi; exact .inl ⟨rfl, by omega⟩
      | some o =>
        obtain ⟨k, hk⟩ := rL hhi
        exact .inr ⟨k, by rw [Option.map_some, zT hR (he o (by simp)) hk, eh]⟩
    have hr := qx (P := P) (A := A) (cap := c) (yM hTB hs) (yA hTB hz) (show l.toNat ≤ h.toNat by omega) (show h.toNat ≤ L.length by omega) e2 hl hh w
    refine ⟨_, by unfold execOp; simp only [e1, Option.map_none, Sem.run_bind, hr]; rfl, ?_⟩
    have hlen : ((L.take h.toNat).drop l.toNat).length = h.toNat - l.toNat := by rw [List.length_drop, List.length_take, Nat.min_eq_left (by omega)]
    have hat : ∀ (k : Nat) (x : AV), ((L.take h.toNat).drop l.toNat)[k]? = some x → L[l.toNat + k]? = some x := fun k x hk => by
      rw [List.getElem?_drop, List.getElem?_take] at hk
      split at hk
      · exact hk
      · cases hk
    have : Rep M ρ (.sl sz ((L.take h.toNat).drop l.toNat)) (.slice (if c = l.toNat then A else A.map (·.add (l.toNat * sz))) ((L.take h.toNat).drop l.toNat).length (c - l.toNat)) := by
      refine .sl _ sz _ _ _ (fun k j => us (l.toNat + k) j) (by omega) (by omega) (fun k x j y hk hy => e3 _ x j y (hat k x hk) hy) (fun k x hk => ?_)
      obtain ⟨f1, b', o, arr, rfl, f3, f4⟩ := e4 _ x (hat k x hk)
      have hlt := zM (hat k x hk)
      refine ⟨f1, b', o + l.toNat * sz, arr, ?_, f3, fun j hj => ?_⟩
      · rw [if_neg (by omega), Option.map_some, Addr.add_mid]
      · rw [← f4 j hj, Nat.add_mul]; congr 1; omega
    rwa [hlen] at this) hK
end
/-- A call of a closure. -/
theorem lQ {t : Nat} {f : FuncId} {tys : Array TypeId} {xs : List Operand} {a : Act} {w : World} {cap : List Value} (he : qK P f) (hv : a.eval (.tmp t) = .func (.func f) #[] ⟨cap⟩) :
    (execOp a.eval ⟨d, .call ⟨.value (.tmp t), xs.toArray, tys⟩, ty, ps, af, g⟩).run P w = .ok (.enter f ⟨xs.map a.eval ++ cap⟩) w := by
  unfold execOp
  simp [resolve, hv, Deferred.ofValue, invoke, he _ w]
theorem kA {B : Nat → Nat → Nat → List AV → Prop} {π : Nat → Option (Nat × Nat)} : ∀ {as bs cs : List AV}, RenL B π as (bs ++ cs) → ∃ a1 a2, as = a1 ++ a2 ∧ RenL B π a1 bs ∧ RenL B π a2 cs
  | as, [], cs, h => ⟨[], as, rfl, trivial, h⟩
  | x :: as, y :: bs, cs, h => by
    obtain ⟨a1, a2, rfl, h2, h3⟩ := kA h.2
    exact ⟨x :: a1, a2, rfl, ⟨h.1, h2⟩, h3⟩
  | [], y :: bs, cs, h => h.elim
theorem bH {t : Nat} {f : FuncId} {tys : Array TypeId} {xs : List Operand} {cap args : List AV} {refs refs' cs' : List (List AV)} {r y : AV} {ss : List (Nat × Nat)} (hc : zJ P X.G f args refs r refs') (hf : σ.T t = .fn f cap) (hargs : RenL noB (πs ss) args (xs.map (ev σ) ++ cap))
    (hss : (ss.map (·.1)).Nodup) (hin : dK σ (πs ss) ss refs) (hlen : ss.length = refs'.length) (hback : bW (πs ss) refs' cs') (hr : RenB (πs ss) r y)
    (h : Exec P X n ops os (mkG gt σ (.tmp t :: xs) (ss.map (·.1)) d y (hwOf ss cs') :: acc) ((hups (hwOf ss cs') σ).put d y) K) : Op1 P X n ops gt ⟨d, .call ⟨.value (.tmp t), xs.toArray, tys⟩, ty, ps, af, g⟩ os acc σ K := by
  refine ⟨⟨mkR σ (.tmp t :: xs) (ss.map (fun p : Nat × Nat => p.1)) d y (hwOf ss cs'), fun hlt M ρ τ a w hfi hR K Q hK => ?_, zR _ _ _ _ _ _, h⟩⟩
  obtain ⟨c1, c2, c3, c4⟩ := cZ hR hss (pL hfi (fun p hp => hp) hin)
  obtain ⟨a1, a2, rfl, ha1, ha2⟩ := kA hargs
  obtain ⟨l1, l2⟩ := ju hR (fun x hx => zP hfi (by simp [hx])) ha1 c3
  have hfn := hR.ev (.tmp t)
  rw [zP hfi (by simp), show ev σ (.tmp t) = _ from hf] at hfn
  obtain ⟨vs, hv1, hv2, hv3⟩ : ∃ vs : List Value, a.eval (.tmp t) = .func (.func f) #[] ⟨vs⟩ ∧ vs.length = cap.length ∧ ∀ (j : Nat) (x : AV) (u : Value), cap[j]? = some x → vs[j]? = some u → Rep M ρ x u := by
    generalize a.eval (.tmp t) = q at hfn
    cases hfn with
    | fn _ _ _ vs h1 h2 => exact ⟨vs, rfl, h1, h2⟩
  unfold Oper.wp
  rw [lQ hc.1 hv1, Oper.upon_enter]
  refine (hc.2 M w (gsOf ρ ss) _ hR.live hR.glob c1 c2 (by simp [hv2, ha2.spec.1]; simpa using l1) (fun j x u hx hu => ?_)).mono ?_
  · rw [List.getElem?_append] at hx hu
    have hll : a1.length = (xs.map a.eval).length := l1.symm
    split at hx
    · rename_i hj
      rw [if_pos (by omega)] at hu
      exact l2 j x u hx hu
    · rename_i hj
      rw [if_neg (by omega), ← hll] at hu
      obtain ⟨y0, hy0⟩ := zB (L := cap) (k := j - a1.length) (by rw [← ha2.spec.1]; exact zM hx)
      exact Ren.out c3 (fun _ _ e => e) (fun _ _ _ _ _ hb _ => hb.elim) (ha2.spec.2 _ x y0 hx hy0) (hv3 _ y0 u hy0 hu)
  rintro e w' ⟨u, M', gs', rfl, p1, p2, p3, p4, p5, p6, p7, p8, p9, p10, p11, p12⟩
  have hgl : (gsOf ρ ss).length = ss.length := by simp [gsOf]
  have hg0 : gs' = [] := by
    have := p11.len
    simp [hgl] at this
    exact List.eq_nil_of_length_eq_zero (by omega)
  subst hg0
  simp only [List.append_nil] at p11 p12
  obtain ⟨b1, b2⟩ := bE hback
  have hR' := hR.call (cs' := cs') (w' := w') hss (by omega) hgl c4 p1 p2 p3 p4 p5 p6 p7 p8 (fun i g' c hg' hc' => by
    obtain ⟨c0, hc0⟩ := zB (L := refs') (k := i) (by have := zM hc'; omega)
    obtain ⟨_, t, us, e1, e2, e3⟩ := p11.at_ i g' c0 hg' hc0
    have hb := (b2 i c0 c hc0 hc').spec
    refine ⟨t, us, e1, by omega, fun j x z hx hz => ?_⟩
    obtain ⟨x0, hx0⟩ := zB (L := c0) (k := j) (by have := zM hx; omega)
    exact RenB.back c3 (hb.2 j x0 x hx0 hx) (e3 j x0 z hx0 hz))
  exact hK M' ρ _ w' (hR'.put (RenB.back c3 hr p12) hlt)
end
end Go.Proofs.YtnafokinifbfhaaGreatDoor
