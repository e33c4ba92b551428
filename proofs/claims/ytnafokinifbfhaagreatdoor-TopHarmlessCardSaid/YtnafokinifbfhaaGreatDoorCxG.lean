/- The executor's operations on numbers, strings, truth values, arrays, tables of the program, interface values and functions; nothing of the program stands here; conditions: tables of types that agree with the program's. -/
import Derived.Test.YtnafokinifbfhaaGreatDoorAbsI
import Derived.Test.YtnafokinifbfhaaGreatDoorAbsW
set_option linter.unusedVariables false
set_option linter.unusedSimpArgs false
namespace Go.Proofs.YtnafokinifbfhaaGreatDoor.Cx
open Go Go.RowKit
section
variable {P : Program} {X : Ctx} {n : Nat} {σ : AS} {d : Option Nat} {ty : TypeId} {ps : String} {af : Array Edge} {g : Option (Nat × Bool)}
theorem s_eql_b {x y : Operand} {tx yt : TypeId} {a b : Bool} (ht : P.underlying tx = some .bool) (hx : ev σ x = .v (.bool a)) (hy : ev σ y = .v (.bool b)) : zb P X n ⟨d, .binOp .eql tx x y yt, ty, ps, af, g⟩ (mkR σ [x, y] [] d (.v (.bool (a == b))) []) :=
  kP hx hy (fun w => by simp only [eqGuard_at_bool, pure_bind]; exact run_eql_bool w tx a b ht)
theorem s_neq_b {x y : Operand} {tx yt : TypeId} {a b : Bool} (ht : P.underlying tx = some .bool) (hx : ev σ x = .v (.bool a)) (hy : ev σ y = .v (.bool b)) : zb P X n ⟨d, .binOp .neq tx x y yt, ty, ps, af, g⟩ (mkR σ [x, y] [] d (.v (.bool (a != b))) []) :=
  kP hx hy (fun w => by
    simp only [eqGuard_at_bool, pure_bind]
    simp only [binOp, Sem.run_bind, run_equal_bool w tx a b ht, Result.andThen_ok]
    rfl)
/-- Two strings, byte by byte. -/
def strE (a b : ByteArray) : Bool := listE a.data.toList b.data.toList
where listE : List UInt8 → List UInt8 → Bool
  | [], [] => true
  | x :: l, y :: m => bif Nat.beq x.toNat y.toNat then listE l m else false
  | _, _ => false
theorem vK : ∀ (l m : List UInt8), strE.listE l m = (l == m)
  | [], [] => rfl
  | [], y :: m => rfl
  | x :: l, [] => rfl
  | x :: l, y :: m => by
    unfold strE.listE
    rw [vK l m]
    show _ = (x == y && l == m)
    by_cases h : x = y
    · subst h; simp [Nat.beq_refl]
    · have : Nat.beq x.toNat y.toNat = false := zV (fun e => h (UInt8.toNat_inj.1 e))
      rw [this]; simp [h]
theorem tM (a b : ByteArray) : strE a b = jD a b := by
  unfold strE jD
  rw [vK, ByteArray.toList_eq, ByteArray.toList_eq]
theorem s_eql_s {x y : Operand} {tx yt : TypeId} {a b : ByteArray} (hx : ev σ x = .v (.string a)) (hy : ev σ y = .v (.string b)) : zb P X n ⟨d, .binOp .eql tx x y yt, ty, ps, af, g⟩ (mkR σ [x, y] [] d (.v (.bool (strE a b))) []) :=
  kP hx hy (fun w => by rw [tM]; simp only [eqGuard_at_string, pure_bind]; simp [binOp, Op.stringOp, jD])
theorem s_neq_s {x y : Operand} {tx yt : TypeId} {a b : ByteArray} (hx : ev σ x = .v (.string a)) (hy : ev σ y = .v (.string b)) : zb P X n ⟨d, .binOp .neq tx x y yt, ty, ps, af, g⟩ (mkR σ [x, y] [] d (.v (.bool (!strE a b))) []) :=
  kP hx hy (fun w => by rw [tM]; simp only [eqGuard_at_string, pure_bind]; simp [binOp, Op.stringOp, jD])
theorem s_not {x : Operand} {tx : TypeId} {b : Bool} (hx : ev σ x = .v (.bool b)) : zb P X n ⟨d, .unOp .not tx x, ty, ps, af, g⟩ (mkR σ [x] [] d (.v (.bool (!b))) []) := s_un hx (fun w => rfl)
theorem s_neg {x : Operand} {tx : TypeId} {k : IntKind} {a : Int} (hx : ev σ x = .v (.int k a)) : zb P X n ⟨d, .unOp .neg tx x, ty, ps, af, g⟩ (mkR σ [x] [] d (.v (.int k (k.wrap (0 - a)))) []) := s_un hx (fun w => rfl)
theorem s_makeFunc {f : FuncId} {as1 bs : Array Operand} : zb P X n ⟨d, .makeFunc (.func f) as1 bs, ty, ps, af, g⟩ (mkR σ (as1.toList ++ bs.toList) [] d (.fn f (as1.toList.map (ev σ)) (bs.toList.map (ev σ))) []) :=
  yO fun M ρ τ a w he hR => by
    have key : ∀ (xs : List Operand), (∀ x ∈ xs, ev τ x = ev σ x) → ∀ (j : Nat) (x : CV) (u : Value), (xs.map (ev σ))[j]? = some x → (xs.map a.eval)[j]? = some u → Rep ρ x u := fun xs hx j x u h1 h2 => by
      rw [List.getElem?_map] at h1 h2
      cases ho : xs[j]? with
      | none => rw [ho] at h1; cases h1
      | some o =>
        rw [ho] at h1 h2
        injection h1 with h1; injection h2 with h2
        subst h1; subst h2
        have := hR.ev o
        rwa [hx o (List.mem_of_getElem? ho)] at this
    refine ⟨.func (.func f) (as1.map a.eval) (bs.map a.eval), by unfold execOp; rfl, ?_⟩
    have e1 : as1.map a.eval = ⟨as1.toList.map a.eval⟩ := by apply Array.toList_inj.1; simp
    have e2 : bs.map a.eval = ⟨bs.toList.map a.eval⟩ := by apply Array.toList_inj.1; simp
    rw [e1, e2]
    exact .fn f _ _ _ _ (by simp) (key _ fun x hx => he x (by simp [hx])) (by simp) (key _ fun x hx => he x (by simp [hx]))
theorem s_mkif {t : TypeId} {x : Operand} (hc : AskT P t) : zb P X n ⟨d, .makeInterface t x, ty, ps, af, g⟩ (mkR σ [x] [] d (.ifc t (ev σ x)) []) :=
  yO fun M ρ τ a w he hR => ⟨.iface t (a.eval x), by
    unfold execOp
    rw [Sem.run_bind, run_makeInterface w t _ hc.conc]; rfl, .ifc t _ _ (by have := hR.ev x; rwa [he x (by simp)] at this)⟩
theorem Rep.ifc_inv {ρ : Rho} {t : TypeId} {x : CV} {u : Value} (h : Rep ρ (.ifc t x) u) : ∃ v, u = .iface t v ∧ Rep ρ x v := by
  cases h with
  | ifc _ _ v h => exact ⟨v, rfl, h⟩
theorem s_tya_hit {x : Operand} {xt a : TypeId} {y : CV} (hc : AskT P a) (hx : ev σ x = .ifc a y) : zb P X n ⟨d, .typeAssert x xt a true, ty, ps, af, g⟩ (mkR σ [x] [] d (.tu [y, .v (.bool true)]) []) :=
  yO fun M ρ τ b w he hR => by
    have h1 := hR.ev x
    rw [he x (by simp), hx] at h1
    obtain ⟨v, e1, e2⟩ := h1.ifc_inv
    refine ⟨.tuple #[v, .bool true], by unfold execOp; simp only [e1]; rw [Sem.run_bind, hc.hit]; rfl, .tu _ [v, .bool true] rfl (fun j y z p q => ?_)⟩
    match j, p, q with
    | 0, p, q => cases p; cases q; exact e2
    | 1, p, q => cases p; cases q; exact .v _
    | j + 2, p, q => simp at p
theorem s_tya_miss {x : Operand} {xt a t : TypeId} {y : CV} (hc : AskT P a) (hx : ev σ x = .ifc t y) (ht : Nat.beq t a = false) : zb P X n ⟨d, .typeAssert x xt a true, ty, ps, af, g⟩ (mkR σ [x] [] d (.tu [.junk, .v (.bool false)]) []) := by
  obtain ⟨z, hz⟩ := hc.miss
  exact yO fun M ρ τ b w he hR => by
    have h1 := hR.ev x
    rw [he x (by simp), hx] at h1
    obtain ⟨v, e1, e2⟩ := h1.ifc_inv
    refine ⟨.tuple #[z, .bool false], by
      unfold execOp
      simp only [e1]
      rw [Sem.run_bind, hz xt t v w (fun e => by rw [e, Nat.beq_refl] at ht; cases ht)]; rfl, .tu _ [z, .bool false] rfl (fun j y z p q => ?_)⟩
    match j, p, q with
    | 0, p, q => cases p; exact .junk _
    | 1, p, q => cases p; cases q; exact .v _
    | j + 2, p, q => simp at p
theorem s_min {t t' : TypeId} {x y : Operand} {k k' : IntKind} {a b : Int} (hx : ev σ x = .v (.int k a)) (hy : ev σ y = .v (.int k' b)) : zb P X n ⟨d, .call ⟨.builtin .min, #[x, y], #[t, t']⟩, ty, ps, af, g⟩ (mkR σ [x, y] [] d (.v (.int k (if b < a then b else a))) []) :=
  yO fun M ρ τ a' w he hR => by
    have h1 := zT hR (he x (by simp)) hx
    have h2 := zT hR (he y (by simp)) hy
    refine ⟨.int k (if b < a then b else a), ?_, .v _⟩
    unfold execOp
    simp [resolve, invoke, builtin, h1, h2, Builtin.min_, Builtin.min2]
theorem tK {x : Operand} {ad : Addr} (hx : ev σ x = .v (.pointer (some ad))) : zb P X n ⟨d, .nilCheck x, ty, ps, af, g⟩ (mkR σ [x] [] d (.v (.pointer (some ad))) []) :=
  yO fun M ρ τ a w he hR => ⟨.pointer (some ad), by unfold execOp; simp only [zT hR (he x (by simp)) hx]; rfl, .v _⟩
theorem rA {x : Operand} {f : FuncId} {as1 bs : List CV} (hx : ev σ x = .fn f as1 bs) : zb P X n ⟨d, .nilCheck x, ty, ps, af, g⟩ (mkR σ [x] [] d (.fn f as1 bs) []) :=
  yO fun M ρ τ a w he hR => by
    have h1 := hR.ev x
    rw [he x (by simp), hx] at h1
    obtain ⟨us, vs, e⟩ : ∃ us vs : List Value, a.eval x = .func (.func f) ⟨us⟩ ⟨vs⟩ := by
      generalize a.eval x = q at h1
      cases h1 with
      | fn _ _ _ us vs _ _ _ _ => exact ⟨us, vs, rfl⟩
    refine ⟨a.eval x, ?_, h1⟩
    unfold execOp
    simp only [e]
    rfl
theorem s_index_s {t : TypeId} {x i : Operand} {s : ByteArray} {k : IntKind} {m : Nat} {b : UInt8} (ht : P.underlying t = some .string) (hx : ev σ x = .v (.string s)) (hi : ev σ i = .v (.int k (m : Int))) (hb : s.data.toList[m]? = some b) : zb P X n ⟨d, .index t x i, ty, ps, af, g⟩ (mkR σ [x, i] [] d (.v (.int .u8 b.toNat)) []) :=
  s_index hx hi (fun w => by
    have hs : s[m]? = some b := by
      rw [Array.getElem?_toList] at hb
      obtain ⟨h1, h2⟩ := Array.getElem?_eq_some_iff.1 hb
      exact getElem?_pos s m h1 |>.trans (congrArg some h2)
    simp only [Instr.index, asIntOf, Sem.run_bind, Sem.run_pure, run_underlying ht, Result.andThen_ok, Int.toNat_natCast]
    rw [if_pos (by omega), hs]
    rfl)
variable {TB : Tabs} (hTB : TabsOk P TB)
include hTB
theorem s_conv_int {src dst : TypeId} {x : Operand} {k ks kd : IntKind} {z : Int} (hs : lk TB.ik src = some ks) (hd : lk TB.ik dst = some kd) (hx : ev σ x = .v (.int k z)) : zb P X n ⟨d, .convert src dst x, ty, ps, af, g⟩ (mkR σ [x] [] d (.v (.int kd (kd.wrap z))) []) :=
  s_conv hx (fun w => by
    have h1 := nU hTB hd
    have h2 : P.intKind dst = kd := by unfold Program.intKind; rw [h1]
    have := run_convert_int (P := P) w src dst k z (by rw [nU hTB hs]; rfl) (by rw [h2]; exact h1)
    rw [h2] at this
    exact this)
theorem mX {t : TypeId} {x i : Operand} {s off len sz e : Nat} {b : Bool} {kk : IntKind} {z : Int} (ht : P.underlying t = some (.array len e)) (hz : lk TB.ty e = some (b, sz)) (hx : ev σ x = .ptr s off) (hi : ev σ i = .v (.int kk z)) (h0 : 0 ≤ z ∧ z < (len : Int)) :
    zb P X n ⟨d, .indexAddr t x i, ty, ps, af, g⟩ (mkR σ [x, i] [] d (.ptr s (off + z.toNat * sz)) []) :=
  yO fun M ρ τ a w he hR => by
    have h1 := hR.ev x
    rw [he x (by simp), hx] at h1
    obtain ⟨g', b', z', e1, e2⟩ := h1.ptr_inv
    have h2 := zT hR (he i (by simp)) hi
    refine ⟨.pointer (some ⟨g', b' + (off + z.toNat * sz), none⟩), ?_, .ptr s _ g' b' z' e1⟩
    unfold execOp
    simp only [e2, h2, Instr.indexAt, asIntOf, Instr.sureAddr, Sem.run_bind, Sem.run_pure, run_underlying ht, Result.andThen_ok, Sem.run_ite, if_pos h0, yA hTB hz, Addr.add_mid, Nat.add_assoc]
theorem oC {t : TypeId} {x i : Operand} {gl o len sz e : Nat} {b : Bool} {kk : IntKind} {z : Int} (ht : P.underlying t = some (.array len e)) (hz : lk TB.ty e = some (b, sz)) (hx : ev σ x = .v (.pointer (some ⟨gl, o, none⟩))) (hi : ev σ i = .v (.int kk z)) (h0 : 0 ≤ z ∧ z < (len : Int)) :
    zb P X n ⟨d, .indexAddr t x i, ty, ps, af, g⟩ (mkR σ [x, i] [] d (.v (.pointer (some ⟨gl, o + z.toNat * sz, none⟩))) []) :=
  yO fun M ρ τ a w he hR => by
    have h1 := zT hR (he x (by simp)) hx
    have h2 := zT hR (he i (by simp)) hi
    refine ⟨.pointer (some ⟨gl, o + z.toNat * sz, none⟩), ?_, .v _⟩
    unfold execOp
    simp only [h1, h2, Instr.indexAt, asIntOf, Instr.sureAddr, Sem.run_bind, Sem.run_pure, run_underlying ht, Result.andThen_ok, Sem.run_ite, if_pos h0, yA hTB hz, Addr.add_mid]
theorem s_load_gl {t : TypeId} {x : Operand} {gl o m : Nat} {vs : List Value} {u : Value} (ht : lk TB.ty t = some (false, m)) (hx : ev σ x = .v (.pointer (some ⟨gl, o, none⟩))) (hG : σ.H gl = .ro vs) (hu : vs[o]? = some u) :
    zb P X n ⟨d, .load t x, ty, ps, af, g⟩ (mkR σ [x] [gl] d (.v u) []) := by
  refine zW rfl fun M ρ τ a w hf hR => ?_
  have hHs := (zo hf (s := gl) (by simp)).trans hG
  have h1 := zT hR (zP hf (by simp)) hx
  have h0 := hR.ob gl
  rw [hHs] at h0
  obtain ⟨_, t', fr, hh⟩ := h0
  refine ⟨u, w, M, ρ, ?_, hR, .v _⟩
  have hc : w.cell? ⟨gl, o, none⟩ = some u := by rw [cell_of_row w gl o ⟨vs⟩ t' fr hh]; simpa using hu
  unfold execOp
  simp only [h1, Instr.loadAt, Instr.sureAddr, loadVar, Sem.run_bind, Sem.run_pure, Result.andThen_ok, qH hTB ht, Bool.false_eq_true, if_false, run_load, hc]
theorem uV {t : TypeId} {x i : Operand} {len e m : Nat} {kk : IntKind} {z : Int} {cs : List CV} {y : CV} (ht : P.underlying t = some (.array len e)) (hz : lk TB.ty e = some (false, 1)) (hx : ev σ x = .ag cs) (hi : ev σ i = .v (.int kk z)) (h0 : 0 ≤ z ∧ z < (len : Int)) (hy : cs[z.toNat]? = some y) :
    zb P X n ⟨d, .index t x i, ty, ps, af, g⟩ (mkR σ [x, i] [] d y []) :=
  yO fun M ρ τ a w he hR => by
    have h1 := hR.ev x
    rw [he x (by simp), hx] at h1
    obtain ⟨vs, e1, e2, e3⟩ := h1.ag_inv
    have h2 := zT hR (he i (by simp)) hi
    obtain ⟨u, hu⟩ := zB (L := vs) (k := z.toNat) (by rw [e2]; exact zM hy)
    refine ⟨u, ?_, e3 _ y u hy hu⟩
    have hp : ∀ w, (part e (⟨vs⟩ : Array Value) (z.toNat * 1)).run P w = .ok u w := fun w => by
      have hg : (⟨vs⟩ : Array Value)[z.toNat]? = some u := by simpa using hu
      have ha := qH hTB hz w
      unfold part
      simp [Sem.run_bind, ha, Result.andThen_ok, hg]
    unfold execOp
    simp only [e1, h2, Instr.index, asIntOf, Sem.run_bind, Sem.run_pure, run_underlying ht, Result.andThen_ok, Sem.run_ite, if_pos h0, yA hTB hz, hp]
theorem s_len_se {t : TypeId} {x : Operand} {s sz e : Nat} (hs : lk TB.sle t = some e) (hx : ev σ x = .se s sz) : zb P X n ⟨d, .call ⟨.builtin .len, #[x], #[t]⟩, ty, ps, af, g⟩ (mkR σ [x] [] d (.v (.int .i64 (0 : Nat))) []) :=
  yO fun M ρ τ a w he hR => by
    have h1 := hR.ev x
    rw [he x (by simp), hx] at h1
    obtain ⟨A, c, e2⟩ : ∃ A c, a.eval x = .slice A 0 c := by
      generalize a.eval x = q at h1
      cases h1 with
      | se _ _ g b z o c _ _ _ _ => exact ⟨_, _, rfl⟩
    refine ⟨goInt (0 : Nat), ?_, .v _⟩
    unfold execOp
    simp [resolve, invoke, builtin, e2, Builtin.len_, run_underlying (yM hTB hs)]
omit hTB in
theorem s_len_s {t : TypeId} {x : Operand} {s : ByteArray} (hs : P.underlying t = some .string) (hx : ev σ x = .v (.string s)) : zb P X n ⟨d, .call ⟨.builtin .len, #[x], #[t]⟩, ty, ps, af, g⟩ (mkR σ [x] [] d (.v (.int .i64 s.size)) []) :=
  yO fun M ρ τ a w he hR => by
    have h1 := zT hR (he x (by simp)) hx
    refine ⟨goInt s.size, ?_, .v _⟩
    unfold execOp
    simp [resolve, invoke, builtin, h1, Builtin.len_, run_underlying hs]
theorem wZ {t : TypeId} {x : Operand} {lo hi : Option Operand} {e l h sz : Nat} {b : Bool} (hs : lk TB.sle t = some e) (hz : lk TB.ty e = some (b, sz)) (hx : ev σ x = .v (.slice none 0 0)) (hlo : lI σ 0 lo = some 0) (hhi : lI σ 0 hi = some 0) :
    zb P X n ⟨d, .slice t x lo hi none, ty, ps, af, g⟩ (mkR σ (x :: (lo.toList ++ hi.toList)) [] d (.v (.slice none 0 0)) []) :=
  yO fun M ρ τ a w he hR => by
    have h0 := zT hR (he x (by simp)) hx
    have hl : ((lo.map a.eval) = none ∧ (0 : Nat) = 0) ∨ ∃ k, lo.map a.eval = some (.int k ((0 : Nat) : Int)) := by
      cases lo with
      | none => exact .inl ⟨rfl, rfl⟩
      | some o =>
        obtain ⟨k, hk⟩ := aH hlo
        exact .inr ⟨k, by rw [Option.map_some, zT hR (he o (by simp)) hk]⟩
    have hh : ((hi.map a.eval) = none ∧ (0 : Nat) = 0 ∧ (none : Option Value) = none) ∨ ∃ k, hi.map a.eval = some (.int k ((0 : Nat) : Int)) := by
      cases hi with
      | none => exact .inl ⟨rfl, rfl, rfl⟩
      | some o =>
        obtain ⟨k, hk⟩ := aH hhi
        exact .inr ⟨k, by rw [Option.map_some, zT hR (he o (by simp)) hk]⟩
    have hr := iG (P := P) (A := none) (len := 0) (cap := 0) (mx := none) (m := 0) (yM hTB hs) (yA hTB hz) (Nat.le_refl _) (Nat.le_refl _) (Nat.le_refl _) hl hh (.inl ⟨rfl, rfl⟩) w
    refine ⟨_, by unfold execOp; simp only [h0, Option.map_none, Sem.run_bind, hr]; rfl, ?_⟩
    exact .v _
end
end Go.Proofs.YtnafokinifbfhaaGreatDoor.Cx
