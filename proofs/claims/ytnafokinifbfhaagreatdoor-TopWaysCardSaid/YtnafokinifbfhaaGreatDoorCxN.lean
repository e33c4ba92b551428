/- The executor's single operation is sound: what it reckons is what the machine does; nothing of the program stands here; conditions: tables that agree with the program's / The executor's single operation is sound, further: stores, places, operators, interface values, functions, literals; nothing of the program stands here; conditions: tables that agree with the program's. -/
import Derived.Test.YtnafokinifbfhaaGreatDoorCxL
set_option linter.unusedVariables false
set_option linter.unusedSimpArgs false
namespace Go.Proofs.YtnafokinifbfhaaGreatDoor.Cx
open Go Go.RowKit
/-- Targets lie among the frame's slots. -/
def dstC (n : Nat) : Code → Bool
  | .region _ ops _ => qK n ops.toList
  | .seq a b => dstC n a && dstC n b
  | .cond _ a b => dstC n a && dstC n b
  | .block _ c => dstC n c
  | .loop c => dstC n c
  | .scope c => dstC n c
  | _ => true
structure TbOk (P : Program) (TB : Tabs) (tb : Tb) : Prop where
  tabs : TabsOk P TB
  ty : ∀ t x, tb.ty t = some x → lk TB.ty t = some x
  sle : ∀ t x, tb.sle t = some x → lk TB.sle t = some x
  fld : ∀ t x, tb.fld t = some x → lk TB.fld t = some x
  zer : ∀ t x, tb.zer t = some x → lk TB.zer t = some x
  byt : ∀ t x, tb.byt t = some x → lk TB.byt t = some x
  ik : ∀ t x, tb.ik t = some x → lk TB.ik t = some x
  arr : ∀ t n e, tb.arr t = some (n, e) → P.underlying t = some (.array n e)
  mp : ∀ t k e, tb.mp t = some (k, e) → P.underlying t = some (.map k e)
  mz : ∀ t z, tb.mz t = some z → ∀ w, (zeroValue t).run P w = .ok z w
  ch : ∀ t b, tb.ch t = some b → ∃ dir e i z, P.underlying t = some (.chan dir e) ∧ P.info? e = some i ∧ i.bytes = b ∧ i.zero = some z
  isS : ∀ t u, tb.isS t = some u → P.underlying t = some .string
  isB : ∀ t u, tb.isB t = some u → P.underlying t = some .bool
  ask : ∀ t u, tb.ask t = some u → AskT P t
  flat : ∀ t n, tb.flat t = some n → pR P t n
  fn : ∀ f fi, tb.fn f = some fi → P.funcs[f]? = some fi ∧ qr P f ∧ ∀ c, fi.body = some c → dstC fi.ntmps c = true
  mix : P.follows .mixedOrders = true
noncomputable def stOf (T : Tr CV) (H : Tr CO) : AS := ⟨tg T, hg H⟩
theorem yg (T : Tr CV) (H : Tr CO) (o : Operand) : eT o T = ev (stOf T H) o := by cases o <;> rfl
/-- What a reckoned operation says of the machine. -/
def Snd (P : Program) (X : Ctx) (n : Nat) (o : Oper) (σ : AS) (nx : Nat) : Res → Prop
  | .val y ss hw nx' => (nx' ≠ nx → σ.H nx = .none) → ∃ xs : List Operand, (∀ x ∈ xs, x ∈ o.op.operands.toList) ∧ yI P X n o (mkR σ xs ss o.dst y hw)
  | .go f args => ∃ xs : List Operand, (∀ x ∈ xs, x ∈ o.op.operands.toList) ∧ ∀ M ρ τ a w, (∀ x ∈ xs, ev τ x = ev σ x) → Rel X n M ρ τ a w → ∃ vs : List Value, (qr P f → (execOp a.eval o).run P w = .ok (.enter f ⟨vs⟩) w) ∧ vs.length = args.length ∧ ∀ (j : Nat) (x : CV) (u : Value), args[j]? = some x → vs[j]? = some u → Rep ρ x u
  | .no => True
section
variable {P : Program} {X : Ctx} {n : Nat} {σ : AS} {d : Option Nat} {ty : TypeId} {ps : String} {af : Array Edge} {g : Option (Nat × Bool)} {T : Tr CV} {H : Tr CO} {nx : Nat}
theorem zv {o : Oper} {xs : List Operand} {ss : List Nat} {y : CV} {hw : List (Nat × CO)} {nx' : Nat} (hx : ∀ x ∈ xs, x ∈ o.op.operands.toList) (h : yI P X n o (mkR σ xs ss o.dst y hw)) : Snd P X n o σ nx (.val y ss hw nx') := fun _ => ⟨xs, hx, h⟩
theorem qG {o : Oper} {xs : List Operand} {ss : List Nat} {y : CV} {hw : List (Nat × CO)} (hx : ∀ x ∈ xs, x ∈ o.op.operands.toList) (h : σ.H nx = .none → yI P X n o (mkR σ xs ss o.dst y hw)) : Snd P X n o σ nx (.val y ss hw (nx + 1)) := fun h0 => ⟨xs, hx, h (h0 (by omega))⟩
theorem yf {o : Oper} {b : Bool} {r : Res} (h : b = true → Snd P X n o σ nx r) : Snd P X n o σ nx (bif b then r else .no) := by
  cases b with
  | true => exact h rfl
  | false => trivial
theorem rC {o : Oper} {b : Bool} {r : Res} (h : b = false → Snd P X n o σ nx r) : Snd P X n o σ nx (bif b then .no else r) := by
  cases b with
  | false => exact h rfl
  | true => trivial
theorem qj {x : CV} {m : Nat} (h : natV x = some m) : ∃ k, x = .v (.int k (m : Nat)) := by
  unfold natV at h
  split at h
  · injection h with h; subst h; exact ⟨_, rfl⟩
  · cases h
theorem snd_move {x : Operand} {tb : Tb} : Snd P X n ⟨d, .move x, ty, ps, af, g⟩ (stOf T H) nx (oMove x tb T H nx) := zv (xs := [x]) (by simp [Op.operands]) (by rw [yg T H]; exact s_move)
theorem uP {x : Operand} {tb : Tb} : Snd P X n ⟨d, .assign x, ty, ps, af, g⟩ (stOf T H) nx (oMove x tb T H nx) := zv (xs := [x]) (by simp [Op.operands]) (by rw [yg T H]; exact s_assign)
theorem snd_pick {a b c : Operand} {tb : Tb} : Snd P X n ⟨d, .pick c a b, ty, ps, af, g⟩ (stOf T H) nx (oPick c a b tb T H nx) := by
  unfold oPick
  rw [yg T H, yg T H, yg T H]
  unfold pickB
  split
  · rename_i t ht
    exact zv (xs := [c, a, b]) (by simp [Op.operands]) (s_pick ht)
  · trivial
theorem xM {TB : Tabs} {tb : Tb} (hT : TbOk P TB tb) {e : Nat} : Snd P X n ⟨d, .alloc e, ty, ps, af, g⟩ (stOf T H) nx (oAlloc e tb T H nx) := by
  unfold oAlloc
  cases hz : tb.zer e with
  | none => trivial
  | some zs =>
    exact yf fun ho => qG (xs := []) (by simp) (fun h => s_alloc hT.tabs (hT.zer _ _ hz) ho h)
theorem snd_box {tb : Tb} {e : Nat} {x : Operand} : Snd P X n ⟨d, .box e x, ty, ps, af, g⟩ (stOf T H) nx (oBox e x tb T H nx) := by
  unfold oBox boxC
  rw [yg T H]
  exact yf fun ho => qG (xs := [x]) (by simp [Op.operands]) (fun h => s_box ho h)
theorem dA {cs : List CV} {o m : Nat} {K : List CV → Res} (hm : 0 < m) : (subK cs o m .no K = .no) ∨ (o + m ≤ cs.length ∧ subK cs o m .no K = K ((cs.drop o).take m)) := by
  rw [gS _ _ _ _ _ hm]
  by_cases h : o + m ≤ cs.length
  · rw [if_pos h]; exact .inr ⟨h, rfl⟩
  · rw [if_neg h]; exact .inl rfl
variable {TB : Tabs} {tb : Tb} (hT : TbOk P TB tb)
include hT
theorem snd_load {t : Nat} {x : Operand} : Snd P X n ⟨d, .load t x, ty, ps, af, g⟩ (stOf T H) nx (oLoad t x tb T H nx) := by
  unfold oLoad
  rw [yg T H]
  cases ht : tb.ty t with
  | none => trivial
  | some q =>
    obtain ⟨b, m⟩ := q
    have ht := hT.ty _ _ ht
    unfold loadT
    simp only
    unfold loadP
    split
    · rename_i s off hx
      cases b with
      | true =>
        simp only [cond_true]
        unfold loadAgg
        split
        · rename_i cs hH
          refine rC fun hm => ?_
          · have hm : 0 < m := by cases m with | zero => cases hm | succ m => omega
            rcases dA (cs := cs) (o := off) (m := m) (K := fun l => .val (.ag l) [s] [] nx) hm with h | ⟨h1, h2⟩
            · rw [h]; trivial
            · rw [h2]; exact zv (xs := [x]) (by simp [Op.operands]) (tZ hT.tabs ht hx hH h1)
        · trivial
      | false =>
        simp only [cond_false]
        unfold loadOne
        split
        · rename_i cs hH
          rw [dB]
          split
          · rename_i y hy
            exact zv (xs := [x]) (by simp [Op.operands]) (uB hT.tabs ht hx hH hy)
          · trivial
        · trivial
    · rename_i gl o hx
      cases b with
      | true =>
        simp only [cond_true]
        unfold loadGA
        split
        · rename_i vs hH
          refine yf fun hb => ?_
          · simp only [Bool.and_eq_true] at hb
            obtain rfl := Nat.eq_of_beq_eq_true hb.1
            exact zv (xs := [x]) (by simp [Op.operands]) (mV hT.tabs ht hx hH (Nat.eq_of_beq_eq_true hb.2))
        · trivial
      | false =>
        simp only [cond_false]
        unfold loadG
        split
        · rename_i vs hH
          split
          · rename_i u hu
            exact zv (xs := [x]) (by simp [Op.operands]) (wV hT.tabs ht hx hH hu)
          · trivial
        · trivial
    · trivial
end
end Go.Proofs.YtnafokinifbfhaaGreatDoor.Cx
namespace Go.Proofs.YtnafokinifbfhaaGreatDoor.Cx
open Go Go.RowKit
theorem vA (a b : Nat) : decide (Int.ofNat a ≤ Int.ofNat b) = Nat.ble a b := by
  cases h : Nat.ble a b with
  | true => exact decide_eq_true (Int.ofNat_le.2 (Nat.le_of_ble_eq_true h))
  | false => exact decide_eq_false fun h2 => by rw [Nat.ble_eq_true_of_le (Int.ofNat_le.1 h2)] at h; cases h
theorem uT (a b : Nat) : decide (Int.ofNat a < Int.ofNat b) = Nat.blt a b := by
  cases h : Nat.blt a b with
  | true => exact decide_eq_true (Int.ofNat_lt.2 (Nat.le_of_ble_eq_true h))
  | false =>
    refine decide_eq_false fun h2 => ?_
    have : Nat.blt a b = true := Nat.ble_eq_true_of_le (Int.ofNat_lt.1 h2)
    rw [this] at h; cases h
section
variable {P : Program} {X : Ctx} {n : Nat} {σ : AS} {d : Option Nat} {ty : TypeId} {ps : String} {af : Array Edge} {g : Option (Nat × Bool)} {T : Tr CV} {H : Tr CO} {nx : Nat}
variable {TB : Tabs} {tb : Tb} (hT : TbOk P TB tb)
include hT
theorem wS {t : Nat} {x y : Operand} : Snd P X n ⟨d, .store t x y, ty, ps, af, g⟩ (stOf T H) nx (oStore t x y tb T H nx) := by
  unfold oStore
  rw [yg T H, yg T H]
  cases ht : tb.ty t with
  | none => trivial
  | some q =>
    obtain ⟨b, m⟩ := q
    have ht := hT.ty _ _ ht
    unfold storeT
    simp only
    unfold storeP
    split
    · rename_i s off hx
      unfold storeR
      split
      · rename_i cs hH
        refine yf fun hb => ?_
        simp only [Bool.and_eq_true] at hb
        have h0 : 0 < m := Nat.le_of_ble_eq_true hb.1
        have h1 := Nat.eq_of_beq_eq_true hb.2.1
        rw [aX _ _ _ _ _ (by omega)]
        by_cases hle : off + (ev (stOf T H) y).cells.length ≤ cs.length
        · rw [if_pos hle]
          exact zv (xs := [x, y]) (by simp [Op.operands]) (s_store hT.tabs ht hx hH h1 (by omega) hb.2.2)
        · rw [if_neg hle]; trivial
      · trivial
    · trivial
omit hT in
theorem snd_nil {x : Operand} : Snd P X n ⟨d, .nilCheck x, ty, ps, af, g⟩ (stOf T H) nx (oNil x tb T H nx) := by
  unfold oNil
  rw [yg T H]
  unfold nilC
  split
  · rename_i s o hx; exact zv (xs := [x]) (by simp [Op.operands]) (tA hx)
  · rename_i a hx; exact zv (xs := [x]) (by simp [Op.operands]) (oN hx)
  · rename_i f a b hx; exact zv (xs := [x]) (by simp [Op.operands]) (mU hx)
  · trivial
theorem xV {t f : Nat} {x : Operand} : Snd P X n ⟨d, .fieldAddr t x f, ty, ps, af, g⟩ (stOf T H) nx (oField t x f tb T H nx) := by
  unfold oField
  rw [yg T H]
  cases hf : tb.fld t with
  | none => trivial
  | some fs =>
    unfold fieldT
    simp only
    cases hq : fs[f]? with
    | none => trivial
    | some q =>
      obtain ⟨o, ft⟩ := q
      unfold fieldF
      simp only
      split
      · rename_i b m hm
        refine yf fun hb => ?_
        obtain ⟨m, rfl⟩ : ∃ k, m = k + 1 := ⟨m - 1, by have : 0 < m := Nat.le_of_ble_eq_true hb; omega⟩
        unfold fieldP
        split
        · rename_i s off hx
          rw [qH]
          exact zv (xs := [x]) (by simp [Op.operands]) (rA hT.tabs hx (hT.fld _ _ hf) hq (hT.ty _ _ hm))
        · rename_i gl off hx
          rw [qH]
          exact zv (xs := [x]) (by simp [Op.operands]) (lO hT.tabs hx (hT.fld _ _ hf) hq (hT.ty _ _ hm))
        · trivial
      · trivial
theorem bZ {t : Nat} {q : Nat × Nat} (h : hZ tb (tb.sle t) = some q) : ∃ e b, lk TB.sle t = some e ∧ lk TB.ty e = some (b, q.2) := by
  cases hs : tb.sle t with
  | none => rw [hs] at h; cases h
  | some e =>
    rw [hs] at h
    unfold hZ at h
    simp only at h
    split at h
    · rename_i b sz hz
      injection h with h
      subst h
      exact ⟨e, b, hT.sle _ _ hs, hT.ty _ _ hz⟩
    · cases h
theorem lJ {t : Nat} {q : Nat × Nat} (h : nU tb (tb.arr t) = some q) : ∃ e b, P.underlying t = some (.array q.1 e) ∧ lk TB.ty e = some (b, q.2) := by
  cases hs : tb.arr t with
  | none => rw [hs] at h; cases h
  | some p =>
    obtain ⟨m, e⟩ := p
    rw [hs] at h
    unfold nU at h
    simp only at h
    split at h
    · rename_i b sz hz
      injection h with h
      subst h
      exact ⟨e, b, hT.arr _ _ _ hs, hT.ty _ _ hz⟩
    · cases h
theorem mW {t : Nat} {x i : Operand} : Snd P X n ⟨d, .indexAddr t x i, ty, ps, af, g⟩ (stOf T H) nx (oIndexAddr t x i tb T H nx) := by
  unfold oIndexAddr
  rw [yg T H, yg T H]
  cases hi : natV (ev (stOf T H) i) with
  | none => trivial
  | some m =>
    obtain ⟨k, hi⟩ := qj hi
    unfold ixI
    simp only
    unfold ixX
    split
    · rename_i s sz' off len mc ex hx
      cases hq : hZ tb (tb.sle t) with
      | none => trivial
      | some q =>
        obtain ⟨q0, sz⟩ := q
        obtain ⟨e, b, h1, h2⟩ := bZ hT hq
        refine yf fun hb => ?_
        rw [qH]
        exact zv (xs := [x, i]) (by simp [Op.operands]) (pS hT.tabs h1 h2 hx hi (by omega) (by rw [Int.toNat_natCast]; exact Nat.le_of_ble_eq_true hb))
    · rename_i s off hx
      cases hq : nU tb (tb.arr t) with
      | none => trivial
      | some q =>
        obtain ⟨len, sz⟩ := q
        obtain ⟨e, b, h1, h2⟩ := lJ hT hq
        refine yf fun hb => ?_
        rw [qH]
        have hlt : m < len := Nat.le_of_ble_eq_true hb
        exact zv (xs := [x, i]) (by simp [Op.operands]) (kC hT.tabs h1 h2 hx hi (by omega))
    · rename_i gl off hx
      cases hq : nU tb (tb.arr t) with
      | none => trivial
      | some q =>
        obtain ⟨len, sz⟩ := q
        obtain ⟨e, b, h1, h2⟩ := lJ hT hq
        refine yf fun hb => ?_
        rw [qH]
        have hlt : m < len := Nat.le_of_ble_eq_true hb
        exact zv (xs := [x, i]) (by simp [Op.operands]) (lW hT.tabs h1 h2 hx hi (by omega))
    · trivial
theorem xH {t : Nat} {x i : Operand} : Snd P X n ⟨d, .index t x i, ty, ps, af, g⟩ (stOf T H) nx (oIndex t x i tb T H nx) := by
  unfold oIndex
  rw [yg T H, yg T H]
  cases hi : natV (ev (stOf T H) i) with
  | none => trivial
  | some m =>
    obtain ⟨k, hi⟩ := qj hi
    unfold idI
    simp only
    unfold idX
    split
    · rename_i cs hx
      cases hq : tb.arr t with
      | none => trivial
      | some q =>
        obtain ⟨len, e⟩ := q
        have h1 := hT.arr _ _ _ hq
        unfold idA
        simp only
        split
        · rename_i sz hz
          refine yf fun hb => ?_
          simp only [Bool.and_eq_true] at hb
          obtain rfl := Nat.eq_of_beq_eq_true hb.2
          have hlt : m < len := Nat.le_of_ble_eq_true hb.1
          rw [dB]
          split
          · rename_i y hy
            exact zv (xs := [x, i]) (by simp [Op.operands]) (sW (m := 1) hT.tabs h1 (hT.ty _ _ hz) hx hi (by omega) (by simpa using hy))
          · trivial
        · rename_i sz hz
          refine yf fun hb => ?_
          have hlt : m < len := Nat.le_of_ble_eq_true hb
          by_cases h0 : sz = 0
          · subst h0
            rw [gY]
            have := cG (X := X) (n := n) (d := d) (ty := ty) (ps := ps) (af := af) (g := g) hT.tabs h1 (hT.ty _ _ hz) hx hi (by omega)
            simp only [List.take_zero] at this
            exact zv (xs := [x, i]) (by simp [Op.operands]) this
          · rcases dA (cs := cs) (o := Nat.mul m sz) (m := sz) (K := fun l => rv (.ag l) nx) (by omega) with h | ⟨h3, h4⟩
            · rw [h]; trivial
            · rw [h4]
              exact zv (xs := [x, i]) (by simp [Op.operands]) (cG hT.tabs h1 (hT.ty _ _ hz) hx hi (by omega))
        · trivial
    · rename_i s hx
      cases hq : tb.isS t with
      | none => trivial
      | some u =>
        unfold idS
        simp only
        split
        · rename_i b hb
          rw [qH]
          exact zv (xs := [x, i]) (by simp [Op.operands]) (xL (hT.isS _ _ hq) hx hi hb)
        · trivial
    · trivial
omit hT in
theorem iN {op : BinOp} {tx yt : Nat} {x y : Operand} {k yk : IntKind} {a b : Int} (hx : ev (stOf T H) x = .v (.int k a)) (hy : ev (stOf T H) y = .v (.int yk b)) : Snd P X n ⟨d, .binOp op tx x y yt, ty, ps, af, g⟩ (stOf T H) nx (binSlow k a yk b op nx) := by
  unfold binSlow
  split
  · rename_i k' z hr
    rw [fZ_eq]
    exact zv (xs := [x, y]) (by simp [Op.operands]) (gA hx hy (fJ hr))
  · rename_i c hr
    rw [dZ]
    exact zv (xs := [x, y]) (by simp [Op.operands]) (gA hx hy (fJ hr))
  · trivial
omit hT in
theorem tS {op : BinOp} {tx yt : Nat} {x y : Operand} {a b : Nat} (hx : ev (stOf T H) x = .v (.int .i64 (.ofNat a))) (hy : ev (stOf T H) y = .v (.int .i64 (.ofNat b))) : Snd P X n ⟨d, .binOp op tx x y yt, ty, ps, af, g⟩ (stOf T H) nx (binNat a b nx op) := by
  have key : ∀ (c : Bool), intR .i64 (.ofNat a) .i64 (.ofNat b) op = some (.bool c) → Snd P X n ⟨d, .binOp op tx x y yt, ty, ps, af, g⟩ (stOf T H) nx (rv (.v (.bool c)) nx) := fun c hr => zv (xs := [x, y]) (by simp [Op.operands]) (gA hx hy (fJ hr))
  unfold binNat
  split
  · rw [dZ]
    refine key _ ?_
    simp only [intR, if_true]
    congr 2
    exact uT a b
  · rw [dZ]
    refine key _ ?_
    simp only [intR, if_true]
    congr 2
    exact vA a b
  · rw [dZ]
    refine key _ ?_
    simp only [intR, if_true]
    congr 2
    exact uT b a
  · rw [dZ]
    refine key _ ?_
    simp only [intR, if_true]
    congr 2
    exact vA b a
  · rw [dZ]
    refine key _ ?_
    simp only [intR, if_true]
    congr 2
    by_cases h : a = b
    · subst h; rw [Nat.beq_refl]; simp
    · rw [yC h]
      exact beq_false_of_ne (fun e => h (Int.ofNat.inj e))
  · rw [qH]
    refine yf fun hb => ?_
    have hlt : a + b < 4294967296 := Nat.le_of_ble_eq_true hb
    refine zv (xs := [x, y]) (by simp [Op.operands]) (gA hx hy (fJ ?_))
    simp only [intR, if_true]
    congr 2
    rw [IntKind.wrap_i64]
    show ((Int.ofNat a + Int.ofNat b) + 9223372036854775808) % 18446744073709551616 - 9223372036854775808 = Int.ofNat (a + b)
    simp only [Int.ofNat_eq_natCast]
    omega
  · exact iN hx hy
theorem snd_bin {op : BinOp} {tx yt : Nat} {x y : Operand} : Snd P X n ⟨d, .binOp op tx x y yt, ty, ps, af, g⟩ (stOf T H) nx (oBin op tx x y yt tb T H nx) := by
  unfold oBin
  rw [yg T H, yg T H]
  unfold binX
  split
  · rename_i k a yk b hx hy
    unfold binI
    split
    · exact tS hx hy
    · exact iN hx hy
  · rename_i a b hx hy
    cases hq : tb.isB tx with
    | none => trivial
    | some u =>
      unfold binB
      simp only
      split
      · exact zv (xs := [x, y]) (by simp [Op.operands]) (s_eql_b (hT.isB _ _ hq) hx hy)
      · exact zv (xs := [x, y]) (by simp [Op.operands]) (s_neq_b (hT.isB _ _ hq) hx hy)
      · trivial
  · rename_i a b hx hy
    unfold binS
    split
    · rw [dZ]; exact zv (xs := [x, y]) (by simp [Op.operands]) (s_eql_s hx hy)
    · rw [dZ]; exact zv (xs := [x, y]) (by simp [Op.operands]) (s_neq_s hx hy)
    · trivial
  · rename_i cs ds hx hy
    cases hq : tb.flat tx with
    | none => trivial
    | some m =>
      unfold binA
      simp only
      split
      · rename_i as1 bs ha hb
        refine yf fun hb2 => ?_
        simp only [Bool.and_eq_true] at hb2
        rw [dZ]
        exact zv (xs := [x, y]) (by simp [Op.operands]) (s_neq_ag (hT.flat _ _ hq) hx hy ha hb (Nat.eq_of_beq_eq_true hb2.1) (Nat.eq_of_beq_eq_true hb2.2))
      · trivial
  · rename_i s sz off len mc ex hx hy
    cases hq : tb.sle tx with
    | none => trivial
    | some e =>
      unfold binN
      simp only
      split
      · exact zv (xs := [x, y]) (by simp [Op.operands]) (oP hT.tabs (hT.sle _ _ hq) hx hy)
      · trivial
  · rename_i hx hy
    cases hq : tb.sle tx with
    | none => trivial
    | some e =>
      unfold binN
      simp only
      split
      · exact zv (xs := [x, y]) (by simp [Op.operands]) (wN hT.tabs (hT.sle _ _ hq) hx hy)
      · trivial
  · trivial
end
end Go.Proofs.YtnafokinifbfhaaGreatDoor.Cx
