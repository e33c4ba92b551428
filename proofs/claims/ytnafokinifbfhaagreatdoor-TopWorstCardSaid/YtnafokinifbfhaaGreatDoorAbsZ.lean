/- permitofficeref14: fault, before, Check, Locked, by the abstract machine; conditions: none / cmp.Compare at numbers, by the abstract machine; conditions: none / lockset: valid, order, other, used, with IndexFunc, ContainsFunc and cmp.Or at locks, by the abstract machine; conditions: none / lockset.valid and Check, by the abstract machine: Check answers as the reference does; conditions: the table of classes stands / network.across, Gap, Exists, slices.Index, Contains at numbers, the reference's Has, lockset.Locked, zone.rising, Check, at, by the abstract machine; conditions: the table of classes stands / Parts of own buffers: sliced, measured, and laid behind one another in place; conditions: tables of types that agree with the program's. -/
import Derived.Test.YtnafokinifbfhaaGreatDoorNetA
import Derived.Test.YtnafokinifbfhaaGreatDoorNetB
import Derived.Test.YtnafokinifbfhaaGreatDoorDkA
import Derived.Test.YtnafokinifbfhaaGreatDoorTab
import Derived.Test.YtnafokinifbfhaaGreatDoorTwQ
set_option linter.unusedVariables false
set_option linter.unusedSimpArgs false
namespace Go.Proofs.YtnafokinifbfhaaGreatDoor
open Go Go.RowKit
set_option maxRecDepth 10000
variable {G : Nat → Option (List Value)}
def Lk.av (k : Lk) : AV := .ag [.v (.int .i64 k.d), .v (.int .i64 k.p), .v (.int .i64 k.k)]
def ja (N : List Nd) (V : List Dv) : AV := .ag [.sl 3 (N.map Nd.av), .sl 5 (V.map Dv.av)]
theorem pL {V : List Dv} {k : Nat} {x : Dv} (h : V[k]? = some x) : (V.map Dv.av)[k]? = some x.av := by rw [List.getElem?_map, h]; rfl
end Go.Proofs.YtnafokinifbfhaaGreatDoor
namespace Go.Proofs.YtnafokinifbfhaaGreatDoor
open Go Go.RowKit
set_option maxRecDepth 10000
variable {G : Nat → Option (List Value)}
end Go.Proofs.YtnafokinifbfhaaGreatDoor
namespace Go.Proofs.YtnafokinifbfhaaGreatDoor
open Go Go.RowKit
set_option maxRecDepth 10000
variable {G : Nat → Option (List Value)}
end Go.Proofs.YtnafokinifbfhaaGreatDoor
namespace Go.Proofs.YtnafokinifbfhaaGreatDoor
open Go Go.RowKit
set_option maxRecDepth 10000
variable {G : Nat → Option (List Value)}
theorem cW {L : List Int} {k : Nat} {x : Int} (h : L[k]? = some x) : (L.map iv)[k]? = some (iv x) := by rw [List.getElem?_map, h]; rfl
def hasI (L : List Int) (x : Int) : Bool := L.any fun y => decide (y = x)
def fstI (x : Int) : List Int → Nat → Int
  | [], _ => -1
  | y :: l, i => if y = x then i else fstI x l (i + 1)
theorem mS (x : Int) : ∀ (L : List Int) (i : Nat), decide (fstI x L i ≥ 0) = hasI L x
  | [], i => by simp [fstI, hasI]
  | y :: L, i => by
    unfold hasI
    rw [fstI, List.any_cons]
    split
    · rename_i h; simp [h]
    · rename_i h; rw [mS x L (i + 1)]; simp [h, hasI]
theorem across_A (d : Dv) (v : Int) : zl Tryz.prog G 109 [d.av, .v (.int .i64 v)] [] (.v (.int .i64 (acr d v))) [] := by
  refine zY tbOk (zM Tryz.func109 (by kernel_rfl) rfl) Tryz.func109 rfl _ Tryz.ntmps109 (Nat.le_of_ble_eq_true rfl) fun X hX => ?_
  subst hX
  unfold acr
  repeat (first | ((with_reducible refine zE ?_); refine zF rfl ?_) | ((with_reducible refine zO ?_); refine zL tbOk rfl rfl rfl rfl ?_) | ((with_reducible refine zQ ?_); refine zN tbOk rfl rfl rfl rfl rfl ?_) | ((with_reducible refine yz ?_); refine jA rfl rfl rfl ?_)  | refine zK ?_ | refine zB rfl ?_ | with_reducible (first | refine zG ?_ | refine zH ?_ | refine zW ?_) | ((with_reducible refine zA ?_ ?_); kernel_rfl))
  refine zk (kV d.k) (by repeat' (first | exact trivial | exact Ren.v _ | refine ⟨?_, ?_⟩)) (by repeat' exact RenB.v _) ?_
  repeat (first | ((with_reducible refine zE ?_); refine zF rfl ?_) | ((with_reducible refine k_un ?_); refine jy rfl ?_)  | refine zK ?_ | refine zB rfl ?_ | with_reducible refine zG ?_ )
  refine zh rfl (fun h => ?_) (fun h => ?_)
  · rw [if_neg (by simpa using h)]
    repeat (first | ((with_reducible refine zE ?_); refine zF rfl ?_)  | refine zK ?_ | refine zB rfl ?_ | with_reducible (first | refine zG ?_ | refine ze ?_ | refine zH ?_ | refine zR ?_ | refine zS ?_) | ((with_reducible refine zA ?_ ?_); kernel_rfl))
    refine yC (by first | exact .inr rfl | exact .inl rfl) rfl rfl ?_
    rfl
  rw [if_pos (by simpa using h)]
  repeat (first | ((with_reducible refine zI ?_); refine zJ rfl ?_) | ((with_reducible refine zE ?_); refine zF rfl ?_) | ((with_reducible refine zO ?_); refine zL tbOk rfl rfl rfl rfl ?_) | ((with_reducible refine zQ ?_); refine zN tbOk rfl rfl rfl rfl rfl ?_) | ((with_reducible refine zP ?_); refine zV rfl rfl rfl ?_)  | refine zK ?_ | refine zB rfl ?_ | with_reducible (first | refine zG ?_ | refine zH ?_) | ((with_reducible refine zA ?_ ?_); kernel_rfl))
  refine zh rfl (fun h => ?_) (fun h => ?_)
  · rw [if_pos (by simpa using h)]
    repeat (first | ((with_reducible refine zE ?_); refine zF rfl ?_) | ((with_reducible refine zO ?_); refine zL tbOk rfl rfl rfl rfl ?_) | ((with_reducible refine zQ ?_); refine zN tbOk rfl rfl rfl rfl rfl ?_)  | refine zK ?_ | refine zB rfl ?_ | with_reducible (first | refine zG ?_ | refine zf ?_ | refine zo ?_ | refine zH ?_ | refine zS ?_) | ((with_reducible refine zA ?_ ?_); kernel_rfl))
    refine yC (by first | exact .inr rfl | exact .inl rfl) rfl rfl ?_
    rfl
  rw [if_neg (by simpa using h)]
  repeat (first | ((with_reducible refine zI ?_); refine zJ rfl ?_) | ((with_reducible refine zE ?_); refine zF rfl ?_) | ((with_reducible refine zO ?_); refine zL tbOk rfl rfl rfl rfl ?_) | ((with_reducible refine zQ ?_); refine zN tbOk rfl rfl rfl rfl rfl ?_) | ((with_reducible refine zP ?_); refine zV rfl rfl rfl ?_)  | refine zK ?_ | refine zB rfl ?_ | with_reducible (first | refine zG ?_ | refine zH ?_) | ((with_reducible refine zA ?_ ?_); kernel_rfl))
  refine zh rfl (fun h => ?_) (fun h => ?_)
  · rw [if_pos (by simpa using h)]
    repeat (first | ((with_reducible refine zE ?_); refine zF rfl ?_) | ((with_reducible refine zO ?_); refine zL tbOk rfl rfl rfl rfl ?_) | ((with_reducible refine zQ ?_); refine zN tbOk rfl rfl rfl rfl rfl ?_)  | refine zK ?_ | refine zB rfl ?_ | with_reducible (first | refine zG ?_ | refine zf ?_ | refine zo ?_ | refine zH ?_ | refine zS ?_) | ((with_reducible refine zA ?_ ?_); kernel_rfl))
    refine yC (by first | exact .inr rfl | exact .inl rfl) rfl rfl ?_
    rfl
  rw [if_neg (by simpa using h)]
  repeat (first | ((with_reducible refine zE ?_); refine zF rfl ?_)  | refine zK ?_ | refine zB rfl ?_ | with_reducible (first | refine zG ?_ | refine ze ?_ | refine zH ?_ | refine zR ?_ | refine zS ?_) | ((with_reducible refine zA ?_ ?_); kernel_rfl))
  refine yC (by first | exact .inr rfl | exact .inl rfl) rfl rfl ?_
  rfl
theorem idx_A (L : List Int) (x : Int) (hm : L.length ≤ maxLen) : zl Tryz.prog G 91 [.sl 1 (L.map iv), .v (.int .i64 x)] [] (.v (.int .i64 (fstI x L 0))) [] := by
  have hml : L.length ≤ 9223372036854775807 := by unfold maxLen at hm; omega
  refine zY tbOk (zM Tryz.func91 (by kernel_rfl) rfl) Tryz.func91 rfl _ Tryz.ntmps91 (Nat.le_of_ble_eq_true rfl) fun X hX => ?_
  subst hX
  repeat (first | ((with_reducible refine zI ?_); refine zJ rfl ?_) | ((with_reducible refine zE ?_); refine zF rfl ?_) | ((with_reducible refine yB ?_); refine yj tbOk rfl rfl ?_)  | refine zK ?_ | refine zB rfl ?_ | with_reducible (first | refine zG ?_ | refine zH ?_ | refine zW ?_) | ((with_reducible refine zA ?_ ?_); kernel_rfl))
  refine ya (ι := Nat) (fun k => k ≤ L.length ∧ fstI x (L.drop k) k = fstI x L 0) (fun k => L.length - k) (fun v k => [(0, .sl 1 (L.map iv)), (1, .v (.int .i64 x)), (7, .v (.int .i64 (L.map iv).length)), (8, .v (.int .i64 (k : Nat)))]) (fun v k => []) ?_ ?_
  · exact ⟨0, ⟨Nat.zero_le _, rfl⟩, trivial, ⟨rfl, rfl, rfl, rfl, trivial⟩, trivial⟩
  · rintro v k ⟨hk, hi⟩
    repeat (first | ((with_reducible refine zP ?_); refine zV rfl rfl rfl ?_)  | refine zK ?_ | refine zB rfl ?_ | with_reducible (first | refine zG ?_ | refine zH ?_) | ((with_reducible refine zA ?_ ?_); kernel_rfl))
    refine zh rfl (fun h => ?_) (fun h => ?_)
    · have hlt : k < L.length := by simpa using h
      obtain ⟨y, hy0⟩ := zT hlt
      have hy := cW hy0
      rw [yq hy0, fstI] at hi
      repeat (first | ((with_reducible refine zI ?_); refine zJ rfl ?_) | ((with_reducible refine zE ?_); refine zF rfl ?_) | ((with_reducible refine zQ ?_); refine zj tbOk rfl rfl rfl ?_) | ((with_reducible refine zU ?_); refine zg tbOk rfl rfl rfl rfl (by assumption) ?_) | ((with_reducible refine zP ?_); refine zV rfl rfl rfl ?_)  | refine zK ?_ | refine zB rfl ?_ | with_reducible (first | refine zG ?_ | refine zH ?_ | refine zW ?_ | refine zR ?_) | ((with_reducible refine zA ?_ ?_); kernel_rfl))
      refine zh rfl (fun h => ?_) (fun h => ?_)
      · have e : y = x := by
          have := of_decide_eq_true h
          omega
        rw [if_pos e] at hi
        repeat (first | ((with_reducible refine zI ?_); refine zJ rfl ?_) | ((with_reducible refine zE ?_); refine zF rfl ?_)  | refine zK ?_ | refine zB rfl ?_ | with_reducible (first | refine zG ?_ | refine zf ?_ | refine zo ?_ | refine zH ?_ | refine zS ?_) | ((with_reducible refine zA ?_ ?_); kernel_rfl))
        refine yC (by first | exact .inr rfl | exact .inl rfl) rfl rfl ?_
        rw [hi]
      · have e : ¬ y = x := by
          have := of_decide_eq_false h
          omega
        rw [if_neg e] at hi
        repeat (first | ((with_reducible refine zI ?_); refine zJ rfl ?_) | ((with_reducible refine zP ?_); refine zX rfl rfl (by omega) ?_)  | refine zK ?_ | refine zB rfl ?_ | with_reducible (first | refine zG ?_ | refine ze ?_ | refine zR ?_) | ((with_reducible refine zA ?_ ?_); kernel_rfl))
        exact ⟨k + 1, ⟨by omega, hi⟩, by omega, ⟨rfl, rfl, rfl, rfl, trivial⟩, trivial⟩
    · have hlt : ¬ k < L.length := by simpa using h
      rw [List.drop_of_length_le (by omega)] at hi
      repeat (first | ((with_reducible refine zE ?_); refine zF rfl ?_)  | refine zK ?_ | refine zB rfl ?_ | with_reducible (first | refine zG ?_ | refine zd ?_ | refine zH ?_ | refine zw ?_ | refine zS ?_) | ((with_reducible refine zb ?_ ?_); rfl) | ((with_reducible refine zA ?_ ?_); kernel_rfl))
      refine yC (by first | exact .inr rfl | exact .inl rfl) rfl rfl ?_
      rw [← hi]; rfl
theorem con_I (L : List Int) (x : Int) (hm : L.length ≤ maxLen) : zl Tryz.prog G 46 [.sl 1 (L.map iv), .v (.int .i64 x)] [] (.v (.bool (hasI L x))) [] := by
  refine zY tbOk (zM Tryz.func46 (by kernel_rfl) rfl) Tryz.func46 rfl _ Tryz.ntmps46 (Nat.le_of_ble_eq_true rfl) fun X hX => ?_
  subst hX
  repeat (first | ((with_reducible refine zI ?_); refine zJ rfl ?_) | ((with_reducible refine zE ?_); refine zF rfl ?_)  | refine zK ?_ | refine zB rfl ?_ | with_reducible (first | refine zG ?_ | refine zH ?_) | ((with_reducible refine zA ?_ ?_); kernel_rfl))
  refine zk (idx_A L x hm) (by repeat' (first | exact trivial | exact Ren.v _ | exact Ren.sl _ _ | refine ⟨?_, ?_⟩)) (by repeat' exact RenB.v _) ?_
  repeat (first | ((with_reducible refine zE ?_); refine zF rfl ?_) | ((with_reducible refine zP ?_); refine zV rfl rfl rfl ?_)  | refine zK ?_ | refine zB rfl ?_ | with_reducible (first | refine zG ?_ | refine zS ?_) )
  refine yC (by first | exact .inr rfl | exact .inl rfl) rfl rfl ?_
  exact congrArg (fun b => AV.v (.bool b)) (mS x L 0).symm
theorem hasI_at {L : List Int} {x y : Int} {k : Nat} (h : L[k]? = some y) : hasI (L.drop k) x = (decide (y = x) || hasI (L.drop (k + 1)) x) := by
  unfold hasI; rw [yq h, List.any_cons]
theorem has_A (L : List Int) (x : Int) (hm : L.length ≤ maxLen) : zl Tryz.prog G 16 [.sl 1 (L.map iv), .v (.int .i64 x)] [] (.v (.bool (hasI L x))) [] := by
  have hml : L.length ≤ 9223372036854775807 := by unfold maxLen at hm; omega
  refine zY tbOk (zM Tryz.func16 (by kernel_rfl) rfl) Tryz.func16 rfl _ Tryz.ntmps16 (Nat.le_of_ble_eq_true rfl) fun X hX => ?_
  subst hX
  repeat (first | ((with_reducible refine zE ?_); refine zF rfl ?_)  | refine zK ?_ | refine zB rfl ?_ | with_reducible (first | refine zG ?_ | refine zH ?_ | refine zW ?_) | ((with_reducible refine zA ?_ ?_); kernel_rfl))
  refine ya (ι := Nat) (fun k => k ≤ L.length ∧ hasI (L.drop k) x = hasI L x) (fun k => L.length - k) (fun v k => [(0, .sl 1 (L.map iv)), (1, .v (.int .i64 x)), (5, .v (.int .i64 (k : Nat)))]) (fun v k => []) ?_ ?_
  · exact ⟨0, ⟨Nat.zero_le _, rfl⟩, trivial, ⟨rfl, rfl, rfl, trivial⟩, trivial⟩
  · rintro v k ⟨hk, hi⟩
    repeat (first | ((with_reducible refine zI ?_); refine zJ rfl ?_) | ((with_reducible refine yB ?_); refine yj tbOk rfl rfl ?_) | ((with_reducible refine zP ?_); refine zV rfl rfl rfl ?_)  | refine zK ?_ | refine zB rfl ?_ | with_reducible (first | refine zG ?_ | refine zH ?_) | ((with_reducible refine zA ?_ ?_); kernel_rfl))
    refine zh rfl (fun h => ?_) (fun h => ?_)
    · have hlt : k < L.length := by simpa using h
      obtain ⟨y, hy0⟩ := zT hlt
      have hy := cW hy0
      rw [hasI_at hy0] at hi
      repeat (first | ((with_reducible refine zI ?_); refine zJ rfl ?_) | ((with_reducible refine zQ ?_); refine zj tbOk rfl rfl rfl ?_) | ((with_reducible refine zU ?_); refine zg tbOk rfl rfl rfl rfl (by assumption) ?_) | ((with_reducible refine zP ?_); refine zV rfl rfl rfl ?_)  | refine zK ?_ | refine zB rfl ?_ | with_reducible (first | refine zG ?_ | refine zH ?_ | refine zW ?_ | refine zR ?_) | ((with_reducible refine zA ?_ ?_); kernel_rfl))
      refine zh rfl (fun h => ?_) (fun h => ?_)
      · have e : decide (y = x) = true := h
        rw [e, Bool.true_or] at hi
        repeat (first | ((with_reducible refine zE ?_); refine zF rfl ?_)  | refine zK ?_ | refine zB rfl ?_ | with_reducible (first | refine zG ?_ | refine zf ?_ | refine zo ?_ | refine zH ?_ | refine zS ?_) | ((with_reducible refine zA ?_ ?_); kernel_rfl))
        refine yC (by first | exact .inr rfl | exact .inl rfl) rfl rfl ?_
        rw [hi]
      · have e : decide (y = x) = false := h
        rw [e, Bool.false_or] at hi
        repeat (first | ((with_reducible refine zI ?_); refine zJ rfl ?_) | ((with_reducible refine zE ?_); refine zF rfl ?_) | ((with_reducible refine zP ?_); refine zX rfl rfl (by omega) ?_)  | refine zK ?_ | refine zB rfl ?_ | with_reducible (first | refine zG ?_ | refine ze ?_ | refine zR ?_) | ((with_reducible refine zA ?_ ?_); kernel_rfl))
        exact ⟨k + 1, ⟨by omega, hi⟩, by omega, ⟨rfl, rfl, rfl, trivial⟩, trivial⟩
    · have hlt : ¬ k < L.length := by simpa using h
      rw [List.drop_of_length_le (by omega)] at hi
      repeat (first | ((with_reducible refine zE ?_); refine zF rfl ?_)  | refine zK ?_ | refine zB rfl ?_ | with_reducible (first | refine zG ?_ | refine zd ?_ | refine zH ?_ | refine zw ?_ | refine zS ?_) | ((with_reducible refine zb ?_ ?_); rfl) | ((with_reducible refine zA ?_ ?_); kernel_rfl))
      refine yC (by first | exact .inr rfl | exact .inl rfl) rfl rfl ?_
      rw [← hi]; rfl
end Go.Proofs.YtnafokinifbfhaaGreatDoor
namespace Go.Proofs.YtnafokinifbfhaaGreatDoor
open Go Go.RowKit
theorem Rep.os_inv {M : Nat → Option (Array Value)} {ρ : Nat → Nat → Option Value} {s k sz lo hi : Nat} {u : Value} (h : Rep M ρ (.os s k sz lo hi) u) : ∃ (g l c : Nat) (A : Option Addr), ρ s k = some (.slice (some ⟨g, 0, none⟩) l c) ∧ (lo < hi → A = some ⟨g, lo * sz, none⟩) ∧ (lo = 0 → A = some ⟨g, 0, none⟩) ∧ u = .slice A (hi - lo) (c - lo) := by
  cases h with
  | os _ _ _ _ _ _ g l c A h hA h0 => exact ⟨g, l, c, A, h, hA, h0, rfl⟩
theorem nA {sz : Nat} : ∀ (L : List AV) (i : Nat), (∀ x ∈ L, x.cells.length = sz) → (L.take i).flatMap AV.cells = (L.flatMap AV.cells).take (i * sz) ∧ (L.drop i).flatMap AV.cells = (L.flatMap AV.cells).drop (i * sz)
  | [], i, _ => by simp
  | x :: L, 0, _ => by simp
  | x :: L, i + 1, h => by
    obtain ⟨h1, h2⟩ := nA L i fun y hy => h y (by simp [hy])
    have hx := h x (by simp)
    have hle : x.cells.length ≤ sz + i * sz := by rw [hx]; exact Nat.le_add_right _ _
    have he : sz + i * sz - x.cells.length = i * sz := by rw [hx]; exact Nat.add_sub_cancel_left _ _
    rw [List.take_succ_cons, List.drop_succ_cons, List.flatMap_cons, List.flatMap_cons, h1, h2, Nat.succ_mul, Nat.add_comm (i * sz) sz]
    constructor
    · rw [List.take_append, List.take_of_length_le hle, he]
    · rw [List.drop_append, List.drop_of_length_le hle, List.nil_append, he]
section
variable {P : Program} {X : Ctx} {n : Nat} {ops : Array Oper} {os : List Oper} {acc : List Rule} {σ : AS} {K : List Rule → AS → Prop} {gt : List (Nat × AV)} {ty : TypeId} {ps : String} {af : Array Edge} {g : Option (Nat × Bool)}
variable {TB : Tabs} (hTB : TabsOk P TB)
include hTB
theorem vX {d : Option Nat} {t : TypeId} {x : Operand} {lo hi : Option Operand} {s k k' sz e e' : Nat} {b : Bool} {L : List AV} {l h : Int} (hs : lk TB.sle t = some e) (hz : lk TB.ty e = some (b, sz)) (hx : ev σ x = .own s k) (hH : σ.H s = ⟨k', .buf e' sz L⟩) (hk : k = k') (hlo : loOf σ lo = some l) (hhi : hiOf σ L.length hi = some h) (hb : 0 ≤ l ∧ l ≤ h ∧ h ≤ L.length) (hpos : 0 < L.length)
    (hK : Exec P X n ops os (mkG gt σ (x :: (lo.toList ++ hi.toList)) [s] d (.os s k sz l.toNat h.toNat) [] :: acc) (σ.put d (.os s k sz l.toNat h.toNat)) K) : Op1 P X n ops gt ⟨d, .slice t x lo hi none, ty, ps, af, g⟩ os acc σ K := by
  refine ⟨⟨mkR σ (x :: (lo.toList ++ hi.toList)) [s] d (.os s k sz l.toNat h.toNat) [], yG rfl fun M ρ τ a w hf hR => ?_, zu _ _ _ _ _ _, hK⟩⟩
  subst hk
  have hHs := (yW hf (s := s) (by simp)).trans hH
  have h1 := hR.ev x
  rw [zn hf (by simp), hx] at h1
  obtain ⟨g', c, cl, us, b1, b2, b3, b4, b5, b6, -⟩ := dW.some_ (hR.buf s k e' sz L hHs) hpos
  have e1 := h1.own_inv
  rw [b1] at e1
  injection e1 with e1
  obtain ⟨c1, c2, c3⟩ := hb
  have el : (l.toNat : Int) = l := Int.toNat_of_nonneg c1
  have eh : (h.toNat : Int) = h := Int.toNat_of_nonneg (by omega)
  have hl : ((lo.map a.eval) = none ∧ l.toNat = 0) ∨ ∃ k, lo.map a.eval = some (.int k (l.toNat : Int)) := by
    cases lo with
    | none => injection hlo with hlo; subst hlo; exact .inl ⟨rfl, rfl⟩
    | some o =>
      obtain ⟨k, hk⟩ := iL hlo
      exact .inr ⟨k, by rw [Option.map_some, zv hR (zn hf (by simp)) hk, el]⟩
  have hh : ((hi.map a.eval) = none ∧ h.toNat = L.length) ∨ ∃ k, hi.map a.eval = some (.int k (h.toNat : Int)) := by
    cases hi with
    | none => injection hhi with hhi; subst hhi; exact .inl ⟨rfl, by omega⟩
    | some o =>
      obtain ⟨k, hk⟩ := oD hhi
      exact .inr ⟨k, by rw [Option.map_some, zv hR (zn hf (by simp)) hk, eh]⟩
  have hr := qs (P := P) (A := some ⟨g', 0, none⟩) (cap := c) (yl hTB hs) (yd hTB hz) (show l.toNat ≤ h.toNat by omega) (show h.toNat ≤ L.length by omega) b5 hl hh w
  refine ⟨_, w, M, ρ, by unfold execOp; simp only [← e1, Option.map_none, Sem.run_bind, hr]; rfl, hR, .os _ s k sz l.toNat h.toNat g' _ c _ b1 (fun hlt => ?_) (fun h0 => ?_)⟩
  · rw [if_neg (by omega), Option.map_some, Addr.add_mid, Nat.zero_add]
  · split
    · rfl
    · rw [Option.map_some, Addr.add_mid, h0]; simp
end
section
variable {P : Program} {X : Ctx} {n : Nat} {σ : AS} {Q : Exit → AS → Prop} {c : Code}
end
end Go.Proofs.YtnafokinifbfhaaGreatDoor
