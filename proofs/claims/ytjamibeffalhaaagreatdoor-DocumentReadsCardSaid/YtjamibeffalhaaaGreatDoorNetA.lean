/- The deck of numbers of the package permitofficemake, by the abstract machine: what each draw gives, as a function of the deck; conditions: none / The network of two companies that permitofficefield.Tie makes, by plain functions of a deck; it is valid; nothing of the program stands here / The tie's network: how many devices, and how long its names are; nothing of the program stands here / network.Check and what it calls, by the abstract machine; conditions: the table of classes stands. -/
import Derived.Test.YtjamibeffalhaaaGreatDoorAbsS
import Derived.Test.YtjamibeffalhaaaGreatDoorTab
import Derived.Test.YtjamibeffalhaaaGreatDoorNetP
import Derived.Test.YtjamibeffalhaaaGreatDoorDcP
import Derived.Test.YtjamibeffalhaaaGreatDoorAbsU
import Derived.Test.YtjamibeffalhaaaGreatDoorLexA
set_option linter.unusedVariables false
set_option linter.unusedSimpArgs false
namespace Go.Proofs.YtjamibeffalhaaaGreatDoor
open Go Go.RowKit
set_option maxRecDepth 10000
structure Dk where
  l : List Int
  at_ : Nat
  s : Int
def iv (n : Int) : AV := .v (.int .i64 n)
def Dk.cells (D : Dk) : List AV := [.sl 1 (D.l.map iv), .v (.int .i64 D.at_), .v (.int .u64 D.s)]
structure DkOk (D : Dk) : Prop where
  at_ : D.at_ ≤ D.l.length
  len : D.l.length ≤ 400
  s0 : 0 ≤ D.s
  s1 : D.s < 18446744073709551616
def Dk.vv (D : Dk) : Int := match D.l[D.at_]? with
  | some x => IntKind.u64.wrap x
  | none => 0
def Dk.ss (D : Dk) : Int := IntKind.u64.wrap (IntKind.u64.wrap (IntKind.u64.wrap (D.s * 6364136223846793005) + D.vv) + 1442695040888963407)
def Dk.next (D : Dk) : Dk := ⟨D.l, if D.at_ < D.l.length then D.at_ + 1 else D.at_, D.ss⟩
def Dk.val (D : Dk) (n : Int) : Int := if n < 1 then 0 else IntKind.i64.wrap ((D.ss / 2 ^ (33 : Int).toNat).tmod (IntKind.u64.wrap n))
def dk0 (l : List Int) : Dk := ⟨l, 0, 88172645463325252⟩
theorem sS (z : Int) : 0 ≤ IntKind.u64.wrap z ∧ IntKind.u64.wrap z < 18446744073709551616 := by
  rw [IntKind.wrap_u64]; omega
theorem DkOk.next {D : Dk} (h : DkOk D) : DkOk D.next := by
  have hu := sS (IntKind.u64.wrap (IntKind.u64.wrap (D.s * 6364136223846793005) + D.vv) + 1442695040888963407)
  refine ⟨?_, h.len, hu.1, hu.2⟩
  have := h.at_
  simp only [Dk.next]
  split <;> omega
theorem DkOk.new {l : List Int} (h : l.length ≤ 400) : DkOk (dk0 l) := ⟨Nat.zero_le _, h, by simp [dk0], by simp [dk0]⟩
theorem Dk.val_range (D : Dk) {n : Int} (h1 : n ≤ 9223372036854775807) : 0 ≤ D.val n ∧ (1 ≤ n → D.val n < n) ∧ (n < 1 → D.val n = 0) := by
  unfold Dk.val
  split
  · exact ⟨by omega, by omega, fun _ => rfl⟩
  · rename_i hn
    have hu := sS (IntKind.u64.wrap (IntKind.u64.wrap (D.s * 6364136223846793005) + D.vv) + 1442695040888963407)
    have hw : IntKind.u64.wrap n = n := jQ (by omega)
    rw [hw]
    have e0 : 0 ≤ D.ss / 2 ^ (33 : Int).toNat := Int.ediv_nonneg hu.1 (by decide)
    rw [Int.tmod_eq_emod_of_nonneg e0]
    have e2 := Int.emod_nonneg (D.ss / 2 ^ (33 : Int).toNat) (show n ≠ 0 by omega)
    have e3 := Int.emod_lt_of_pos (D.ss / 2 ^ (33 : Int).toNat) (show 0 < n by omega)
    rw [yg (by omega)]
    exact ⟨e2, fun _ => e3, by omega⟩
variable {G : Nat → Option (List Value)}
theorem few_A (L : List AV) : zz Tryz.prog G 9 [.sl 1 L] [] (.v (.bool (decide ((L.length : Int) ≤ 400)))) [] := by
  refine zb tbOk (zc Tryz.func9 (by kernel_rfl) rfl) Tryz.func9 rfl _ Tryz.ntmps9 (Nat.le_of_ble_eq_true rfl) fun X hX => ?_
  subst hX
  repeat (first | ((with_reducible refine zK ?_); refine zJ rfl ?_) | ((with_reducible refine zE ?_); refine zF rfl ?_) | ((with_reducible refine zt ?_); refine yH tbOk rfl rfl ?_) | ((with_reducible refine zQ ?_); refine zT rfl rfl rfl ?_)  | refine zL ?_ | refine zB rfl ?_ | with_reducible (first | refine zG ?_ | refine zH ?_ | refine zN ?_) | ((with_reducible refine zA ?_ ?_); kernel_rfl))
  refine zm (by first | exact .inr rfl | exact .inl rfl) rfl rfl ?_
  rfl
theorem new_A (l : List Int) : zz Tryz.prog G 10 [.sl 1 (l.map iv)] [] (.ptr (refB + 0) 0 0) [(dk0 l).cells] := by
  refine zb tbOk (zc Tryz.func10 (by kernel_rfl) rfl) Tryz.func10 rfl _ Tryz.ntmps10 (Nat.le_of_ble_eq_true rfl) fun X hX => ?_
  subst hX
  repeat (first | ((with_reducible refine zK ?_); refine zJ rfl ?_) | ((with_reducible refine zE ?_); refine zF rfl ?_) | ((with_reducible refine yr ?_); refine yu rfl rfl rfl ?_) | ((with_reducible refine yM ?_); refine yN tbOk rfl rfl rfl rfl rfl ?_)  | refine zL ?_ | refine zB rfl ?_ | with_reducible (first | refine zG ?_ | refine zH ?_ | refine zN ?_) | ((with_reducible refine zA ?_ ?_); kernel_rfl))
  refine retNew (s := 5) (k := 1) (c' := (dk0 l).cells) (by first | exact .inr rfl | exact .inl rfl) ?_ (by decide) ?_ ?_
  · exact ⟨.tmp 2, trivial⟩
  · rfl
  · repeat' (first | exact trivial | exact Ren.v _ | exact Ren.sl _ _ | exact Ren.ep _ | exact Ren.ptr _ _ _ _ rfl | exact Ren.bs _ _ _ _ _ rfl | exact Ren.nil _ | exact Ren.own _ _ _ _ ⟨_, rfl⟩ | refine zi ?_ | refine zj ?_ | refine zl ?_ | refine ⟨?_, ?_⟩)
set_option maxHeartbeats 1000000 in
theorem jJ (D : Dk) (n : Int) (hD : DkOk D) (h1 : -9223372036854775808 ≤ n) (h2 : n ≤ 9223372036854775807) :
    zz Tryz.prog G 21 [.ptr (refB + 0) 0 0, .v (.int .i64 n)] [D.cells] (.v (.int .i64 (D.val n))) [D.next.cells] := by
  have h400 := hD.len
  have hlen : (D.l.map iv).length = D.l.length := by simp
  by_cases hn : n < 1
  · have hv : D.val n = 0 := by unfold Dk.val; rw [if_pos hn]
    rw [hv]
    refine zb tbOk (zc Tryz.func21 (by kernel_rfl) rfl) Tryz.func21 rfl _ Tryz.ntmps21 (Nat.le_of_ble_eq_true rfl) fun X hX => ?_
    subst hX
    repeat (first | ((with_reducible refine zK ?_); refine zJ rfl ?_) | ((with_reducible refine zE ?_); refine zF rfl ?_) | ((with_reducible refine zM ?_); refine zI tbOk rfl rfl rfl rfl ?_) | ((with_reducible refine zR ?_); refine zP tbOk rfl rfl rfl rfl rfl ?_) | ((with_reducible refine yb ?_); refine yJ rfl ?_) | ((with_reducible refine zt ?_); refine yH tbOk rfl rfl ?_) | ((with_reducible refine zQ ?_); refine zT rfl rfl rfl ?_)  | refine zL ?_ | refine yf (by kernel_rfl) ?_ | refine zB rfl ?_ | with_reducible (first | refine zG ?_ | refine zH ?_) | ((with_reducible refine zA ?_ ?_); kernel_rfl) | ((with_reducible refine yZ mixd ?_ ?_); kernel_rfl))
    refine zZ rfl (fun h => ?_) (fun h => ?_)
    · have hlt : D.at_ < D.l.length := by simp at h; omega
      obtain ⟨x, hx⟩ := zd hlt
      have hy : (D.l.map iv)[D.at_]? = some (iv x) := by rw [List.getElem?_map, hx]; rfl
      have hvv : D.vv = IntKind.u64.wrap x := by unfold Dk.vv; rw [hx]
      repeat' (first | ((with_reducible refine zK ?_); refine zJ rfl ?_) | ((with_reducible refine zE ?_); refine zF rfl ?_) | ((with_reducible refine zM ?_); refine zI tbOk rfl rfl rfl rfl ?_) | ((with_reducible refine zR ?_); (first | refine zP tbOk rfl rfl rfl rfl rfl ?_ | refine zW tbOk rfl rfl rfl ?_)) | ((with_reducible refine zp ?_); refine zq tbOk rfl rfl rfl rfl rfl rfl rfl (Nat.le_of_ble_eq_true rfl) rfl ?_) | ((with_reducible refine zU ?_); refine zX tbOk rfl rfl rfl rfl (by assumption) ?_) | ((with_reducible refine jS ?_); refine aJ tbOk rfl rfl rfl ?_) | ((with_reducible refine yb ?_); refine yJ rfl ?_) | ((with_reducible refine zQ ?_); (first | refine zg rfl rfl (by omega) ?_ | refine zT rfl rfl rfl ?_ | refine tZ rfl rfl (by decide) ?_))  | refine zL ?_ | refine yf (by kernel_rfl) ?_ | refine zB rfl ?_ | with_reducible (first | refine zG ?_ | refine zO ?_ | refine zH ?_ | refine zS ?_ | refine zN ?_) | ((with_reducible refine zA ?_ ?_); kernel_rfl) | ((with_reducible refine yZ mixd ?_ ?_); kernel_rfl) | refine zv rfl rfl (fun _ => ?_) (fun _ => ?_) | refine zZ rfl (fun _ => ?_) (fun _ => ?_))
      all_goals first
        | (rename_i hc; exfalso; simp at hc; omega)
        | (refine jG (by first | exact .inr rfl | exact .inl rfl) rfl rfl rfl (by first | rfl | assumption) ?_ ?_ (by repeat' (first | exact trivial | exact Ren.v _ | exact Ren.sl _ _ | exact Ren.ep _ | exact Ren.ptr _ _ _ _ rfl | exact Ren.bs _ _ _ _ _ rfl | exact Ren.nil _ | exact Ren.own _ _ _ _ ⟨_, rfl⟩ | refine zi ?_ | refine zj ?_ | refine zl ?_ | refine ⟨?_, ?_⟩)) <;> simp [Dk.next, Dk.cells, Dk.ss, hvv, hlt, iv, putL, AV.cells])
    · have hge : ¬ D.at_ < D.l.length := by simp at h; omega
      have hx : D.l[D.at_]? = none := List.getElem?_eq_none (by omega)
      have hvv : D.vv = 0 := by unfold Dk.vv; rw [hx]
      repeat' (first | ((with_reducible refine zK ?_); refine zJ rfl ?_) | ((with_reducible refine zE ?_); refine zF rfl ?_) | ((with_reducible refine zM ?_); refine zI tbOk rfl rfl rfl rfl ?_) | ((with_reducible refine zR ?_); refine zP tbOk rfl rfl rfl rfl rfl ?_) | ((with_reducible refine zp ?_); refine zq tbOk rfl rfl rfl rfl rfl rfl rfl (Nat.le_of_ble_eq_true rfl) rfl ?_) | ((with_reducible refine jS ?_); refine aJ tbOk rfl rfl rfl ?_) | ((with_reducible refine yb ?_); refine yJ rfl ?_) | ((with_reducible refine zQ ?_); (first | refine zT rfl rfl rfl ?_ | refine tZ rfl rfl (by decide) ?_))  | refine zL ?_ | refine zB rfl ?_ | with_reducible (first | refine zG ?_ | refine zO ?_ | refine zH ?_ | refine zS ?_ | refine zN ?_) | ((with_reducible refine zA ?_ ?_); kernel_rfl) | refine zv rfl rfl (fun _ => ?_) (fun _ => ?_) | refine zZ rfl (fun _ => ?_) (fun _ => ?_))
      all_goals first
        | (rename_i hc; exfalso; simp at hc; omega)
        | (refine jG (by first | exact .inr rfl | exact .inl rfl) rfl rfl rfl (by first | rfl | assumption) ?_ ?_ (by repeat' (first | exact trivial | exact Ren.v _ | exact Ren.sl _ _ | exact Ren.ep _ | exact Ren.ptr _ _ _ _ rfl | exact Ren.bs _ _ _ _ _ rfl | exact Ren.nil _ | exact Ren.own _ _ _ _ ⟨_, rfl⟩ | refine zi ?_ | refine zj ?_ | refine zl ?_ | refine ⟨?_, ?_⟩)) <;> simp [Dk.next, Dk.cells, Dk.ss, hvv, hge, iv, putL, AV.cells])
  · have hv : D.val n = IntKind.i64.wrap ((D.ss / 2 ^ (33 : Int).toNat).tmod n) := by unfold Dk.val; rw [if_neg hn, jQ (by omega)]
    rw [hv]
    have hn0 : n ≠ 0 := by omega
    refine zb tbOk (zc Tryz.func21 (by kernel_rfl) rfl) Tryz.func21 rfl _ Tryz.ntmps21 (Nat.le_of_ble_eq_true rfl) fun X hX => ?_
    subst hX
    repeat (first | ((with_reducible refine zK ?_); refine zJ rfl ?_) | ((with_reducible refine zE ?_); refine zF rfl ?_) | ((with_reducible refine zM ?_); refine zI tbOk rfl rfl rfl rfl ?_) | ((with_reducible refine zR ?_); refine zP tbOk rfl rfl rfl rfl rfl ?_) | ((with_reducible refine yb ?_); refine yJ rfl ?_) | ((with_reducible refine zt ?_); refine yH tbOk rfl rfl ?_) | ((with_reducible refine zQ ?_); refine zT rfl rfl rfl ?_)  | refine zL ?_ | refine yf (by kernel_rfl) ?_ | refine zB rfl ?_ | with_reducible (first | refine zG ?_ | refine zH ?_) | ((with_reducible refine zA ?_ ?_); kernel_rfl) | ((with_reducible refine yZ mixd ?_ ?_); kernel_rfl))
    refine zZ rfl (fun h => ?_) (fun h => ?_)
    · have hlt : D.at_ < D.l.length := by simp at h; omega
      obtain ⟨x, hx⟩ := zd hlt
      have hy : (D.l.map iv)[D.at_]? = some (iv x) := by rw [List.getElem?_map, hx]; rfl
      have hvv : D.vv = IntKind.u64.wrap x := by unfold Dk.vv; rw [hx]
      repeat' (first | ((with_reducible refine zK ?_); refine zJ rfl ?_) | ((with_reducible refine zE ?_); refine zF rfl ?_) | ((with_reducible refine zM ?_); refine zI tbOk rfl rfl rfl rfl ?_) | ((with_reducible refine zR ?_); (first | refine zP tbOk rfl rfl rfl rfl rfl ?_ | refine zW tbOk rfl rfl rfl ?_)) | ((with_reducible refine zp ?_); refine zq tbOk rfl rfl rfl rfl rfl rfl rfl (Nat.le_of_ble_eq_true rfl) rfl ?_) | ((with_reducible refine zU ?_); refine zX tbOk rfl rfl rfl rfl (by assumption) ?_) | ((with_reducible refine jS ?_); (first | refine qM tbOk rfl rfl rfl (by first | assumption | exact jQ (by omega) | exact yg (by omega) | exact jj (by omega)) ?_ | refine aJ tbOk rfl rfl rfl ?_)) | ((with_reducible refine yb ?_); refine yJ rfl ?_) | ((with_reducible refine zQ ?_); (first | refine zg rfl rfl (by omega) ?_ | refine zT rfl rfl rfl ?_ | refine tZ rfl rfl (by decide) ?_ | refine tU rfl rfl (by first | decide | assumption | omega) ?_))  | refine zL ?_ | refine yf (by kernel_rfl) ?_ | refine zB rfl ?_ | with_reducible (first | refine zG ?_ | refine zO ?_ | refine zH ?_ | refine zS ?_ | refine zN ?_) | ((with_reducible refine zA ?_ ?_); kernel_rfl) | ((with_reducible refine yZ mixd ?_ ?_); kernel_rfl) | refine zv rfl rfl (fun _ => ?_) (fun _ => ?_) | refine zZ rfl (fun _ => ?_) (fun _ => ?_))
      all_goals first
        | (rename_i hc; exfalso; simp at hc; omega)
        | (refine jG (by first | exact .inr rfl | exact .inl rfl) rfl rfl rfl (by first | rfl | assumption) ?_ ?_ (by repeat' (first | exact trivial | exact Ren.v _ | exact Ren.sl _ _ | exact Ren.ep _ | exact Ren.ptr _ _ _ _ rfl | exact Ren.bs _ _ _ _ _ rfl | exact Ren.nil _ | exact Ren.own _ _ _ _ ⟨_, rfl⟩ | refine zi ?_ | refine zj ?_ | refine zl ?_ | refine ⟨?_, ?_⟩)) <;> simp [Dk.next, Dk.cells, Dk.ss, hvv, hlt, iv, putL, AV.cells])
    · have hge : ¬ D.at_ < D.l.length := by simp at h; omega
      have hx : D.l[D.at_]? = none := List.getElem?_eq_none (by omega)
      have hvv : D.vv = 0 := by unfold Dk.vv; rw [hx]
      repeat' (first | ((with_reducible refine zK ?_); refine zJ rfl ?_) | ((with_reducible refine zE ?_); refine zF rfl ?_) | ((with_reducible refine zM ?_); refine zI tbOk rfl rfl rfl rfl ?_) | ((with_reducible refine zR ?_); refine zP tbOk rfl rfl rfl rfl rfl ?_) | ((with_reducible refine zp ?_); refine zq tbOk rfl rfl rfl rfl rfl rfl rfl (Nat.le_of_ble_eq_true rfl) rfl ?_) | ((with_reducible refine jS ?_); (first | refine qM tbOk rfl rfl rfl (by first | assumption | exact jQ (by omega) | exact yg (by omega) | exact jj (by omega)) ?_ | refine aJ tbOk rfl rfl rfl ?_)) | ((with_reducible refine yb ?_); refine yJ rfl ?_) | ((with_reducible refine zQ ?_); (first | refine zT rfl rfl rfl ?_ | refine tZ rfl rfl (by decide) ?_ | refine tU rfl rfl (by first | decide | assumption | omega) ?_))  | refine zL ?_ | refine zB rfl ?_ | with_reducible (first | refine zG ?_ | refine zO ?_ | refine zH ?_ | refine zS ?_ | refine zN ?_) | ((with_reducible refine zA ?_ ?_); kernel_rfl) | refine zv rfl rfl (fun _ => ?_) (fun _ => ?_) | refine zZ rfl (fun _ => ?_) (fun _ => ?_))
      all_goals first
        | (rename_i hc; exfalso; simp at hc; omega)
        | (refine jG (by first | exact .inr rfl | exact .inl rfl) rfl rfl rfl (by first | rfl | assumption) ?_ ?_ (by repeat' (first | exact trivial | exact Ren.v _ | exact Ren.sl _ _ | exact Ren.ep _ | exact Ren.ptr _ _ _ _ rfl | exact Ren.bs _ _ _ _ _ rfl | exact Ren.nil _ | exact Ren.own _ _ _ _ ⟨_, rfl⟩ | refine zi ?_ | refine zj ?_ | refine zl ?_ | refine ⟨?_, ?_⟩)) <;> simp [Dk.next, Dk.cells, Dk.ss, hvv, hge, iv, putL, AV.cells])
end Go.Proofs.YtjamibeffalhaaaGreatDoor
namespace Go.Proofs.YtjamibeffalhaaaGreatDoor
open Go Go.RowKit
def nmN (i : Nat) : ByteArray := (⟨#[78]⟩ : ByteArray) ++ strOfNums [48 + (i : Int)]
def tieX (D : Dk) (i : Nat) : Nd := ⟨nmN i, if D.val 2 = 0 then 1 + D.next.val 30 else 0, 1 + ((i / 3 : Nat) : Int)⟩
def jv (D : Dk) : Dk := if D.val 2 = 0 then D.next.next else D.next
def tieN : Nat → Nat → Dk → List Nd → Dk × List Nd
  | 0, _, D, L => (D, L)
  | m + 1, i, D, L => tieN m (i + 1) (jv D) (L ++ [tieX D i])
def nm2 (a b : UInt8) : ByteArray := ⟨#[a, b]⟩
/-- The devices that are always there: the kind of X2, and its company. -/
def tieV (k c : Int) : List Dv := [⟨nm2 83 48, 5, 0, -1, 1⟩, ⟨nm2 88 48, 2, 0, 1, 1⟩, ⟨nm2 88 49, 3, 1, 2, 1⟩, ⟨nm2 69 50, 4, 2, -1, 1⟩, ⟨nm2 88 50, k, 2, 3, c⟩, ⟨nm2 69 51, 4, 3, -1, 2⟩, ⟨nm2 88 51, 3, 3, 4, 2⟩, ⟨nm2 88 52, 2, 4, 5, 2⟩, ⟨nm2 83 53, 5, 5, -1, 2⟩]
def gK (z : Int) : Int := if z = 0 then 1 else 3
def tieE (D : Dk) : Dk := (tieN 6 0 D []).1
def bF (D : Dk) : List Nd := (tieN 6 0 D []).2
def fS (D : Dk) : List Dv := tieV (gK ((tieE D).val 2)) (1 + (tieE D).next.val 2)
def tieF (D : Dk) : Dk := (tieE D).next.next
def qK (D : Dk) : List Dv :=
  if (tieF D).val 4 = 0 then fS D ++ [⟨nm2 71 51, 6, 3, -1, 2⟩]
  else if (tieF D).val 4 = 1 then fS D ++ [⟨nm2 68 49, 3, 1, 4, 1 + (tieF D).next.val 2⟩] else fS D
def mD : List Int := [2, 2, 2, 1, 2, 1, 2, 2, 2]
def tieSs (D : Dk) : List Int :=
  if (tieF D).val 4 = 0 then mD ++ [1 + (tieF D).next.val 2]
  else if (tieF D).val 4 = 1 then mD ++ [1]
  else if (tieF D).val 4 = 2 then mD.set (1 + (tieF D).next.val 2).toNat 1 else mD
def tieD (D : Dk) : Dk := if (tieF D).val 4 = 0 ∨ (tieF D).val 4 = 1 ∨ (tieF D).val 4 = 2 then (tieF D).next.next else (tieF D).next
theorem tieXD_ok {D : Dk} (h : DkOk D) : DkOk (jv D) := by
  unfold jv
  split
  · exact h.next.next
  · exact h.next
theorem tJ : ∀ (m i : Nat) (D : Dk) (L : List Nd), DkOk D → DkOk (tieN m i D L).1 ∧ (tieN m i D L).2.length = L.length + m
  | 0, _, D, L, h => ⟨h, rfl⟩
  | m + 1, i, D, L, h => by
    obtain ⟨a, b⟩ := tJ m (i + 1) (jv D) (L ++ [tieX D i]) (tieXD_ok h)
    refine ⟨a, b.trans ?_⟩
    simp
    omega
theorem tieE_ok {D : Dk} (h : DkOk D) : DkOk (tieE D) := (tJ 6 0 D [] h).1
theorem tT {D : Dk} (h : DkOk D) : DkOk (tieF D) := (tieE_ok h).next.next
theorem tieD_ok {D : Dk} (h : DkOk D) : DkOk (tieD D) := by
  unfold tieD
  split
  · exact (tT h).next.next
  · exact (tT h).next
def cuX (D : Dk) : Int := if D.val 2 = 0 then 1 + D.next.val 30 else 0
theorem dR (D : Dk) : 0 ≤ cuX D ∧ cuX D ≤ 30 := by
  unfold cuX
  have r := D.next.val_range (n := 30) (by omega)
  have := r.2.1 (by omega)
  split <;> omega
theorem kF (D : Dk) : ∃ c0 c1 c2 c3 c4 c5 : Int, (0 ≤ c0 ∧ c0 ≤ 30) ∧ (0 ≤ c1 ∧ c1 ≤ 30) ∧ (0 ≤ c2 ∧ c2 ≤ 30) ∧ (0 ≤ c3 ∧ c3 ≤ 30) ∧ (0 ≤ c4 ∧ c4 ≤ 30) ∧ (0 ≤ c5 ∧ c5 ≤ 30) ∧
    bF D = [⟨nm2 78 48, c0, 1⟩, ⟨nm2 78 49, c1, 1⟩, ⟨nm2 78 50, c2, 1⟩, ⟨nm2 78 51, c3, 2⟩, ⟨nm2 78 52, c4, 2⟩, ⟨nm2 78 53, c5, 2⟩] :=
  ⟨_, _, _, _, _, _, dR D, dR (jv D), dR (jv (jv D)), dR (jv (jv (jv D))), dR (jv (jv (jv (jv D)))), dR (jv (jv (jv (jv (jv D))))), rfl⟩
theorem dJ {U : List ByteArray} {n : ByteArray} {cu co : Int} {l : List Nd} (h1 : jd n.data.toList = true) (h2 : jc U n = false) (h3 : 0 ≤ cu ∧ cu ≤ 30) (h4 : qF co = true) : ndGo U (⟨n, cu, co⟩ :: l) = ndGo (U ++ [n]) l := by
  rw [ndGo, if_neg (by rw [h1]; decide), if_neg (by rw [h2]; decide), if_neg (by rw [h4]; simp; omega)]
theorem qS {m : Int} {U : List ByteArray} {n : ByteArray} {k a b co : Int} {l : List Dv} (h1 : jd n.data.toList = true) (h2 : jc U n = false) (h3 : 1 ≤ k ∧ k ≤ 6) (h4 : (if a < 0 ∨ m ≤ a then false else if qt k = false then decide (b = -1) else decide (0 ≤ b) && decide (b < m) && decide (b ≠ a)) = true) (h5 : qF co = true) : dvGo m U (⟨n, k, a, b, co⟩ :: l) = dvGo m (U ++ [n]) l := by
  have h4' : qb ⟨n, k, a, b, co⟩ m = true := h4
  rw [dvGo, if_neg (by rw [h1]; decide), if_neg (by rw [h2]; decide), if_neg (by simp only; omega), if_neg (by rw [h4']; decide), if_neg (by rw [h5]; decide)]
theorem vQ {z : Int} (h0 : 0 ≤ z) (h1 : z ≤ 1) : qF (1 + z) = true := by
  obtain rfl | rfl : z = 0 ∨ z = 1 := by omega
  · rfl
  · rfl
theorem uB (D : Dk) : netE (bF D) (qK D) = 0 := by
  obtain ⟨c0, c1, c2, c3, c4, c5, h0, h1, h2, h3, h4, h5, e⟩ := kF D
  rw [e]
  have rk := (tieE D).val_range (n := 2) (by omega)
  have ak := rk.2.1 (by omega)
  have rc := (tieE D).next.val_range (n := 2) (by omega)
  have ac := rc.2.1 (by omega)
  have rd := (tieF D).next.val_range (n := 2) (by omega)
  have ad := rd.2.1 (by omega)
  have hc := vQ rc.1 (by omega)
  have hd := vQ rd.1 (by omega)
  have hk : gK ((tieE D).val 2) = 1 ∨ gK ((tieE D).val 2) = 3 := by unfold gK; split <;> simp
  unfold netE
  have hN : ∀ V : List Dv, ndGo [] [⟨nm2 78 48, c0, 1⟩, ⟨nm2 78 49, c1, 1⟩, ⟨nm2 78 50, c2, 1⟩, ⟨nm2 78 51, c3, 2⟩, ⟨nm2 78 52, c4, 2⟩, ⟨nm2 78 53, c5, 2⟩] = 0 := fun _ => by
    rw [dJ (by decide +kernel) (by decide +kernel) h0 rfl, dJ (by decide +kernel) (by decide +kernel) h1 rfl, dJ (by decide +kernel) (by decide +kernel) h2 rfl, dJ (by decide +kernel) (by decide +kernel) h3 rfl, dJ (by decide +kernel) (by decide +kernel) h4 rfl, dJ (by decide +kernel) (by decide +kernel) h5 rfl]
    rfl
  have hV : (qK D).length ≤ 10 := by
    unfold qK fS tieV
    split
    · simp
    split <;> simp
  rw [if_neg (by simp; omega), if_neg (by rw [hN []]; simp)]
  have hrest : ∀ l : List Dv, (∀ U, U = [nm2 78 48, nm2 78 49, nm2 78 50, nm2 78 51, nm2 78 52, nm2 78 53, nm2 83 48, nm2 88 48, nm2 88 49, nm2 69 50, nm2 88 50, nm2 69 51, nm2 88 51, nm2 88 52, nm2 83 53] → dvGo 6 U l = 0) →
      dvGo 6 [nm2 78 48, nm2 78 49, nm2 78 50, nm2 78 51, nm2 78 52, nm2 78 53] (fS D ++ l) = 0 := fun l hl => by
    unfold fS tieV
    simp only [List.cons_append, List.nil_append]
    rw [qS (by decide +kernel) (by decide +kernel) (by decide) (by decide +kernel) rfl, qS (by decide +kernel) (by decide +kernel) (by decide) (by decide +kernel) rfl, qS (by decide +kernel) (by decide +kernel) (by decide) (by decide +kernel) rfl, qS (by decide +kernel) (by decide +kernel) (by decide) (by decide +kernel) rfl]
    rw [qS (by decide +kernel) (by decide +kernel) (by rcases hk with hk | hk <;> rw [hk] <;> decide) (by rcases hk with hk | hk <;> rw [hk] <;> decide +kernel) hc]
    rw [qS (by decide +kernel) (by decide +kernel) (by decide) (by decide +kernel) rfl, qS (by decide +kernel) (by decide +kernel) (by decide) (by decide +kernel) rfl, qS (by decide +kernel) (by decide +kernel) (by decide) (by decide +kernel) rfl, qS (by decide +kernel) (by decide +kernel) (by decide) (by decide +kernel) rfl]
    exact hl _ rfl
  show dvGo 6 [nm2 78 48, nm2 78 49, nm2 78 50, nm2 78 51, nm2 78 52, nm2 78 53] (qK D) = 0
  unfold qK
  split
  · refine hrest _ fun U hU => ?_
    subst hU
    rw [qS (by decide +kernel) (by decide +kernel) (by decide) (by decide +kernel) rfl]
    rfl
  split
  · refine hrest _ fun U hU => ?_
    subst hU
    rw [qS (by decide +kernel) (by decide +kernel) (by decide) (by decide +kernel) hd]
    rfl
  · have := hrest [] fun U _ => rfl
    rwa [List.append_nil] at this
end Go.Proofs.YtjamibeffalhaaaGreatDoor
namespace Go.Proofs.YtjamibeffalhaaaGreatDoor
open Go Go.RowKit
theorem tie_len (D : Dk) : (qK D).length = 9 ∨ (qK D).length = 10 := by
  unfold qK
  split
  · right; rfl
  split
  · right; rfl
  · left; rfl
theorem tie_sz (D : Dk) : (∀ x ∈ bF D, x.n.size = 2) ∧ (∀ x ∈ qK D, x.n.size = 2) := by
  refine ⟨fun x hx => ?_, fun x hx => ?_⟩
  · obtain ⟨c0, c1, c2, c3, c4, c5, -, -, -, -, -, -, e⟩ := kF D
    rw [e] at hx
    simp only [List.mem_cons, List.not_mem_nil, or_false] at hx
    rcases hx with rfl | rfl | rfl | rfl | rfl | rfl <;> rfl
  · have hV : ∀ k c, ∀ x ∈ tieV k c, x.n.size = 2 := fun k c x hx => by
      unfold tieV at hx
      simp only [List.mem_cons, List.not_mem_nil, or_false] at hx
      rcases hx with rfl | rfl | rfl | rfl | rfl | rfl | rfl | rfl | rfl <;> rfl
    unfold qK fS at hx
    split at hx
    · rcases List.mem_append.1 hx with hx | hx
      · exact hV _ _ x hx
      · simp only [List.mem_cons, List.not_mem_nil, or_false] at hx
        subst hx; rfl
    split at hx
    · rcases List.mem_append.1 hx with hx | hx
      · exact hV _ _ x hx
      · simp only [List.mem_cons, List.not_mem_nil, or_false] at hx
        subst hx; rfl
    · exact hV _ _ x hx
theorem uI (D : Dk) : (∀ x ∈ bF D, x.n.size ≤ maxLen) ∧ (∀ x ∈ qK D, x.n.size ≤ maxLen) ∧ (bF D).length ≤ maxLen ∧ (qK D).length ≤ maxLen := by
  have hlt : (2 : Nat) ≤ maxLen := by decide
  have h64 : (64 : Nat) ≤ maxLen := by decide
  obtain ⟨hn1, hn2⟩ := netE_len (uB D)
  obtain ⟨s1, s2⟩ := tie_sz D
  exact ⟨fun x hx => by rw [s1 x hx]; exact hlt, fun x hx => by rw [s2 x hx]; exact hlt, by omega, by omega⟩
theorem xI (D : Dk) : 0 < (qK D).length ∧ (qK D).length ≤ 64 := by rcases tie_len D with h | h <;> omega
end Go.Proofs.YtjamibeffalhaaaGreatDoor
namespace Go.Proofs.YtjamibeffalhaaaGreatDoor
open Go Go.RowKit
set_option maxRecDepth 10000
variable {G : Nat → Option (List Value)}
def Nd.av (x : Nd) : AV := .ag [.v (.string x.n), .v (.int .i64 x.cu), .v (.int .i64 x.co)]
def Dv.av (d : Dv) : AV := .ag [.v (.string d.n), .v (.int .i64 d.k), .v (.int .i64 d.a), .v (.int .i64 d.b), .v (.int .i64 d.co)]
theorem mF (s n : ByteArray) : (s == n) = decide (s = n) := by
  obtain ⟨a⟩ := s
  obtain ⟨b⟩ := n
  show (a == b) = _
  by_cases h : a = b
  · subst h; simp
  · simp [h]
theorem qI (s : ByteArray) : ∀ U : List ByteArray, kK .string (.string s) (iU U) = some (if jc U s = true then some (.bool true) else none)
  | [] => rfl
  | n :: U => by
    have ih := qI s U
    unfold iU at ih ⊢
    rw [List.map_cons, kK]
    simp only [Instr.sameNow]
    by_cases h : s = n
    · subst h
      rw [mF]
      simp [jc]
    · rw [mF, decide_eq_false h]
      simp only [ih, jc, List.any_cons, decide_eq_false h, Bool.false_or]
      rfl
theorem xX (n : Int) : zz Tryz.prog G 76 [.v (.int .i64 n)] [] (.v (.bool (qF n))) [] := by
  refine zb tbOk (zc Tryz.func76 (by kernel_rfl) rfl) Tryz.func76 rfl _ Tryz.ntmps76 (Nat.le_of_ble_eq_true rfl) fun X hX => ?_
  subst hX
  repeat' (first | ((with_reducible refine zK ?_); refine zJ rfl ?_) | ((with_reducible refine zE ?_); refine zF rfl ?_) | ((with_reducible refine za ?_); (first | refine zh rfl (by first | rfl | assumption) rfl ?_ | refine zf rfl (by first | rfl | assumption) rfl ?_)) | ((with_reducible refine zQ ?_); refine zT rfl rfl rfl ?_)  | refine zL ?_ | refine zB rfl ?_ | refine yC rfl rfl (by first | rfl | assumption) ?_ | refine yE rfl rfl (by first | rfl | assumption) ?_ | with_reducible (first | refine zG ?_ | refine zH ?_ | refine zN ?_) | ((with_reducible refine zA ?_ ?_); kernel_rfl) | refine zv rfl rfl (fun _ => ?_) (fun _ => ?_) | refine zZ rfl (fun _ => ?_) (fun _ => ?_))
  all_goals refine zm (by first | exact .inr rfl | exact .inl rfl) rfl rfl ?_
  all_goals simp_all [qF]
  all_goals (intros; omega)
theorem joins_A (n : Int) : zz Tryz.prog G 105 [.v (.int .i64 n)] [] (.v (.bool (qt n))) [] := by
  refine zb tbOk (zc Tryz.func105 (by kernel_rfl) rfl) Tryz.func105 rfl _ Tryz.ntmps105 (Nat.le_of_ble_eq_true rfl) fun X hX => ?_
  subst hX
  repeat' (first | ((with_reducible refine zK ?_); refine zJ rfl ?_) | ((with_reducible refine zE ?_); refine zF rfl ?_) | ((with_reducible refine za ?_); (first | refine zh rfl (by first | rfl | assumption) rfl ?_ | refine zf rfl (by first | rfl | assumption) rfl ?_)) | ((with_reducible refine zQ ?_); refine zT rfl rfl rfl ?_)  | refine zL ?_ | refine zB rfl ?_ | refine yC rfl rfl (by first | rfl | assumption) ?_ | refine yE rfl rfl (by first | rfl | assumption) ?_ | with_reducible (first | refine zG ?_ | refine zH ?_ | refine zN ?_) | ((with_reducible refine zA ?_ ?_); kernel_rfl) | refine zv rfl rfl (fun _ => ?_) (fun _ => ?_) | refine zZ rfl (fun _ => ?_) (fun _ => ?_))
  all_goals refine zm (by first | exact .inr rfl | exact .inl rfl) rfl rfl ?_
  all_goals simp_all [qt]
  all_goals (intros; omega)
set_option maxHeartbeats 1000000 in
theorem vZ (d : Dv) (m : Int) : zz Tryz.prog G 77 [d.av, .v (.int .i64 m)] [] (.v (.bool (qb d m))) [] := by
  refine zb tbOk (zc Tryz.func77 (by kernel_rfl) rfl) Tryz.func77 rfl _ Tryz.ntmps77 (Nat.le_of_ble_eq_true rfl) fun X hX => ?_
  subst hX
  repeat' (first | ((with_reducible refine zK ?_); refine zJ rfl ?_) | ((with_reducible refine zE ?_); refine zF rfl ?_) | ((with_reducible refine zM ?_); refine zI tbOk rfl rfl rfl rfl ?_) | ((with_reducible refine zR ?_); refine zP tbOk rfl rfl rfl rfl rfl ?_) | ((with_reducible refine yr ?_); refine yu rfl rfl rfl ?_) | ((with_reducible refine za ?_); (first | refine zh rfl (by first | rfl | assumption) rfl ?_ | refine zf rfl (by first | rfl | assumption) rfl ?_)) | ((with_reducible refine zQ ?_); refine zT rfl rfl rfl ?_)  | refine zL ?_ | refine zB rfl ?_ | refine zw rfl rfl (by first | rfl | assumption) ?_ | refine yA rfl rfl (by first | rfl | assumption) ?_ | with_reducible (first | refine zG ?_ | refine zO ?_ | refine zV ?_ | refine zH ?_ | refine zY ?_ | refine zN ?_) | ((with_reducible refine zA ?_ ?_); kernel_rfl) | refine zn rfl (by first | rfl | assumption) ?_ | refine zv rfl rfl (fun _ => ?_) (fun _ => ?_) | refine zZ rfl (fun _ => ?_) (fun _ => ?_))
  all_goals first
    | (fail_if_success with_reducible refine zt ?_
       skip)
    | (refine zC (joins_A d.k) ?_
       skip)
  all_goals repeat' (first | ((with_reducible refine zK ?_); refine zJ rfl ?_) | ((with_reducible refine zE ?_); refine zF rfl ?_) | ((with_reducible refine zM ?_); refine zI tbOk rfl rfl rfl rfl ?_) | ((with_reducible refine zR ?_); refine zP tbOk rfl rfl rfl rfl rfl ?_) | ((with_reducible refine k_un ?_); refine jF rfl ?_) | ((with_reducible refine za ?_); (first | refine zh rfl (by first | rfl | assumption) rfl ?_ | refine zf rfl (by first | rfl | assumption) rfl ?_)) | ((with_reducible refine zQ ?_); refine zT rfl rfl rfl ?_)  | refine zL ?_ | refine zB rfl ?_ | refine yC rfl rfl (by first | rfl | assumption) ?_ | refine yE rfl rfl (by first | rfl | assumption) ?_ | with_reducible (first | refine zG ?_ | refine zO ?_ | refine zu ?_ | refine zV ?_ | refine zH ?_ | refine zS ?_ | refine zN ?_) | ((with_reducible refine zA ?_ ?_); kernel_rfl) | refine zv rfl rfl (fun _ => ?_) (fun _ => ?_) | refine zZ rfl (fun _ => ?_) (fun _ => ?_))
  all_goals refine zm (by first | exact .inr rfl | exact .inl rfl) rfl rfl ?_
  all_goals refine congrArg (fun b => AV.v (.bool b)) ?_
  all_goals simp_all [qb]
  all_goals first
    | (intros; omega)
    | (rw [decide_eq_false (show ¬ d.a < 0 by omega), decide_eq_false (show ¬ m ≤ d.a by omega)]
       by_cases h9 : d.b = d.a <;> by_cases h10 : d.b = -1 <;> simp_all)
end Go.Proofs.YtjamibeffalhaaaGreatDoor
