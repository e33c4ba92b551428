/- The deck of numbers of the package permitofficemake, by the abstract machine: what each draw gives, as a function of the deck; conditions: none / The network of two companies that permitofficefield.Tie makes, by plain functions of a deck; it is valid; nothing of the program stands here / The tie's network: how many devices, and how long its names are; nothing of the program stands here. -/
import Derived.Test.YtjamibeffalhaaaGreatDoorAbsS
import Derived.Test.YtjamibeffalhaaaGreatDoorTab
import Derived.Test.YtjamibeffalhaaaGreatDoorLxA
import Derived.Test.YtjamibeffalhaaaGreatDoorDcP
set_option linter.unusedVariables false
set_option linter.unusedSimpArgs false
namespace Go.Proofs.YtjamibeffalhaaaGreatDoor
open Go Go.RowKit
set_option maxRecDepth 10000
structure Dk where
  l : List Int
  at_ : Nat
  s : Int
def iv (n : Int) : AV := .v (.int .i64 n)
def Dk.cells (D : Dk) : List AV := [.sl 1 (D.l.map iv), .v (.int .i64 D.at_), .v (.int .u64 D.s)]
structure DkOk (D : Dk) : Prop where
  at_ : D.at_ ≤ D.l.length
  len : D.l.length ≤ 400
  s0 : 0 ≤ D.s
  s1 : D.s < 18446744073709551616
def Dk.vv (D : Dk) : Int := match D.l[D.at_]? with
  | some x => IntKind.u64.wrap x
  | none => 0
def Dk.ss (D : Dk) : Int := IntKind.u64.wrap (IntKind.u64.wrap (IntKind.u64.wrap (D.s * 6364136223846793005) + D.vv) + 1442695040888963407)
def Dk.next (D : Dk) : Dk := ⟨D.l, if D.at_ < D.l.length then D.at_ + 1 else D.at_, D.ss⟩
def Dk.val (D : Dk) (n : Int) : Int := if n < 1 then 0 else IntKind.i64.wrap ((D.ss / 2 ^ (33 : Int).toNat).tmod (IntKind.u64.wrap n))
def dk0 (l : List Int) : Dk := ⟨l, 0, 88172645463325252⟩
theorem sH (z : Int) : 0 ≤ IntKind.u64.wrap z ∧ IntKind.u64.wrap z < 18446744073709551616 := by
  rw [IntKind.wrap_u64]; omega
theorem DkOk.next {D : Dk} (h : DkOk D) : DkOk D.next := by
  have hu := sH (IntKind.u64.wrap (IntKind.u64.wrap (D.s * 6364136223846793005) + D.vv) + 1442695040888963407)
  refine ⟨?_, h.len, hu.1, hu.2⟩
  have := h.at_
  simp only [Dk.next]
  split <;> omega
theorem DkOk.new {l : List Int} (h : l.length ≤ 400) : DkOk (dk0 l) := ⟨Nat.zero_le _, h, by simp [dk0], by simp [dk0]⟩
theorem Dk.val_range (D : Dk) {n : Int} (h1 : n ≤ 9223372036854775807) : 0 ≤ D.val n ∧ (1 ≤ n → D.val n < n) ∧ (n < 1 → D.val n = 0) := by
  unfold Dk.val
  split
  · exact ⟨by omega, by omega, fun _ => rfl⟩
  · rename_i hn
    have hu := sH (IntKind.u64.wrap (IntKind.u64.wrap (D.s * 6364136223846793005) + D.vv) + 1442695040888963407)
    have hw : IntKind.u64.wrap n = n := jX (by omega)
    rw [hw]
    have e0 : 0 ≤ D.ss / 2 ^ (33 : Int).toNat := Int.ediv_nonneg hu.1 (by decide)
    rw [Int.tmod_eq_emod_of_nonneg e0]
    have e2 := Int.emod_nonneg (D.ss / 2 ^ (33 : Int).toNat) (show n ≠ 0 by omega)
    have e3 := Int.emod_lt_of_pos (D.ss / 2 ^ (33 : Int).toNat) (show 0 < n by omega)
    rw [yf (by omega)]
    exact ⟨e2, fun _ => e3, by omega⟩
variable {G : Nat → Option (List Value)}
theorem few_A (L : List AV) : zy Tryz.prog G 9 [.sl 1 L] [] (.v (.bool (decide ((L.length : Int) ≤ 400)))) [] := by
  refine zd tbOk (zf Tryz.func9 (by kernel_rfl) rfl) Tryz.func9 rfl _ Tryz.ntmps9 (Nat.le_of_ble_eq_true rfl) fun X hX => ?_
  subst hX
  repeat (first | ((with_reducible refine zJ ?_); refine zK rfl ?_) | ((with_reducible refine zF ?_); refine zE rfl ?_) | ((with_reducible refine zq ?_); refine yI tbOk rfl rfl ?_) | ((with_reducible refine zR ?_); refine zS rfl rfl rfl ?_)  | refine zL ?_ | refine zB rfl ?_ | with_reducible (first | refine zG ?_ | refine zH ?_ | refine zN ?_) | ((with_reducible refine zA ?_ ?_); kernel_rfl))
  refine ze (by first | exact .inr rfl | exact .inl rfl) rfl rfl ?_
  rfl
theorem new_A (l : List Int) : zy Tryz.prog G 10 [.sl 1 (l.map iv)] [] (.ptr (refB + 0) 0 0) [(dk0 l).cells] := by
  refine zd tbOk (zf Tryz.func10 (by kernel_rfl) rfl) Tryz.func10 rfl _ Tryz.ntmps10 (Nat.le_of_ble_eq_true rfl) fun X hX => ?_
  subst hX
  repeat (first | ((with_reducible refine zJ ?_); refine zK rfl ?_) | ((with_reducible refine zF ?_); refine zE rfl ?_) | ((with_reducible refine yl ?_); refine yj rfl rfl rfl ?_) | ((with_reducible refine yx ?_); refine yv tbOk rfl rfl rfl rfl rfl ?_)  | refine zL ?_ | refine zB rfl ?_ | with_reducible (first | refine zG ?_ | refine zH ?_ | refine zN ?_) | ((with_reducible refine zA ?_ ?_); kernel_rfl))
  refine retNew (s := 5) (k := 1) (c' := (dk0 l).cells) (by first | exact .inr rfl | exact .inl rfl) ?_ (by decide) ?_ ?_
  · exact ⟨.tmp 2, trivial⟩
  · rfl
  · repeat' (first | exact trivial | exact Ren.v _ | exact Ren.sl _ _ | exact Ren.ep _ | exact Ren.ptr _ _ _ _ rfl | exact Ren.bs _ _ _ _ _ rfl | exact Ren.nil _ | exact Ren.own _ _ _ _ ⟨_, rfl⟩ | refine zv ?_ | refine zx ?_ | refine zw ?_ | refine ⟨?_, ?_⟩)
set_option maxHeartbeats 1000000 in
theorem yr (D : Dk) (n : Int) (hD : DkOk D) (h1 : -9223372036854775808 ≤ n) (h2 : n ≤ 9223372036854775807) :
    zy Tryz.prog G 21 [.ptr (refB + 0) 0 0, .v (.int .i64 n)] [D.cells] (.v (.int .i64 (D.val n))) [D.next.cells] := by
  have h400 := hD.len
  have hlen : (D.l.map iv).length = D.l.length := by simp
  by_cases hn : n < 1
  · have hv : D.val n = 0 := by unfold Dk.val; rw [if_pos hn]
    rw [hv]
    refine zd tbOk (zf Tryz.func21 (by kernel_rfl) rfl) Tryz.func21 rfl _ Tryz.ntmps21 (Nat.le_of_ble_eq_true rfl) fun X hX => ?_
    subst hX
    repeat (first | ((with_reducible refine zJ ?_); refine zK rfl ?_) | ((with_reducible refine zF ?_); refine zE rfl ?_) | ((with_reducible refine zM ?_); refine zI tbOk rfl rfl rfl rfl ?_) | ((with_reducible refine zQ ?_); refine zO tbOk rfl rfl rfl rfl rfl ?_) | ((with_reducible refine yT ?_); refine yG rfl ?_) | ((with_reducible refine zq ?_); refine yI tbOk rfl rfl ?_) | ((with_reducible refine zR ?_); refine zS rfl rfl rfl ?_)  | refine zL ?_ | refine yS (by kernel_rfl) ?_ | refine zB rfl ?_ | with_reducible (first | refine zG ?_ | refine zH ?_) | ((with_reducible refine zA ?_ ?_); kernel_rfl) | ((with_reducible refine yO mixd ?_ ?_); kernel_rfl))
    refine zX rfl (fun h => ?_) (fun h => ?_)
    · have hlt : D.at_ < D.l.length := by simp at h; omega
      obtain ⟨x, hx⟩ := zc hlt
      have hy : (D.l.map iv)[D.at_]? = some (iv x) := by rw [List.getElem?_map, hx]; rfl
      have hvv : D.vv = IntKind.u64.wrap x := by unfold Dk.vv; rw [hx]
      repeat' (first | ((with_reducible refine zJ ?_); refine zK rfl ?_) | ((with_reducible refine zF ?_); refine zE rfl ?_) | ((with_reducible refine zM ?_); refine zI tbOk rfl rfl rfl rfl ?_) | ((with_reducible refine zQ ?_); (first | refine zO tbOk rfl rfl rfl rfl rfl ?_ | refine zb tbOk rfl rfl rfl ?_)) | ((with_reducible refine yD ?_); refine yE tbOk rfl rfl rfl rfl rfl rfl rfl (Nat.le_of_ble_eq_true rfl) rfl ?_) | ((with_reducible refine zY ?_); refine zZ tbOk rfl rfl rfl rfl (by assumption) ?_) | ((with_reducible refine jq ?_); refine aF tbOk rfl rfl rfl ?_) | ((with_reducible refine yT ?_); refine yG rfl ?_) | ((with_reducible refine zR ?_); (first | refine zk rfl rfl (by omega) ?_ | refine zS rfl rfl rfl ?_ | refine sZ rfl rfl (by decide) ?_))  | refine zL ?_ | refine yS (by kernel_rfl) ?_ | refine zB rfl ?_ | with_reducible (first | refine zG ?_ | refine zP ?_ | refine zH ?_ | refine zT ?_ | refine zN ?_) | ((with_reducible refine zA ?_ ?_); kernel_rfl) | ((with_reducible refine yO mixd ?_ ?_); kernel_rfl) | refine zn rfl rfl (fun _ => ?_) (fun _ => ?_) | refine zX rfl (fun _ => ?_) (fun _ => ?_))
      all_goals first
        | (rename_i hc; exfalso; simp at hc; omega)
        | (refine yo (by first | exact .inr rfl | exact .inl rfl) rfl rfl rfl (by first | rfl | assumption) ?_ ?_ (by repeat' (first | exact trivial | exact Ren.v _ | exact Ren.sl _ _ | exact Ren.ep _ | exact Ren.ptr _ _ _ _ rfl | exact Ren.bs _ _ _ _ _ rfl | exact Ren.nil _ | exact Ren.own _ _ _ _ ⟨_, rfl⟩ | refine zv ?_ | refine zx ?_ | refine zw ?_ | refine ⟨?_, ?_⟩)) <;> simp [Dk.next, Dk.cells, Dk.ss, hvv, hlt, iv, putL, AV.cells])
    · have hge : ¬ D.at_ < D.l.length := by simp at h; omega
      have hx : D.l[D.at_]? = none := List.getElem?_eq_none (by omega)
      have hvv : D.vv = 0 := by unfold Dk.vv; rw [hx]
      repeat' (first | ((with_reducible refine zJ ?_); refine zK rfl ?_) | ((with_reducible refine zF ?_); refine zE rfl ?_) | ((with_reducible refine zM ?_); refine zI tbOk rfl rfl rfl rfl ?_) | ((with_reducible refine zQ ?_); refine zO tbOk rfl rfl rfl rfl rfl ?_) | ((with_reducible refine yD ?_); refine yE tbOk rfl rfl rfl rfl rfl rfl rfl (Nat.le_of_ble_eq_true rfl) rfl ?_) | ((with_reducible refine jq ?_); refine aF tbOk rfl rfl rfl ?_) | ((with_reducible refine yT ?_); refine yG rfl ?_) | ((with_reducible refine zR ?_); (first | refine zS rfl rfl rfl ?_ | refine sZ rfl rfl (by decide) ?_))  | refine zL ?_ | refine zB rfl ?_ | with_reducible (first | refine zG ?_ | refine zP ?_ | refine zH ?_ | refine zT ?_ | refine zN ?_) | ((with_reducible refine zA ?_ ?_); kernel_rfl) | refine zn rfl rfl (fun _ => ?_) (fun _ => ?_) | refine zX rfl (fun _ => ?_) (fun _ => ?_))
      all_goals first
        | (rename_i hc; exfalso; simp at hc; omega)
        | (refine yo (by first | exact .inr rfl | exact .inl rfl) rfl rfl rfl (by first | rfl | assumption) ?_ ?_ (by repeat' (first | exact trivial | exact Ren.v _ | exact Ren.sl _ _ | exact Ren.ep _ | exact Ren.ptr _ _ _ _ rfl | exact Ren.bs _ _ _ _ _ rfl | exact Ren.nil _ | exact Ren.own _ _ _ _ ⟨_, rfl⟩ | refine zv ?_ | refine zx ?_ | refine zw ?_ | refine ⟨?_, ?_⟩)) <;> simp [Dk.next, Dk.cells, Dk.ss, hvv, hge, iv, putL, AV.cells])
  · have hv : D.val n = IntKind.i64.wrap ((D.ss / 2 ^ (33 : Int).toNat).tmod n) := by unfold Dk.val; rw [if_neg hn, jX (by omega)]
    rw [hv]
    have hn0 : n ≠ 0 := by omega
    refine zd tbOk (zf Tryz.func21 (by kernel_rfl) rfl) Tryz.func21 rfl _ Tryz.ntmps21 (Nat.le_of_ble_eq_true rfl) fun X hX => ?_
    subst hX
    repeat (first | ((with_reducible refine zJ ?_); refine zK rfl ?_) | ((with_reducible refine zF ?_); refine zE rfl ?_) | ((with_reducible refine zM ?_); refine zI tbOk rfl rfl rfl rfl ?_) | ((with_reducible refine zQ ?_); refine zO tbOk rfl rfl rfl rfl rfl ?_) | ((with_reducible refine yT ?_); refine yG rfl ?_) | ((with_reducible refine zq ?_); refine yI tbOk rfl rfl ?_) | ((with_reducible refine zR ?_); refine zS rfl rfl rfl ?_)  | refine zL ?_ | refine yS (by kernel_rfl) ?_ | refine zB rfl ?_ | with_reducible (first | refine zG ?_ | refine zH ?_) | ((with_reducible refine zA ?_ ?_); kernel_rfl) | ((with_reducible refine yO mixd ?_ ?_); kernel_rfl))
    refine zX rfl (fun h => ?_) (fun h => ?_)
    · have hlt : D.at_ < D.l.length := by simp at h; omega
      obtain ⟨x, hx⟩ := zc hlt
      have hy : (D.l.map iv)[D.at_]? = some (iv x) := by rw [List.getElem?_map, hx]; rfl
      have hvv : D.vv = IntKind.u64.wrap x := by unfold Dk.vv; rw [hx]
      repeat' (first | ((with_reducible refine zJ ?_); refine zK rfl ?_) | ((with_reducible refine zF ?_); refine zE rfl ?_) | ((with_reducible refine zM ?_); refine zI tbOk rfl rfl rfl rfl ?_) | ((with_reducible refine zQ ?_); (first | refine zO tbOk rfl rfl rfl rfl rfl ?_ | refine zb tbOk rfl rfl rfl ?_)) | ((with_reducible refine yD ?_); refine yE tbOk rfl rfl rfl rfl rfl rfl rfl (Nat.le_of_ble_eq_true rfl) rfl ?_) | ((with_reducible refine zY ?_); refine zZ tbOk rfl rfl rfl rfl (by assumption) ?_) | ((with_reducible refine jq ?_); (first | refine qx tbOk rfl rfl rfl (by first | assumption | exact jX (by omega) | exact yf (by omega) | exact qS (by omega)) ?_ | refine aF tbOk rfl rfl rfl ?_)) | ((with_reducible refine yT ?_); refine yG rfl ?_) | ((with_reducible refine zR ?_); (first | refine zk rfl rfl (by omega) ?_ | refine zS rfl rfl rfl ?_ | refine sZ rfl rfl (by decide) ?_ | refine wZ rfl rfl (by first | decide | assumption | omega) ?_))  | refine zL ?_ | refine yS (by kernel_rfl) ?_ | refine zB rfl ?_ | with_reducible (first | refine zG ?_ | refine zP ?_ | refine zH ?_ | refine zT ?_ | refine zN ?_) | ((with_reducible refine zA ?_ ?_); kernel_rfl) | ((with_reducible refine yO mixd ?_ ?_); kernel_rfl) | refine zn rfl rfl (fun _ => ?_) (fun _ => ?_) | refine zX rfl (fun _ => ?_) (fun _ => ?_))
      all_goals first
        | (rename_i hc; exfalso; simp at hc; omega)
        | (refine yo (by first | exact .inr rfl | exact .inl rfl) rfl rfl rfl (by first | rfl | assumption) ?_ ?_ (by repeat' (first | exact trivial | exact Ren.v _ | exact Ren.sl _ _ | exact Ren.ep _ | exact Ren.ptr _ _ _ _ rfl | exact Ren.bs _ _ _ _ _ rfl | exact Ren.nil _ | exact Ren.own _ _ _ _ ⟨_, rfl⟩ | refine zv ?_ | refine zx ?_ | refine zw ?_ | refine ⟨?_, ?_⟩)) <;> simp [Dk.next, Dk.cells, Dk.ss, hvv, hlt, iv, putL, AV.cells])
    · have hge : ¬ D.at_ < D.l.length := by simp at h; omega
      have hx : D.l[D.at_]? = none := List.getElem?_eq_none (by omega)
      have hvv : D.vv = 0 := by unfold Dk.vv; rw [hx]
      repeat' (first | ((with_reducible refine zJ ?_); refine zK rfl ?_) | ((with_reducible refine zF ?_); refine zE rfl ?_) | ((with_reducible refine zM ?_); refine zI tbOk rfl rfl rfl rfl ?_) | ((with_reducible refine zQ ?_); refine zO tbOk rfl rfl rfl rfl rfl ?_) | ((with_reducible refine yD ?_); refine yE tbOk rfl rfl rfl rfl rfl rfl rfl (Nat.le_of_ble_eq_true rfl) rfl ?_) | ((with_reducible refine jq ?_); (first | refine qx tbOk rfl rfl rfl (by first | assumption | exact jX (by omega) | exact yf (by omega) | exact qS (by omega)) ?_ | refine aF tbOk rfl rfl rfl ?_)) | ((with_reducible refine yT ?_); refine yG rfl ?_) | ((with_reducible refine zR ?_); (first | refine zS rfl rfl rfl ?_ | refine sZ rfl rfl (by decide) ?_ | refine wZ rfl rfl (by first | decide | assumption | omega) ?_))  | refine zL ?_ | refine zB rfl ?_ | with_reducible (first | refine zG ?_ | refine zP ?_ | refine zH ?_ | refine zT ?_ | refine zN ?_) | ((with_reducible refine zA ?_ ?_); kernel_rfl) | refine zn rfl rfl (fun _ => ?_) (fun _ => ?_) | refine zX rfl (fun _ => ?_) (fun _ => ?_))
      all_goals first
        | (rename_i hc; exfalso; simp at hc; omega)
        | (refine yo (by first | exact .inr rfl | exact .inl rfl) rfl rfl rfl (by first | rfl | assumption) ?_ ?_ (by repeat' (first | exact trivial | exact Ren.v _ | exact Ren.sl _ _ | exact Ren.ep _ | exact Ren.ptr _ _ _ _ rfl | exact Ren.bs _ _ _ _ _ rfl | exact Ren.nil _ | exact Ren.own _ _ _ _ ⟨_, rfl⟩ | refine zv ?_ | refine zx ?_ | refine zw ?_ | refine ⟨?_, ?_⟩)) <;> simp [Dk.next, Dk.cells, Dk.ss, hvv, hge, iv, putL, AV.cells])
end Go.Proofs.YtjamibeffalhaaaGreatDoor
namespace Go.Proofs.YtjamibeffalhaaaGreatDoor
open Go Go.RowKit
def nmN (i : Nat) : ByteArray := (⟨#[78]⟩ : ByteArray) ++ strOfNums [48 + (i : Int)]
def tieX (D : Dk) (i : Nat) : Nd := ⟨nmN i, if D.val 2 = 0 then 1 + D.next.val 30 else 0, 1 + ((i / 3 : Nat) : Int)⟩
def jh (D : Dk) : Dk := if D.val 2 = 0 then D.next.next else D.next
def tieN : Nat → Nat → Dk → List Nd → Dk × List Nd
  | 0, _, D, L => (D, L)
  | m + 1, i, D, L => tieN m (i + 1) (jh D) (L ++ [tieX D i])
def nm2 (a b : UInt8) : ByteArray := ⟨#[a, b]⟩
/-- The devices that are always there: the kind of X2, and its company. -/
def tieV (k c : Int) : List Dv := [⟨nm2 83 48, 5, 0, -1, 1⟩, ⟨nm2 88 48, 2, 0, 1, 1⟩, ⟨nm2 88 49, 3, 1, 2, 1⟩, ⟨nm2 69 50, 4, 2, -1, 1⟩, ⟨nm2 88 50, k, 2, 3, c⟩, ⟨nm2 69 51, 4, 3, -1, 2⟩, ⟨nm2 88 51, 3, 3, 4, 2⟩, ⟨nm2 88 52, 2, 4, 5, 2⟩, ⟨nm2 83 53, 5, 5, -1, 2⟩]
def fI (z : Int) : Int := if z = 0 then 1 else 3
def tieE (D : Dk) : Dk := (tieN 6 0 D []).1
def qq (D : Dk) : List Nd := (tieN 6 0 D []).2
def eH (D : Dk) : List Dv := tieV (fI ((tieE D).val 2)) (1 + (tieE D).next.val 2)
def tieF (D : Dk) : Dk := (tieE D).next.next
def jj (D : Dk) : List Dv :=
  if (tieF D).val 4 = 0 then eH D ++ [⟨nm2 71 51, 6, 3, -1, 2⟩]
  else if (tieF D).val 4 = 1 then eH D ++ [⟨nm2 68 49, 3, 1, 4, 1 + (tieF D).next.val 2⟩] else eH D
def kF : List Int := [2, 2, 2, 1, 2, 1, 2, 2, 2]
def tO (D : Dk) : List Int :=
  if (tieF D).val 4 = 0 then kF ++ [1 + (tieF D).next.val 2]
  else if (tieF D).val 4 = 1 then kF ++ [1]
  else if (tieF D).val 4 = 2 then kF.set (1 + (tieF D).next.val 2).toNat 1 else kF
def tieD (D : Dk) : Dk := if (tieF D).val 4 = 0 ∨ (tieF D).val 4 = 1 ∨ (tieF D).val 4 = 2 then (tieF D).next.next else (tieF D).next
theorem xG {D : Dk} (h : DkOk D) : DkOk (jh D) := by
  unfold jh
  split
  · exact h.next.next
  · exact h.next
theorem sX : ∀ (m i : Nat) (D : Dk) (L : List Nd), DkOk D → DkOk (tieN m i D L).1 ∧ (tieN m i D L).2.length = L.length + m
  | 0, _, D, L, h => ⟨h, rfl⟩
  | m + 1, i, D, L, h => by
    obtain ⟨a, b⟩ := sX m (i + 1) (jh D) (L ++ [tieX D i]) (xG h)
    refine ⟨a, b.trans ?_⟩
    simp
    omega
theorem tieE_ok {D : Dk} (h : DkOk D) : DkOk (tieE D) := (sX 6 0 D [] h).1
theorem tU {D : Dk} (h : DkOk D) : DkOk (tieF D) := (tieE_ok h).next.next
theorem sI {D : Dk} (h : DkOk D) : DkOk (tieD D) := by
  unfold tieD
  split
  · exact (tU h).next.next
  · exact (tU h).next
def cuX (D : Dk) : Int := if D.val 2 = 0 then 1 + D.next.val 30 else 0
theorem dE (D : Dk) : 0 ≤ cuX D ∧ cuX D ≤ 30 := by
  unfold cuX
  have r := D.next.val_range (n := 30) (by omega)
  have := r.2.1 (by omega)
  split <;> omega
theorem iU (D : Dk) : ∃ c0 c1 c2 c3 c4 c5 : Int, (0 ≤ c0 ∧ c0 ≤ 30) ∧ (0 ≤ c1 ∧ c1 ≤ 30) ∧ (0 ≤ c2 ∧ c2 ≤ 30) ∧ (0 ≤ c3 ∧ c3 ≤ 30) ∧ (0 ≤ c4 ∧ c4 ≤ 30) ∧ (0 ≤ c5 ∧ c5 ≤ 30) ∧
    qq D = [⟨nm2 78 48, c0, 1⟩, ⟨nm2 78 49, c1, 1⟩, ⟨nm2 78 50, c2, 1⟩, ⟨nm2 78 51, c3, 2⟩, ⟨nm2 78 52, c4, 2⟩, ⟨nm2 78 53, c5, 2⟩] :=
  ⟨_, _, _, _, _, _, dE D, dE (jh D), dE (jh (jh D)), dE (jh (jh (jh D))), dE (jh (jh (jh (jh D)))), dE (jh (jh (jh (jh (jh D))))), rfl⟩
theorem dF {U : List ByteArray} {n : ByteArray} {cu co : Int} {l : List Nd} (h1 : jT n.data.toList = true) (h2 : jS U n = false) (h3 : 0 ≤ cu ∧ cu ≤ 30) (h4 : ju co = true) : ndGo U (⟨n, cu, co⟩ :: l) = ndGo (U ++ [n]) l := by
  rw [ndGo, if_neg (by rw [h1]; decide), if_neg (by rw [h2]; decide), if_neg (by rw [h4]; simp; omega)]
theorem qH {m : Int} {U : List ByteArray} {n : ByteArray} {k a b co : Int} {l : List Dv} (h1 : jT n.data.toList = true) (h2 : jS U n = false) (h3 : 1 ≤ k ∧ k ≤ 6) (h4 : (if a < 0 ∨ m ≤ a then false else if qp k = false then decide (b = -1) else decide (0 ≤ b) && decide (b < m) && decide (b ≠ a)) = true) (h5 : ju co = true) : dvGo m U (⟨n, k, a, b, co⟩ :: l) = dvGo m (U ++ [n]) l := by
  have h4' : qQ ⟨n, k, a, b, co⟩ m = true := h4
  rw [dvGo, if_neg (by rw [h1]; decide), if_neg (by rw [h2]; decide), if_neg (by simp only; omega), if_neg (by rw [h4']; decide), if_neg (by rw [h5]; decide)]
theorem xH {z : Int} (h0 : 0 ≤ z) (h1 : z ≤ 1) : ju (1 + z) = true := by
  obtain rfl | rfl : z = 0 ∨ z = 1 := by omega
  · rfl
  · rfl
theorem mL (D : Dk) : netE (qq D) (jj D) = 0 := by
  obtain ⟨c0, c1, c2, c3, c4, c5, h0, h1, h2, h3, h4, h5, e⟩ := iU D
  rw [e]
  have rk := (tieE D).val_range (n := 2) (by omega)
  have ak := rk.2.1 (by omega)
  have rc := (tieE D).next.val_range (n := 2) (by omega)
  have ac := rc.2.1 (by omega)
  have rd := (tieF D).next.val_range (n := 2) (by omega)
  have ad := rd.2.1 (by omega)
  have hc := xH rc.1 (by omega)
  have hd := xH rd.1 (by omega)
  have hk : fI ((tieE D).val 2) = 1 ∨ fI ((tieE D).val 2) = 3 := by unfold fI; split <;> simp
  unfold netE
  have hN : ∀ V : List Dv, ndGo [] [⟨nm2 78 48, c0, 1⟩, ⟨nm2 78 49, c1, 1⟩, ⟨nm2 78 50, c2, 1⟩, ⟨nm2 78 51, c3, 2⟩, ⟨nm2 78 52, c4, 2⟩, ⟨nm2 78 53, c5, 2⟩] = 0 := fun _ => by
    rw [dF (by decide +kernel) (by decide +kernel) h0 rfl, dF (by decide +kernel) (by decide +kernel) h1 rfl, dF (by decide +kernel) (by decide +kernel) h2 rfl, dF (by decide +kernel) (by decide +kernel) h3 rfl, dF (by decide +kernel) (by decide +kernel) h4 rfl, dF (by decide +kernel) (by decide +kernel) h5 rfl]
    rfl
  have hV : (jj D).length ≤ 10 := by
    unfold jj eH tieV
    split
    · simp
    split <;> simp
  rw [if_neg (by simp; omega), if_neg (by rw [hN []]; simp)]
  have hrest : ∀ l : List Dv, (∀ U, U = [nm2 78 48, nm2 78 49, nm2 78 50, nm2 78 51, nm2 78 52, nm2 78 53, nm2 83 48, nm2 88 48, nm2 88 49, nm2 69 50, nm2 88 50, nm2 69 51, nm2 88 51, nm2 88 52, nm2 83 53] → dvGo 6 U l = 0) →
      dvGo 6 [nm2 78 48, nm2 78 49, nm2 78 50, nm2 78 51, nm2 78 52, nm2 78 53] (eH D ++ l) = 0 := fun l hl => by
    unfold eH tieV
    simp only [List.cons_append, List.nil_append]
    rw [qH (by decide +kernel) (by decide +kernel) (by decide) (by decide +kernel) rfl, qH (by decide +kernel) (by decide +kernel) (by decide) (by decide +kernel) rfl, qH (by decide +kernel) (by decide +kernel) (by decide) (by decide +kernel) rfl, qH (by decide +kernel) (by decide +kernel) (by decide) (by decide +kernel) rfl]
    rw [qH (by decide +kernel) (by decide +kernel) (by rcases hk with hk | hk <;> rw [hk] <;> decide) (by rcases hk with hk | hk <;> rw [hk] <;> decide +kernel) hc]
    rw [qH (by decide +kernel) (by decide +kernel) (by decide) (by decide +kernel) rfl, qH (by decide +kernel) (by decide +kernel) (by decide) (by decide +kernel) rfl, qH (by decide +kernel) (by decide +kernel) (by decide) (by decide +kernel) rfl, qH (by decide +kernel) (by decide +kernel) (by decide) (by decide +kernel) rfl]
    exact hl _ rfl
  show dvGo 6 [nm2 78 48, nm2 78 49, nm2 78 50, nm2 78 51, nm2 78 52, nm2 78 53] (jj D) = 0
  unfold jj
  split
  · refine hrest _ fun U hU => ?_
    subst hU
    rw [qH (by decide +kernel) (by decide +kernel) (by decide) (by decide +kernel) rfl]
    rfl
  split
  · refine hrest _ fun U hU => ?_
    subst hU
    rw [qH (by decide +kernel) (by decide +kernel) (by decide) (by decide +kernel) hd]
    rfl
  · have := hrest [] fun U _ => rfl
    rwa [List.append_nil] at this
end Go.Proofs.YtjamibeffalhaaaGreatDoor
namespace Go.Proofs.YtjamibeffalhaaaGreatDoor
open Go Go.RowKit
theorem tie_len (D : Dk) : (jj D).length = 9 ∨ (jj D).length = 10 := by
  unfold jj
  split
  · right; rfl
  split
  · right; rfl
  · left; rfl
theorem tie_sz (D : Dk) : (∀ x ∈ qq D, x.n.size = 2) ∧ (∀ x ∈ jj D, x.n.size = 2) := by
  refine ⟨fun x hx => ?_, fun x hx => ?_⟩
  · obtain ⟨c0, c1, c2, c3, c4, c5, -, -, -, -, -, -, e⟩ := iU D
    rw [e] at hx
    simp only [List.mem_cons, List.not_mem_nil, or_false] at hx
    rcases hx with rfl | rfl | rfl | rfl | rfl | rfl <;> rfl
  · have hV : ∀ k c, ∀ x ∈ tieV k c, x.n.size = 2 := fun k c x hx => by
      unfold tieV at hx
      simp only [List.mem_cons, List.not_mem_nil, or_false] at hx
      rcases hx with rfl | rfl | rfl | rfl | rfl | rfl | rfl | rfl | rfl <;> rfl
    unfold jj eH at hx
    split at hx
    · rcases List.mem_append.1 hx with hx | hx
      · exact hV _ _ x hx
      · simp only [List.mem_cons, List.not_mem_nil, or_false] at hx
        subst hx; rfl
    split at hx
    · rcases List.mem_append.1 hx with hx | hx
      · exact hV _ _ x hx
      · simp only [List.mem_cons, List.not_mem_nil, or_false] at hx
        subst hx; rfl
    · exact hV _ _ x hx
theorem uG (D : Dk) : (∀ x ∈ qq D, x.n.size ≤ maxLen) ∧ (∀ x ∈ jj D, x.n.size ≤ maxLen) ∧ (qq D).length ≤ maxLen ∧ (jj D).length ≤ maxLen := by
  have hlt : (2 : Nat) ≤ maxLen := by decide
  have h64 : (64 : Nat) ≤ maxLen := by decide
  obtain ⟨hn1, hn2⟩ := netE_len (mL D)
  obtain ⟨s1, s2⟩ := tie_sz D
  exact ⟨fun x hx => by rw [s1 x hx]; exact hlt, fun x hx => by rw [s2 x hx]; exact hlt, by omega, by omega⟩
theorem nO (D : Dk) : 0 < (jj D).length ∧ (jj D).length ≤ 64 := by rcases tie_len D with h | h <;> omega
end Go.Proofs.YtjamibeffalhaaaGreatDoor
