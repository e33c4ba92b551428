/- The reference's Check of networks (permitofficeref03), by the abstract machine: it says what network.Check says; conditions: none / Locks, by plain functions: which lists are valid, and lists to which one adds; nothing of the program stands here / The deck of numbers of the package permitofficemake, by the abstract machine: what each draw gives, as a function of the deck; conditions: none. -/
import Derived.Test.YtnafokinifbfhaaGreatDoorNetA
import Derived.Test.YtnafokinifbfhaaGreatDoorNetP
import Derived.Test.YtnafokinifbfhaaGreatDoorAbsS
import Derived.Test.YtnafokinifbfhaaGreatDoorTab
set_option linter.unusedVariables false
set_option linter.unusedSimpArgs false
namespace Go.Proofs.YtnafokinifbfhaaGreatDoor
open Go Go.RowKit
set_option maxRecDepth 10000
variable {G : Nat → Option (List Value)}
end Go.Proofs.YtnafokinifbfhaaGreatDoor
namespace Go.Proofs.YtnafokinifbfhaaGreatDoor
open Go Go.RowKit
structure Lk where
  d : Int
  p : Int
  k : Int
  deriving DecidableEq
end Go.Proofs.YtnafokinifbfhaaGreatDoor
namespace Go.Proofs.YtnafokinifbfhaaGreatDoor
open Go Go.RowKit
set_option maxRecDepth 10000
structure Dk where
  l : List Int
  at_ : Nat
  s : Int
def iv (n : Int) : AV := .v (.int .i64 n)
def Dk.cells (D : Dk) : List AV := [.sl 1 (D.l.map iv), .v (.int .i64 D.at_), .v (.int .u64 D.s)]
structure DkOk (D : Dk) : Prop where
  at_ : D.at_ ≤ D.l.length
  len : D.l.length ≤ 400
  s0 : 0 ≤ D.s
  s1 : D.s < 18446744073709551616
def Dk.vv (D : Dk) : Int := match D.l[D.at_]? with
  | some x => IntKind.u64.wrap x
  | none => 0
def Dk.ss (D : Dk) : Int := IntKind.u64.wrap (IntKind.u64.wrap (IntKind.u64.wrap (D.s * 6364136223846793005) + D.vv) + 1442695040888963407)
def Dk.next (D : Dk) : Dk := ⟨D.l, if D.at_ < D.l.length then D.at_ + 1 else D.at_, D.ss⟩
def Dk.val (D : Dk) (n : Int) : Int := if n < 1 then 0 else IntKind.i64.wrap ((D.ss / 2 ^ (33 : Int).toNat).tmod (IntKind.u64.wrap n))
def dk0 (l : List Int) : Dk := ⟨l, 0, 88172645463325252⟩
theorem xJ (z : Int) : 0 ≤ IntKind.u64.wrap z ∧ IntKind.u64.wrap z < 18446744073709551616 := by
  rw [IntKind.wrap_u64]; omega
theorem DkOk.next {D : Dk} (h : DkOk D) : DkOk D.next := by
  have hu := xJ (IntKind.u64.wrap (IntKind.u64.wrap (D.s * 6364136223846793005) + D.vv) + 1442695040888963407)
  refine ⟨?_, h.len, hu.1, hu.2⟩
  have := h.at_
  simp only [Dk.next]
  split <;> omega
theorem DkOk.new {l : List Int} (h : l.length ≤ 400) : DkOk (dk0 l) := ⟨Nat.zero_le _, h, by simp [dk0], by simp [dk0]⟩
theorem Dk.val_range (D : Dk) {n : Int} (h1 : n ≤ 9223372036854775807) : 0 ≤ D.val n ∧ (1 ≤ n → D.val n < n) ∧ (n < 1 → D.val n = 0) := by
  unfold Dk.val
  split
  · exact ⟨by omega, by omega, fun _ => rfl⟩
  · rename_i hn
    have hu := xJ (IntKind.u64.wrap (IntKind.u64.wrap (D.s * 6364136223846793005) + D.vv) + 1442695040888963407)
    have hw : IntKind.u64.wrap n = n := zy (by omega)
    rw [hw]
    have e0 : 0 ≤ D.ss / 2 ^ (33 : Int).toNat := Int.ediv_nonneg hu.1 (by decide)
    rw [Int.tmod_eq_emod_of_nonneg e0]
    have e2 := Int.emod_nonneg (D.ss / 2 ^ (33 : Int).toNat) (show n ≠ 0 by omega)
    have e3 := Int.emod_lt_of_pos (D.ss / 2 ^ (33 : Int).toNat) (show 0 < n by omega)
    rw [zr (by omega)]
    exact ⟨e2, fun _ => e3, by omega⟩
variable {G : Nat → Option (List Value)}
theorem few_A (L : List AV) : zl Tryz.prog G 6 [.sl 1 L] [] (.v (.bool (decide ((L.length : Int) ≤ 400)))) [] := by
  refine zY tbOk (zM Tryz.func6 (by kernel_rfl) rfl) Tryz.func6 rfl _ Tryz.ntmps6 (Nat.le_of_ble_eq_true rfl) fun X hX => ?_
  subst hX
  repeat (first | ((with_reducible refine zI ?_); refine zJ rfl ?_) | ((with_reducible refine zE ?_); refine zF rfl ?_) | ((with_reducible refine yB ?_); refine yj tbOk rfl rfl ?_) | ((with_reducible refine zP ?_); refine zV rfl rfl rfl ?_)  | refine zK ?_ | refine zB rfl ?_ | with_reducible (first | refine zG ?_ | refine zH ?_ | refine zS ?_) | ((with_reducible refine zA ?_ ?_); kernel_rfl))
  refine yC (by first | exact .inr rfl | exact .inl rfl) rfl rfl ?_
  rfl
theorem new_A (l : List Int) : zl Tryz.prog G 8 [.sl 1 (l.map iv)] [] (.ptr (refB + 0) 0 0) [(dk0 l).cells] := by
  refine zY tbOk (zM Tryz.func8 (by kernel_rfl) rfl) Tryz.func8 rfl _ Tryz.ntmps8 (Nat.le_of_ble_eq_true rfl) fun X hX => ?_
  subst hX
  repeat (first | ((with_reducible refine zI ?_); refine zJ rfl ?_) | ((with_reducible refine zE ?_); refine zF rfl ?_) | ((with_reducible refine yz ?_); refine jA rfl rfl rfl ?_) | ((with_reducible refine jX ?_); refine jh tbOk rfl rfl rfl rfl rfl ?_)  | refine zK ?_ | refine zB rfl ?_ | with_reducible (first | refine zG ?_ | refine zH ?_ | refine zS ?_) | ((with_reducible refine zA ?_ ?_); kernel_rfl))
  refine retNew (s := 5) (k := 1) (c' := (dk0 l).cells) (by first | exact .inr rfl | exact .inl rfl) ?_ (by decide) ?_ ?_
  · exact ⟨.tmp 2, trivial⟩
  · rfl
  · repeat' (first | exact trivial | exact Ren.v _ | exact Ren.sl _ _ | exact Ren.ep _ | exact Ren.ptr _ _ _ _ rfl | exact Ren.bs _ _ _ _ _ rfl | exact Ren.nil _ | exact Ren.own _ _ _ _ ⟨_, rfl⟩ | refine zp ?_ | refine yR ?_ | refine yo ?_ | refine ⟨?_, ?_⟩)
set_option maxHeartbeats 1000000 in
theorem jS (D : Dk) (n : Int) (hD : DkOk D) (h1 : -9223372036854775808 ≤ n) (h2 : n ≤ 9223372036854775807) :
    zl Tryz.prog G 35 [.ptr (refB + 0) 0 0, .v (.int .i64 n)] [D.cells] (.v (.int .i64 (D.val n))) [D.next.cells] := by
  have h400 := hD.len
  have hlen : (D.l.map iv).length = D.l.length := by simp
  by_cases hn : n < 1
  · have hv : D.val n = 0 := by unfold Dk.val; rw [if_pos hn]
    rw [hv]
    refine zY tbOk (zM Tryz.func35 (by kernel_rfl) rfl) Tryz.func35 rfl _ Tryz.ntmps35 (Nat.le_of_ble_eq_true rfl) fun X hX => ?_
    subst hX
    repeat (first | ((with_reducible refine zI ?_); refine zJ rfl ?_) | ((with_reducible refine zE ?_); refine zF rfl ?_) | ((with_reducible refine zO ?_); refine zL tbOk rfl rfl rfl rfl ?_) | ((with_reducible refine zQ ?_); refine zN tbOk rfl rfl rfl rfl rfl ?_) | ((with_reducible refine qY ?_); refine jf rfl ?_) | ((with_reducible refine yB ?_); refine yj tbOk rfl rfl ?_) | ((with_reducible refine zP ?_); refine zV rfl rfl rfl ?_)  | refine zK ?_ | refine jR (by kernel_rfl) ?_ | refine zB rfl ?_ | with_reducible (first | refine zG ?_ | refine zH ?_) | ((with_reducible refine zA ?_ ?_); kernel_rfl) | ((with_reducible refine jQ mixd ?_ ?_); kernel_rfl))
    refine zh rfl (fun h => ?_) (fun h => ?_)
    · have hlt : D.at_ < D.l.length := by simp at h; omega
      obtain ⟨x, hx⟩ := zT hlt
      have hy : (D.l.map iv)[D.at_]? = some (iv x) := by rw [List.getElem?_map, hx]; rfl
      have hvv : D.vv = IntKind.u64.wrap x := by unfold Dk.vv; rw [hx]
      repeat' (first | ((with_reducible refine zI ?_); refine zJ rfl ?_) | ((with_reducible refine zE ?_); refine zF rfl ?_) | ((with_reducible refine zO ?_); refine zL tbOk rfl rfl rfl rfl ?_) | ((with_reducible refine zQ ?_); (first | refine zN tbOk rfl rfl rfl rfl rfl ?_ | refine zj tbOk rfl rfl rfl ?_)) | ((with_reducible refine zz ?_); refine yN tbOk rfl rfl rfl rfl rfl rfl rfl (Nat.le_of_ble_eq_true rfl) rfl ?_) | ((with_reducible refine zU ?_); refine zg tbOk rfl rfl rfl rfl (by assumption) ?_) | ((with_reducible refine yI ?_); refine qV tbOk rfl rfl rfl ?_) | ((with_reducible refine qY ?_); refine jf rfl ?_) | ((with_reducible refine zP ?_); (first | refine zX rfl rfl (by omega) ?_ | refine zV rfl rfl rfl ?_ | refine uG rfl rfl (by decide) ?_))  | refine zK ?_ | refine jR (by kernel_rfl) ?_ | refine zB rfl ?_ | with_reducible (first | refine zG ?_ | refine zf ?_ | refine zH ?_ | refine zR ?_ | refine zS ?_) | ((with_reducible refine zA ?_ ?_); kernel_rfl) | ((with_reducible refine jQ mixd ?_ ?_); kernel_rfl) | refine yv rfl rfl (fun _ => ?_) (fun _ => ?_) | refine zh rfl (fun _ => ?_) (fun _ => ?_))
      all_goals first
        | (rename_i hc; exfalso; simp at hc; omega)
        | (refine dV (by first | exact .inr rfl | exact .inl rfl) rfl rfl rfl (by first | rfl | assumption) ?_ ?_ (by repeat' (first | exact trivial | exact Ren.v _ | exact Ren.sl _ _ | exact Ren.ep _ | exact Ren.ptr _ _ _ _ rfl | exact Ren.bs _ _ _ _ _ rfl | exact Ren.nil _ | exact Ren.own _ _ _ _ ⟨_, rfl⟩ | refine zp ?_ | refine yR ?_ | refine yo ?_ | refine ⟨?_, ?_⟩)) <;> simp [Dk.next, Dk.cells, Dk.ss, hvv, hlt, iv, putL, AV.cells])
    · have hge : ¬ D.at_ < D.l.length := by simp at h; omega
      have hx : D.l[D.at_]? = none := List.getElem?_eq_none (by omega)
      have hvv : D.vv = 0 := by unfold Dk.vv; rw [hx]
      repeat' (first | ((with_reducible refine zI ?_); refine zJ rfl ?_) | ((with_reducible refine zE ?_); refine zF rfl ?_) | ((with_reducible refine zO ?_); refine zL tbOk rfl rfl rfl rfl ?_) | ((with_reducible refine zQ ?_); refine zN tbOk rfl rfl rfl rfl rfl ?_) | ((with_reducible refine zz ?_); refine yN tbOk rfl rfl rfl rfl rfl rfl rfl (Nat.le_of_ble_eq_true rfl) rfl ?_) | ((with_reducible refine yI ?_); refine qV tbOk rfl rfl rfl ?_) | ((with_reducible refine qY ?_); refine jf rfl ?_) | ((with_reducible refine zP ?_); (first | refine zV rfl rfl rfl ?_ | refine uG rfl rfl (by decide) ?_))  | refine zK ?_ | refine zB rfl ?_ | with_reducible (first | refine zG ?_ | refine zf ?_ | refine zH ?_ | refine zR ?_ | refine zS ?_) | ((with_reducible refine zA ?_ ?_); kernel_rfl) | refine yv rfl rfl (fun _ => ?_) (fun _ => ?_) | refine zh rfl (fun _ => ?_) (fun _ => ?_))
      all_goals first
        | (rename_i hc; exfalso; simp at hc; omega)
        | (refine dV (by first | exact .inr rfl | exact .inl rfl) rfl rfl rfl (by first | rfl | assumption) ?_ ?_ (by repeat' (first | exact trivial | exact Ren.v _ | exact Ren.sl _ _ | exact Ren.ep _ | exact Ren.ptr _ _ _ _ rfl | exact Ren.bs _ _ _ _ _ rfl | exact Ren.nil _ | exact Ren.own _ _ _ _ ⟨_, rfl⟩ | refine zp ?_ | refine yR ?_ | refine yo ?_ | refine ⟨?_, ?_⟩)) <;> simp [Dk.next, Dk.cells, Dk.ss, hvv, hge, iv, putL, AV.cells])
  · have hv : D.val n = IntKind.i64.wrap ((D.ss / 2 ^ (33 : Int).toNat).tmod n) := by unfold Dk.val; rw [if_neg hn, zy (by omega)]
    rw [hv]
    have hn0 : n ≠ 0 := by omega
    refine zY tbOk (zM Tryz.func35 (by kernel_rfl) rfl) Tryz.func35 rfl _ Tryz.ntmps35 (Nat.le_of_ble_eq_true rfl) fun X hX => ?_
    subst hX
    repeat (first | ((with_reducible refine zI ?_); refine zJ rfl ?_) | ((with_reducible refine zE ?_); refine zF rfl ?_) | ((with_reducible refine zO ?_); refine zL tbOk rfl rfl rfl rfl ?_) | ((with_reducible refine zQ ?_); refine zN tbOk rfl rfl rfl rfl rfl ?_) | ((with_reducible refine qY ?_); refine jf rfl ?_) | ((with_reducible refine yB ?_); refine yj tbOk rfl rfl ?_) | ((with_reducible refine zP ?_); refine zV rfl rfl rfl ?_)  | refine zK ?_ | refine jR (by kernel_rfl) ?_ | refine zB rfl ?_ | with_reducible (first | refine zG ?_ | refine zH ?_) | ((with_reducible refine zA ?_ ?_); kernel_rfl) | ((with_reducible refine jQ mixd ?_ ?_); kernel_rfl))
    refine zh rfl (fun h => ?_) (fun h => ?_)
    · have hlt : D.at_ < D.l.length := by simp at h; omega
      obtain ⟨x, hx⟩ := zT hlt
      have hy : (D.l.map iv)[D.at_]? = some (iv x) := by rw [List.getElem?_map, hx]; rfl
      have hvv : D.vv = IntKind.u64.wrap x := by unfold Dk.vv; rw [hx]
      repeat' (first | ((with_reducible refine zI ?_); refine zJ rfl ?_) | ((with_reducible refine zE ?_); refine zF rfl ?_) | ((with_reducible refine zO ?_); refine zL tbOk rfl rfl rfl rfl ?_) | ((with_reducible refine zQ ?_); (first | refine zN tbOk rfl rfl rfl rfl rfl ?_ | refine zj tbOk rfl rfl rfl ?_)) | ((with_reducible refine zz ?_); refine yN tbOk rfl rfl rfl rfl rfl rfl rfl (Nat.le_of_ble_eq_true rfl) rfl ?_) | ((with_reducible refine zU ?_); refine zg tbOk rfl rfl rfl rfl (by assumption) ?_) | ((with_reducible refine yI ?_); (first | refine yP tbOk rfl rfl rfl (by first | assumption | exact zy (by omega) | exact zr (by omega) | exact yH (by omega)) ?_ | refine qV tbOk rfl rfl rfl ?_)) | ((with_reducible refine qY ?_); refine jf rfl ?_) | ((with_reducible refine zP ?_); (first | refine zX rfl rfl (by omega) ?_ | refine zV rfl rfl rfl ?_ | refine uG rfl rfl (by decide) ?_ | refine xN rfl rfl (by first | decide | assumption | omega) ?_))  | refine zK ?_ | refine jR (by kernel_rfl) ?_ | refine zB rfl ?_ | with_reducible (first | refine zG ?_ | refine zf ?_ | refine zH ?_ | refine zR ?_ | refine zS ?_) | ((with_reducible refine zA ?_ ?_); kernel_rfl) | ((with_reducible refine jQ mixd ?_ ?_); kernel_rfl) | refine yv rfl rfl (fun _ => ?_) (fun _ => ?_) | refine zh rfl (fun _ => ?_) (fun _ => ?_))
      all_goals first
        | (rename_i hc; exfalso; simp at hc; omega)
        | (refine dV (by first | exact .inr rfl | exact .inl rfl) rfl rfl rfl (by first | rfl | assumption) ?_ ?_ (by repeat' (first | exact trivial | exact Ren.v _ | exact Ren.sl _ _ | exact Ren.ep _ | exact Ren.ptr _ _ _ _ rfl | exact Ren.bs _ _ _ _ _ rfl | exact Ren.nil _ | exact Ren.own _ _ _ _ ⟨_, rfl⟩ | refine zp ?_ | refine yR ?_ | refine yo ?_ | refine ⟨?_, ?_⟩)) <;> simp [Dk.next, Dk.cells, Dk.ss, hvv, hlt, iv, putL, AV.cells])
    · have hge : ¬ D.at_ < D.l.length := by simp at h; omega
      have hx : D.l[D.at_]? = none := List.getElem?_eq_none (by omega)
      have hvv : D.vv = 0 := by unfold Dk.vv; rw [hx]
      repeat' (first | ((with_reducible refine zI ?_); refine zJ rfl ?_) | ((with_reducible refine zE ?_); refine zF rfl ?_) | ((with_reducible refine zO ?_); refine zL tbOk rfl rfl rfl rfl ?_) | ((with_reducible refine zQ ?_); refine zN tbOk rfl rfl rfl rfl rfl ?_) | ((with_reducible refine zz ?_); refine yN tbOk rfl rfl rfl rfl rfl rfl rfl (Nat.le_of_ble_eq_true rfl) rfl ?_) | ((with_reducible refine yI ?_); (first | refine yP tbOk rfl rfl rfl (by first | assumption | exact zy (by omega) | exact zr (by omega) | exact yH (by omega)) ?_ | refine qV tbOk rfl rfl rfl ?_)) | ((with_reducible refine qY ?_); refine jf rfl ?_) | ((with_reducible refine zP ?_); (first | refine zV rfl rfl rfl ?_ | refine uG rfl rfl (by decide) ?_ | refine xN rfl rfl (by first | decide | assumption | omega) ?_))  | refine zK ?_ | refine zB rfl ?_ | with_reducible (first | refine zG ?_ | refine zf ?_ | refine zH ?_ | refine zR ?_ | refine zS ?_) | ((with_reducible refine zA ?_ ?_); kernel_rfl) | refine yv rfl rfl (fun _ => ?_) (fun _ => ?_) | refine zh rfl (fun _ => ?_) (fun _ => ?_))
      all_goals first
        | (rename_i hc; exfalso; simp at hc; omega)
        | (refine dV (by first | exact .inr rfl | exact .inl rfl) rfl rfl rfl (by first | rfl | assumption) ?_ ?_ (by repeat' (first | exact trivial | exact Ren.v _ | exact Ren.sl _ _ | exact Ren.ep _ | exact Ren.ptr _ _ _ _ rfl | exact Ren.bs _ _ _ _ _ rfl | exact Ren.nil _ | exact Ren.own _ _ _ _ ⟨_, rfl⟩ | refine zp ?_ | refine yR ?_ | refine yo ?_ | refine ⟨?_, ?_⟩)) <;> simp [Dk.next, Dk.cells, Dk.ss, hvv, hge, iv, putL, AV.cells])
end Go.Proofs.YtnafokinifbfhaaGreatDoor
