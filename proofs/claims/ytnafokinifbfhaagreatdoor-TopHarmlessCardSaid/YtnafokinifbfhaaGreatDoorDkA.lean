/- Locks, by plain functions: which lists are valid, and lists to which one adds; nothing of the program stands here / The deck of numbers of the package permitofficemake, by the abstract machine: what each draw gives, as a function of the deck; conditions: none. -/
import Derived.Test.YtnafokinifbfhaaGreatDoorNetP
import Derived.Test.YtnafokinifbfhaaGreatDoorAbsS
import Derived.Test.YtnafokinifbfhaaGreatDoorTab
import Derived.Test.YtnafokinifbfhaaGreatDoorZg
set_option linter.unusedVariables false
set_option linter.unusedSimpArgs false
namespace Go.Proofs.YtnafokinifbfhaaGreatDoor
open Go Go.RowKit
structure Lk where
  d : Int
  p : Int
  k : Int
  deriving DecidableEq

def xP (V : List Dv) (d : Int) : Int := match V[d.toNat]? with
  | some x => x.k
  | none => 0
def jP (V : List Dv) (k : Lk) : Int := if k.d < 0 ∨ (V.length : Int) ≤ k.d then 8 else if xP V k.d = 5 then 6 else if k.p ≠ 1 ∧ k.p ≠ 2 then 10 else if k.k < 0 ∨ 65536 < k.k then 5 else 0
def befB (a b : Lk) : Bool := decide (a.d < b.d) || (decide (a.d = b.d) && decide (a.k < b.k))
def dP (P : List Lk) (k : Lk) : Bool := match P.getLast? with
  | some q => befB q k
  | none => true
def qm (P : List Lk) (k : Lk) : Bool := P.any fun x => decide (x.d = k.d) && !decide (x.p = k.p)
def keyB (P : List Lk) (k : Int) : Bool := P.any fun x => decide (x.k = k)
def lkE (V : List Dv) (P : List Lk) (k : Lk) : Int := if jP V k ≠ 0 then jP V k else if dP P k = false then 14 else if qm P k = true then 18 else if keyB P k.k = true then 4 else 0
def lkGo (V : List Dv) : List Lk → List Lk → Int
  | _, [] => 0
  | P, k :: l => if lkE V P k ≠ 0 then lkE V P k else lkGo V (P ++ [k]) l
def lksE (N : List Nd) (V : List Dv) (L : List Lk) : Int := if netE N V ≠ 0 then netE N V else if 128 < L.length then 1 else lkGo V [] L
theorem rU {L : List Lk} {i : Nat} (hi : 0 < i) {q : Lk} (h : L[i - 1]? = some q) : (L.take i).getLast? = some q := by
  have := zM h
  rw [List.getLast?_eq_getElem?, List.length_take, List.getElem?_take, show min i L.length - 1 = i - 1 by omega, if_pos (by omega), h]
theorem lkGo_at {V : List Dv} {L : List Lk} {i : Nat} {k : Lk} (h : L[i]? = some k) : lkGo V (L.take i) (L.drop i) = if lkE V (L.take i) k ≠ 0 then lkE V (L.take i) k else lkGo V (L.take (i + 1)) (L.drop (i + 1)) := by
  rw [zv h, yr h]; rfl
theorem mF {L : List Lk} {j : Nat} {x k : Lk} (h : L[j]? = some x) : qm (L.take (j + 1)) k = (qm (L.take j) k || (decide (x.d = k.d) && !decide (x.p = k.p))) := by
  rw [yr h]; unfold qm; rw [List.any_append]; simp
theorem keyB_next {L : List Lk} {j : Nat} {x : Lk} {k : Int} (h : L[j]? = some x) : keyB (L.take (j + 1)) k = (keyB (L.take j) k || decide (x.k = k)) := by
  rw [yr h]; unfold keyB; rw [List.any_append]; simp
theorem otherB_mem {L : List Lk} {i j : Nat} {x k : Lk} (h : L[j]? = some x) (hj : j < i) (h1 : x.d = k.d) (h2 : ¬ x.p = k.p) : qm (L.take i) k = true := by
  unfold qm
  rw [List.any_eq_true]
  exact ⟨x, List.mem_of_getElem? (show (L.take i)[j]? = some x by rw [List.getElem?_take, if_pos hj]; exact h), by simp [h1, h2]⟩
theorem keyB_mem {L : List Lk} {i j : Nat} {x : Lk} {k : Int} (h : L[j]? = some x) (hj : j < i) (h1 : x.k = k) : keyB (L.take i) k = true := by
  unfold keyB
  rw [List.any_eq_true]
  exact ⟨x, List.mem_of_getElem? (show (L.take i)[j]? = some x by rw [List.getElem?_take, if_pos hj]; exact h), by simp [h1]⟩
theorem lkE_f {V : List Dv} {P : List Lk} {k : Lk} (h : jP V k ≠ 0) : lkE V P k = jP V k := by unfold lkE; rw [if_pos h]
theorem lkE_14 {V : List Dv} {P : List Lk} {k : Lk} (h : jP V k = 0) (h1 : dP P k = false) : lkE V P k = 14 := by unfold lkE; rw [if_neg (by omega), if_pos h1]
theorem lkE_18 {V : List Dv} {P : List Lk} {k : Lk} (h : jP V k = 0) (h1 : dP P k = true) (h2 : qm P k = true) : lkE V P k = 18 := by unfold lkE; rw [if_neg (by omega), if_neg (by rw [h1]; decide), if_pos h2]
theorem lkE_4 {V : List Dv} {P : List Lk} {k : Lk} (h : jP V k = 0) (h1 : dP P k = true) (h2 : qm P k = false) (h3 : keyB P k.k = true) : lkE V P k = 4 := by unfold lkE; rw [if_neg (by omega), if_neg (by rw [h1]; decide), if_neg (by rw [h2]; decide), if_pos h3]
theorem lkE_0 {V : List Dv} {P : List Lk} {k : Lk} (h : jP V k = 0) (h1 : dP P k = true) (h2 : qm P k = false) (h3 : keyB P k.k = false) : lkE V P k = 0 := by unfold lkE; rw [if_neg (by omega), if_neg (by rw [h1]; decide), if_neg (by rw [h2]; decide), if_neg (by rw [h3]; decide)]
def Rk (a b : Lk) : Prop := befB a b = true ∧ (a.d = b.d → a.p = b.p) ∧ ¬ a.k = b.k
def LkOk (V : List Dv) (L : List Lk) : Prop := (∀ x ∈ L, jP V x = 0) ∧ L.Pairwise Rk
theorem lkGo_ok {V : List Dv} : ∀ (L P : List Lk), (∀ x ∈ L, jP V x = 0) → (P ++ L).Pairwise Rk → lkGo V P L = 0
  | [], _, _, _ => rfl
  | k :: L, P, hf, hp => by
    have hk : ∀ q ∈ P, Rk q k := fun q hq => (List.pairwise_append.1 hp).2.2 q hq k (by simp)
    have h1 : dP P k = true := by
      unfold dP
      split
      · rename_i q hq
        exact (hk q (List.mem_of_getLast? hq)).1
      · rfl
    have h2 : qm P k = false := by
      unfold qm
      rw [List.any_eq_false]
      intro x hx
      have := (hk x hx).2.1
      by_cases e : x.d = k.d
      · simp [e, this e]
      · simp [e]
    have h3 : keyB P k.k = false := by
      unfold keyB
      rw [List.any_eq_false]
      intro x hx
      simpa using (hk x hx).2.2
    unfold lkGo
    rw [lkE_0 (hf k (by simp)) h1 h2 h3, if_neg (by decide)]
    exact lkGo_ok L (P ++ [k]) (fun x hx => hf x (by simp [hx])) (by rw [List.append_assoc]; exact hp)
theorem LkOk.lksE {N : List Nd} {V : List Dv} {L : List Lk} (h : LkOk V L) (hn : netE N V = 0) (hl : L.length ≤ 128) : lksE N V L = 0 := by
  unfold Go.Proofs.YtnafokinifbfhaaGreatDoor.lksE
  rw [if_neg (by omega), if_neg (by omega)]
  exact lkGo_ok L [] h.1 h.2
end Go.Proofs.YtnafokinifbfhaaGreatDoor
namespace Go.Proofs.YtnafokinifbfhaaGreatDoor
open Go Go.RowKit
set_option maxRecDepth 10000
structure Dk where
  l : List Int
  at_ : Nat
  s : Int
def iv (n : Int) : AV := .v (.int .i64 n)
def Dk.cells (D : Dk) : List AV := [.sl 1 (D.l.map iv), .v (.int .i64 D.at_), .v (.int .u64 D.s)]
structure DkOk (D : Dk) : Prop where
  at_ : D.at_ ≤ D.l.length
  len : D.l.length ≤ 400
  s0 : 0 ≤ D.s
  s1 : D.s < 18446744073709551616
def Dk.vv (D : Dk) : Int := match D.l[D.at_]? with
  | some x => IntKind.u64.wrap x
  | none => 0
def Dk.ss (D : Dk) : Int := IntKind.u64.wrap (IntKind.u64.wrap (IntKind.u64.wrap (D.s * 6364136223846793005) + D.vv) + 1442695040888963407)
def Dk.next (D : Dk) : Dk := ⟨D.l, if D.at_ < D.l.length then D.at_ + 1 else D.at_, D.ss⟩
def Dk.val (D : Dk) (n : Int) : Int := if n < 1 then 0 else IntKind.i64.wrap ((D.ss / 2 ^ (33 : Int).toNat).tmod (IntKind.u64.wrap n))
def dk0 (l : List Int) : Dk := ⟨l, 0, 88172645463325252⟩
theorem u64_rng (z : Int) : 0 ≤ IntKind.u64.wrap z ∧ IntKind.u64.wrap z < 18446744073709551616 := by
  rw [IntKind.wrap_u64]; omega
theorem DkOk.next {D : Dk} (h : DkOk D) : DkOk D.next := by
  have hu := u64_rng (IntKind.u64.wrap (IntKind.u64.wrap (D.s * 6364136223846793005) + D.vv) + 1442695040888963407)
  refine ⟨?_, h.len, hu.1, hu.2⟩
  have := h.at_
  simp only [Dk.next]
  split <;> omega
theorem DkOk.new {l : List Int} (h : l.length ≤ 400) : DkOk (dk0 l) := ⟨Nat.zero_le _, h, by simp [dk0], by simp [dk0]⟩
theorem Dk.val_range (D : Dk) {n : Int} (h1 : n ≤ 9223372036854775807) : 0 ≤ D.val n ∧ (1 ≤ n → D.val n < n) ∧ (n < 1 → D.val n = 0) := by
  unfold Dk.val
  split
  · exact ⟨by omega, by omega, fun _ => rfl⟩
  · rename_i hn
    have hu := u64_rng (IntKind.u64.wrap (IntKind.u64.wrap (D.s * 6364136223846793005) + D.vv) + 1442695040888963407)
    have hw : IntKind.u64.wrap n = n := jg (by omega)
    rw [hw]
    have e0 : 0 ≤ D.ss / 2 ^ (33 : Int).toNat := Int.ediv_nonneg hu.1 (by decide)
    rw [Int.tmod_eq_emod_of_nonneg e0]
    have e2 := Int.emod_nonneg (D.ss / 2 ^ (33 : Int).toNat) (show n ≠ 0 by omega)
    have e3 := Int.emod_lt_of_pos (D.ss / 2 ^ (33 : Int).toNat) (show 0 < n by omega)
    rw [yy (by omega)]
    exact ⟨e2, fun _ => e3, by omega⟩
variable {G : Nat → Option (List Value)}
theorem few_A (L : List AV) : zJ Tryz.prog G 6 [.sl 1 L] [] (.v (.bool (decide ((L.length : Int) ≤ 400)))) [] := by
  refine zE tbOk (zA Tryz.func6 (by kernel_rfl) rfl) Tryz.func6 rfl _ Tryz.ntmps6 (Nat.le_of_ble_eq_true rfl) fun X hX => ?_
  subst hX
  refine zg6 ?_
  refine zL (by first | exact .inr rfl | exact .inl rfl) rfl rfl ?_
  rfl
theorem new_A (l : List Int) : zJ Tryz.prog G 8 [.sl 1 (l.map iv)] [] (.ptr (refB + 0) 0 0) [(dk0 l).cells] := by
  refine zE tbOk (zA Tryz.func8 (by kernel_rfl) rfl) Tryz.func8 rfl _ Tryz.ntmps8 (Nat.le_of_ble_eq_true rfl) fun X hX => ?_
  subst hX
  refine zg12 ?_
  refine retNew (s := 5) (k := 1) (c' := (dk0 l).cells) (by first | exact .inr rfl | exact .inl rfl) ?_ (by decide) ?_ ?_
  · exact ⟨.tmp 2, trivial⟩
  · rfl
  · repeat' (first | exact trivial | exact Ren.v _ | exact Ren.sl _ _ | exact Ren.ep _ | exact Ren.ptr _ _ _ _ rfl | exact Ren.bs _ _ _ _ _ rfl | exact Ren.nil _ | exact Ren.own _ _ _ _ ⟨_, rfl⟩ | refine zO ?_ | refine zf ?_ | refine yJ ?_ | refine ⟨?_, ?_⟩)
set_option maxHeartbeats 1000000 in
theorem yv (D : Dk) (n : Int) (hD : DkOk D) (h1 : -9223372036854775808 ≤ n) (h2 : n ≤ 9223372036854775807) :
    zJ Tryz.prog G 35 [.ptr (refB + 0) 0 0, .v (.int .i64 n)] [D.cells] (.v (.int .i64 (D.val n))) [D.next.cells] := by
  have h400 := hD.len
  have hlen : (D.l.map iv).length = D.l.length := by simp
  by_cases hn : n < 1
  · have hv : D.val n = 0 := by unfold Dk.val; rw [if_pos hn]
    rw [hv]
    refine zE tbOk (zA Tryz.func35 (by kernel_rfl) rfl) Tryz.func35 rfl _ Tryz.ntmps35 (Nat.le_of_ble_eq_true rfl) fun X hX => ?_
    subst hX
    refine zg12 ?_
    refine zF rfl (fun h => ?_) (fun h => ?_)
    · have hlt : D.at_ < D.l.length := by simp at h; omega
      obtain ⟨x, hx⟩ := zB hlt
      have hy : (D.l.map iv)[D.at_]? = some (iv x) := by rw [List.getElem?_map, hx]; rfl
      have hvv : D.vv = IntKind.u64.wrap x := by unfold Dk.vv; rw [hx]
      repeat' (first | ((with_reducible refine yD ?_); refine yE rfl ?_) | ((with_reducible refine zi ?_); refine zh rfl ?_) | ((with_reducible refine zS ?_); refine zN tbOk rfl rfl rfl rfl ?_) | ((with_reducible refine ze ?_); (first | refine zY tbOk rfl rfl rfl rfl rfl ?_ | refine jV tbOk rfl rfl rfl ?_)) | ((with_reducible refine zt ?_); refine jn tbOk rfl rfl rfl rfl rfl rfl rfl (Nat.le_of_ble_eq_true rfl) rfl ?_) | ((with_reducible refine zH ?_); refine jU tbOk rfl rfl rfl rfl (by assumption) ?_) | ((with_reducible refine jj ?_); refine qX tbOk rfl rfl rfl ?_) | ((with_reducible refine aZ ?_); refine jd rfl ?_) | ((with_reducible refine yZ ?_); (first | refine jR rfl rfl (by omega) ?_ | refine yI rfl rfl rfl ?_ | refine wV rfl rfl (by decide) ?_))  | refine yh ?_ | refine dN (by kernel_rfl) ?_ | refine zu rfl ?_ | with_reducible (first | refine zw ?_ | refine yd ?_ | refine zp ?_ | refine yT ?_ | refine yF ?_) | ((with_reducible refine zl ?_ ?_); kernel_rfl) | ((with_reducible refine iI mixd ?_ ?_); kernel_rfl) | refine zX rfl rfl (fun _ => ?_) (fun _ => ?_) | refine zF rfl (fun _ => ?_) (fun _ => ?_))
      all_goals first
        | (rename_i hc; exfalso; simp at hc; omega)
        | (refine dC (by first | exact .inr rfl | exact .inl rfl) rfl rfl rfl (by first | rfl | assumption) ?_ ?_ (by repeat' (first | exact trivial | exact Ren.v _ | exact Ren.sl _ _ | exact Ren.ep _ | exact Ren.ptr _ _ _ _ rfl | exact Ren.bs _ _ _ _ _ rfl | exact Ren.nil _ | exact Ren.own _ _ _ _ ⟨_, rfl⟩ | refine zO ?_ | refine zf ?_ | refine yJ ?_ | refine ⟨?_, ?_⟩)) <;> simp [Dk.next, Dk.cells, Dk.ss, hvv, hlt, iv, putL, AV.cells])
    · have hge : ¬ D.at_ < D.l.length := by simp at h; omega
      have hx : D.l[D.at_]? = none := List.getElem?_eq_none (by omega)
      have hvv : D.vv = 0 := by unfold Dk.vv; rw [hx]
      repeat' (first | ((with_reducible refine yD ?_); refine yE rfl ?_) | ((with_reducible refine zi ?_); refine zh rfl ?_) | ((with_reducible refine zS ?_); refine zN tbOk rfl rfl rfl rfl ?_) | ((with_reducible refine ze ?_); refine zY tbOk rfl rfl rfl rfl rfl ?_) | ((with_reducible refine zt ?_); refine jn tbOk rfl rfl rfl rfl rfl rfl rfl (Nat.le_of_ble_eq_true rfl) rfl ?_) | ((with_reducible refine jj ?_); refine qX tbOk rfl rfl rfl ?_) | ((with_reducible refine aZ ?_); refine jd rfl ?_) | ((with_reducible refine yZ ?_); (first | refine yI rfl rfl rfl ?_ | refine wV rfl rfl (by decide) ?_))  | refine yh ?_ | refine zu rfl ?_ | with_reducible (first | refine zw ?_ | refine yd ?_ | refine zp ?_ | refine yT ?_ | refine yF ?_) | ((with_reducible refine zl ?_ ?_); kernel_rfl) | refine zX rfl rfl (fun _ => ?_) (fun _ => ?_) | refine zF rfl (fun _ => ?_) (fun _ => ?_))
      all_goals first
        | (rename_i hc; exfalso; simp at hc; omega)
        | (refine dC (by first | exact .inr rfl | exact .inl rfl) rfl rfl rfl (by first | rfl | assumption) ?_ ?_ (by repeat' (first | exact trivial | exact Ren.v _ | exact Ren.sl _ _ | exact Ren.ep _ | exact Ren.ptr _ _ _ _ rfl | exact Ren.bs _ _ _ _ _ rfl | exact Ren.nil _ | exact Ren.own _ _ _ _ ⟨_, rfl⟩ | refine zO ?_ | refine zf ?_ | refine yJ ?_ | refine ⟨?_, ?_⟩)) <;> simp [Dk.next, Dk.cells, Dk.ss, hvv, hge, iv, putL, AV.cells])
  · have hv : D.val n = IntKind.i64.wrap ((D.ss / 2 ^ (33 : Int).toNat).tmod n) := by unfold Dk.val; rw [if_neg hn, jg (by omega)]
    rw [hv]
    have hn0 : n ≠ 0 := by omega
    refine zE tbOk (zA Tryz.func35 (by kernel_rfl) rfl) Tryz.func35 rfl _ Tryz.ntmps35 (Nat.le_of_ble_eq_true rfl) fun X hX => ?_
    subst hX
    refine zg12 ?_
    refine zF rfl (fun h => ?_) (fun h => ?_)
    · have hlt : D.at_ < D.l.length := by simp at h; omega
      obtain ⟨x, hx⟩ := zB hlt
      have hy : (D.l.map iv)[D.at_]? = some (iv x) := by rw [List.getElem?_map, hx]; rfl
      have hvv : D.vv = IntKind.u64.wrap x := by unfold Dk.vv; rw [hx]
      repeat' (first | ((with_reducible refine yD ?_); refine yE rfl ?_) | ((with_reducible refine zi ?_); refine zh rfl ?_) | ((with_reducible refine zS ?_); refine zN tbOk rfl rfl rfl rfl ?_) | ((with_reducible refine ze ?_); (first | refine zY tbOk rfl rfl rfl rfl rfl ?_ | refine jV tbOk rfl rfl rfl ?_)) | ((with_reducible refine zt ?_); refine jn tbOk rfl rfl rfl rfl rfl rfl rfl (Nat.le_of_ble_eq_true rfl) rfl ?_) | ((with_reducible refine zH ?_); refine jU tbOk rfl rfl rfl rfl (by assumption) ?_) | ((with_reducible refine jj ?_); (first | refine cH tbOk rfl rfl rfl (by first | assumption | exact jg (by omega) | exact yy (by omega) | exact aP (by omega)) ?_ | refine qX tbOk rfl rfl rfl ?_)) | ((with_reducible refine aZ ?_); refine jd rfl ?_) | ((with_reducible refine yZ ?_); (first | refine jR rfl rfl (by omega) ?_ | refine yI rfl rfl rfl ?_ | refine wV rfl rfl (by decide) ?_ | refine x_rem rfl rfl (by first | decide | assumption | omega) ?_))  | refine yh ?_ | refine dN (by kernel_rfl) ?_ | refine zu rfl ?_ | with_reducible (first | refine zw ?_ | refine yd ?_ | refine zp ?_ | refine yT ?_ | refine yF ?_) | ((with_reducible refine zl ?_ ?_); kernel_rfl) | ((with_reducible refine iI mixd ?_ ?_); kernel_rfl) | refine zX rfl rfl (fun _ => ?_) (fun _ => ?_) | refine zF rfl (fun _ => ?_) (fun _ => ?_))
      all_goals first
        | (rename_i hc; exfalso; simp at hc; omega)
        | (refine dC (by first | exact .inr rfl | exact .inl rfl) rfl rfl rfl (by first | rfl | assumption) ?_ ?_ (by repeat' (first | exact trivial | exact Ren.v _ | exact Ren.sl _ _ | exact Ren.ep _ | exact Ren.ptr _ _ _ _ rfl | exact Ren.bs _ _ _ _ _ rfl | exact Ren.nil _ | exact Ren.own _ _ _ _ ⟨_, rfl⟩ | refine zO ?_ | refine zf ?_ | refine yJ ?_ | refine ⟨?_, ?_⟩)) <;> simp [Dk.next, Dk.cells, Dk.ss, hvv, hlt, iv, putL, AV.cells])
    · have hge : ¬ D.at_ < D.l.length := by simp at h; omega
      have hx : D.l[D.at_]? = none := List.getElem?_eq_none (by omega)
      have hvv : D.vv = 0 := by unfold Dk.vv; rw [hx]
      repeat' (first | ((with_reducible refine yD ?_); refine yE rfl ?_) | ((with_reducible refine zi ?_); refine zh rfl ?_) | ((with_reducible refine zS ?_); refine zN tbOk rfl rfl rfl rfl ?_) | ((with_reducible refine ze ?_); refine zY tbOk rfl rfl rfl rfl rfl ?_) | ((with_reducible refine zt ?_); refine jn tbOk rfl rfl rfl rfl rfl rfl rfl (Nat.le_of_ble_eq_true rfl) rfl ?_) | ((with_reducible refine jj ?_); (first | refine cH tbOk rfl rfl rfl (by first | assumption | exact jg (by omega) | exact yy (by omega) | exact aP (by omega)) ?_ | refine qX tbOk rfl rfl rfl ?_)) | ((with_reducible refine aZ ?_); refine jd rfl ?_) | ((with_reducible refine yZ ?_); (first | refine yI rfl rfl rfl ?_ | refine wV rfl rfl (by decide) ?_ | refine x_rem rfl rfl (by first | decide | assumption | omega) ?_))  | refine yh ?_ | refine zu rfl ?_ | with_reducible (first | refine zw ?_ | refine yd ?_ | refine zp ?_ | refine yT ?_ | refine yF ?_) | ((with_reducible refine zl ?_ ?_); kernel_rfl) | refine zX rfl rfl (fun _ => ?_) (fun _ => ?_) | refine zF rfl (fun _ => ?_) (fun _ => ?_))
      all_goals first
        | (rename_i hc; exfalso; simp at hc; omega)
        | (refine dC (by first | exact .inr rfl | exact .inl rfl) rfl rfl rfl (by first | rfl | assumption) ?_ ?_ (by repeat' (first | exact trivial | exact Ren.v _ | exact Ren.sl _ _ | exact Ren.ep _ | exact Ren.ptr _ _ _ _ rfl | exact Ren.bs _ _ _ _ _ rfl | exact Ren.nil _ | exact Ren.own _ _ _ _ ⟨_, rfl⟩ | refine zO ?_ | refine zf ?_ | refine yJ ?_ | refine ⟨?_, ?_⟩)) <;> simp [Dk.next, Dk.cells, Dk.ss, hvv, hge, iv, putL, AV.cells])
end Go.Proofs.YtnafokinifbfhaaGreatDoor
