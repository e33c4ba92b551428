/- Locks, by plain functions: which lists are valid, and lists to which one adds; nothing of the program stands here / The deck of numbers of the package permitofficemake, by the abstract machine: what each draw gives, as a function of the deck; conditions: none. -/
import Derived.Test.YtnafokinifbfhaaGreatDoorNetP
import Derived.Test.YtnafokinifbfhaaGreatDoorAbsS
import Derived.Test.YtnafokinifbfhaaGreatDoorTab
set_option linter.unusedVariables false
set_option linter.unusedSimpArgs false
namespace Go.Proofs.YtnafokinifbfhaaGreatDoor
open Go Go.RowKit
structure Lk where
  d : Int
  p : Int
  k : Int
  deriving DecidableEq

def mI (V : List Dv) (d : Int) : Int := match V[d.toNat]? with
  | some x => x.k
  | none => 0
def yl (V : List Dv) (k : Lk) : Int := if k.d < 0 ∨ (V.length : Int) ≤ k.d then 8 else if mI V k.d = 5 then 6 else if k.p ≠ 1 ∧ k.p ≠ 2 then 10 else if k.k < 0 ∨ 65536 < k.k then 5 else 0
def befB (a b : Lk) : Bool := decide (a.d < b.d) || (decide (a.d = b.d) && decide (a.k < b.k))
def qa (P : List Lk) (k : Lk) : Bool := match P.getLast? with
  | some q => befB q k
  | none => true
def qP (P : List Lk) (k : Lk) : Bool := P.any fun x => decide (x.d = k.d) && !decide (x.p = k.p)
def keyB (P : List Lk) (k : Int) : Bool := P.any fun x => decide (x.k = k)
def lkE (V : List Dv) (P : List Lk) (k : Lk) : Int := if yl V k ≠ 0 then yl V k else if qa P k = false then 14 else if qP P k = true then 18 else if keyB P k.k = true then 4 else 0
def lkGo (V : List Dv) : List Lk → List Lk → Int
  | _, [] => 0
  | P, k :: l => if lkE V P k ≠ 0 then lkE V P k else lkGo V (P ++ [k]) l
def lksE (N : List Nd) (V : List Dv) (L : List Lk) : Int := if netE N V ≠ 0 then netE N V else if 128 < L.length then 1 else lkGo V [] L
def yZ (L : List Lk) (d : Int) : Int × Bool := match L.find? fun x => decide (x.d = d) with
  | some x => (x.p, true)
  | none => (0, false)
def gapB (k : Int) : Bool := decide (k = 1) || decide (k = 3) || decide (k = 6)
def holdsB (L : List Lk) (pos : Int) (earths : Bool) (i : Nat) (x : Dv) : Bool := (yZ L i).2 && decide ((yZ L i).1 = pos) && (if earths then decide (x.k = 4) else gapB x.k)
def aP (L : List Lk) (pos : Int) (earths : Bool) : Nat → List Dv → List Int
  | _, [] => []
  | i, x :: l => if holdsB L pos earths i x = true then (i : Int) :: aP L pos earths (i + 1) l else aP L pos earths (i + 1) l
def someP (V : List Dv) (L : List Lk) (pos : Int) (earths : Bool) : List Int := aP L pos earths 0 V
theorem dL {L : List Lk} {i : Nat} (hi : 0 < i) {q : Lk} (h : L[i - 1]? = some q) : (L.take i).getLast? = some q := by
  have := zo h
  rw [List.getLast?_eq_getElem?, List.length_take, List.getElem?_take, show min i L.length - 1 = i - 1 by omega, if_pos (by omega), h]
theorem uZ {V : List Dv} {L : List Lk} {i : Nat} {k : Lk} (h : L[i]? = some k) : lkGo V (L.take i) (L.drop i) = if lkE V (L.take i) k ≠ 0 then lkE V (L.take i) k else lkGo V (L.take (i + 1)) (L.drop (i + 1)) := by
  rw [yq h, qX h]; rfl
theorem iU {L : List Lk} {j : Nat} {x k : Lk} (h : L[j]? = some x) : qP (L.take (j + 1)) k = (qP (L.take j) k || (decide (x.d = k.d) && !decide (x.p = k.p))) := by
  rw [qX h]; unfold qP; rw [List.any_append]; simp
theorem nS {L : List Lk} {j : Nat} {x : Lk} {k : Int} (h : L[j]? = some x) : keyB (L.take (j + 1)) k = (keyB (L.take j) k || decide (x.k = k)) := by
  rw [qX h]; unfold keyB; rw [List.any_append]; simp
theorem tE {L : List Lk} {i j : Nat} {x k : Lk} (h : L[j]? = some x) (hj : j < i) (h1 : x.d = k.d) (h2 : ¬ x.p = k.p) : qP (L.take i) k = true := by
  unfold qP
  rw [List.any_eq_true]
  exact ⟨x, List.mem_of_getElem? (show (L.take i)[j]? = some x by rw [List.getElem?_take, if_pos hj]; exact h), by simp [h1, h2]⟩
theorem sY {L : List Lk} {i j : Nat} {x : Lk} {k : Int} (h : L[j]? = some x) (hj : j < i) (h1 : x.k = k) : keyB (L.take i) k = true := by
  unfold keyB
  rw [List.any_eq_true]
  exact ⟨x, List.mem_of_getElem? (show (L.take i)[j]? = some x by rw [List.getElem?_take, if_pos hj]; exact h), by simp [h1]⟩
theorem lkE_f {V : List Dv} {P : List Lk} {k : Lk} (h : yl V k ≠ 0) : lkE V P k = yl V k := by unfold lkE; rw [if_pos h]
theorem lkE_14 {V : List Dv} {P : List Lk} {k : Lk} (h : yl V k = 0) (h1 : qa P k = false) : lkE V P k = 14 := by unfold lkE; rw [if_neg (by omega), if_pos h1]
theorem lkE_18 {V : List Dv} {P : List Lk} {k : Lk} (h : yl V k = 0) (h1 : qa P k = true) (h2 : qP P k = true) : lkE V P k = 18 := by unfold lkE; rw [if_neg (by omega), if_neg (by rw [h1]; decide), if_pos h2]
theorem lkE_4 {V : List Dv} {P : List Lk} {k : Lk} (h : yl V k = 0) (h1 : qa P k = true) (h2 : qP P k = false) (h3 : keyB P k.k = true) : lkE V P k = 4 := by unfold lkE; rw [if_neg (by omega), if_neg (by rw [h1]; decide), if_neg (by rw [h2]; decide), if_pos h3]
theorem lkE_0 {V : List Dv} {P : List Lk} {k : Lk} (h : yl V k = 0) (h1 : qa P k = true) (h2 : qP P k = false) (h3 : keyB P k.k = false) : lkE V P k = 0 := by unfold lkE; rw [if_neg (by omega), if_neg (by rw [h1]; decide), if_neg (by rw [h2]; decide), if_neg (by rw [h3]; decide)]
def Rk (a b : Lk) : Prop := befB a b = true ∧ (a.d = b.d → a.p = b.p) ∧ ¬ a.k = b.k
def LkOk (V : List Dv) (L : List Lk) : Prop := (∀ x ∈ L, yl V x = 0) ∧ L.Pairwise Rk
theorem pB (a b : Lk) : befB a b = true ↔ a.d < b.d ∨ a.d = b.d ∧ a.k < b.k := by unfold befB; simp
theorem vX {V : List Dv} : ∀ (L P : List Lk), (∀ x ∈ L, yl V x = 0) → (P ++ L).Pairwise Rk → lkGo V P L = 0
  | [], _, _, _ => rfl
  | k :: L, P, hf, hp => by
    have hk : ∀ q ∈ P, Rk q k := fun q hq => (List.pairwise_append.1 hp).2.2 q hq k (by simp)
    have h1 : qa P k = true := by
      unfold qa
      split
      · rename_i q hq
        exact (hk q (List.mem_of_getLast? hq)).1
      · rfl
    have h2 : qP P k = false := by
      unfold qP
      rw [List.any_eq_false]
      intro x hx
      have := (hk x hx).2.1
      by_cases e : x.d = k.d
      · simp [e, this e]
      · simp [e]
    have h3 : keyB P k.k = false := by
      unfold keyB
      rw [List.any_eq_false]
      intro x hx
      simpa using (hk x hx).2.2
    unfold lkGo
    rw [lkE_0 (hf k (by simp)) h1 h2 h3, if_neg (by decide)]
    exact vX L (P ++ [k]) (fun x hx => hf x (by simp [hx])) (by rw [List.append_assoc]; exact hp)
theorem LkOk.lksE {N : List Nd} {V : List Dv} {L : List Lk} (h : LkOk V L) (hn : netE N V = 0) (hl : L.length ≤ 128) : lksE N V L = 0 := by
  unfold Go.Proofs.YtnafokinifbfhaaGreatDoor.lksE
  rw [if_neg (by omega), if_neg (by omega)]
  exact vX L [] h.1 h.2
def insK (k : Lk) : List Lk → List Lk
  | [] => [k]
  | x :: l => if befB x k = true then x :: insK k l else k :: x :: l
def lowK (k : Lk) : List Lk → Nat
  | [] => 0
  | x :: l => if befB x k = true then lowK k l + 1 else 0
theorem vP (k : Lk) : ∀ L : List Lk, lowK k L ≤ L.length
  | [] => Nat.le_refl _
  | x :: l => by unfold lowK; split <;> simp [vP k l]
theorem pU (k : Lk) : ∀ L : List Lk, L.take (lowK k L) ++ k :: L.drop (lowK k L) = insK k L
  | [] => rfl
  | x :: l => by
    unfold lowK insK
    split
    · simp only [List.take_succ_cons, List.drop_succ_cons, List.cons_append, pU k l]
    · rfl
theorem kZ {k y : Lk} : ∀ {L : List Lk}, y ∈ insK k L → y = k ∨ y ∈ L
  | [], h => by simp [insK] at h; exact .inl h
  | x :: l, h => by
    unfold insK at h
    split at h
    · rcases List.mem_cons.1 h with h | h
      · exact .inr (by simp [h])
      · rcases kZ h with h | h
        · exact .inl h
        · exact .inr (by simp [h])
    · rcases List.mem_cons.1 h with h | h
      · exact .inl h
      · exact .inr h
theorem pV (k : Lk) : ∀ L : List Lk, (insK k L).length = L.length + 1
  | [] => rfl
  | x :: l => by unfold insK; split <;> simp [pV k l]
theorem wE {k : Lk} : ∀ {L : List Lk}, L.Pairwise Rk → (∀ x ∈ L, (x.d = k.d → x.p = k.p) ∧ ¬ x.k = k.k) → (insK k L).Pairwise Rk
  | [], _, _ => by simp [insK]
  | x :: l, hp, hk => by
    obtain ⟨p1, p2⟩ := List.pairwise_cons.1 hp
    obtain ⟨x1, x2⟩ := hk x (by simp)
    unfold insK
    split
    · rename_i hb
      refine List.pairwise_cons.2 ⟨fun y hy => ?_, wE p2 fun y hy => hk y (by simp [hy])⟩
      rcases kZ hy with rfl | hy
      · exact ⟨hb, x1, x2⟩
      · exact p1 y hy
    · rename_i hb
      rw [pB] at hb
      have hkx : befB k x = true := by rw [pB]; omega
      refine List.pairwise_cons.2 ⟨fun y hy => ?_, hp⟩
      obtain ⟨y1, y2⟩ := hk y hy
      refine ⟨?_, fun e => (y1 e.symm).symm, fun e => y2 e.symm⟩
      rcases List.mem_cons.1 hy with rfl | hy
      · exact hkx
      · have := (p1 y hy).1
        rw [pB] at this hkx ⊢
        omega
theorem tM {L : List Lk} {k : Lk} (hp : L.Pairwise Rk) (h : (yZ L k.d).2 = true → (yZ L k.d).1 = k.p) : ∀ x ∈ L, x.d = k.d → x.p = k.p := by
  induction L with
  | nil => intro x hx; simp at hx
  | cons y L ih =>
    obtain ⟨p1, p2⟩ := List.pairwise_cons.1 hp
    intro x hx hd
    by_cases hy : y.d = k.d
    · have e : yZ (y :: L) k.d = (y.p, true) := by unfold yZ; rw [List.find?_cons_of_pos (by simpa using hy)]
      rw [e] at h
      have hyp : y.p = k.p := h rfl
      rcases List.mem_cons.1 hx with rfl | hx
      · exact hyp
      · rw [← hyp]; exact ((p1 x hx).2.1 (by omega)).symm
    · have e : yZ (y :: L) k.d = yZ L k.d := by unfold yZ; rw [List.find?_cons_of_neg (by simpa using hy)]
      rw [e] at h
      rcases List.mem_cons.1 hx with rfl | hx
      · exact absurd hd hy
      · exact ih p2 h x hx hd
def addK (N : List Nd) (V : List Dv) (L : List Lk) (k : Lk) : List Lk × Int :=
  if lksE N V L ≠ 0 then ([], lksE N V L) else if yl V k ≠ 0 then ([], yl V k) else if keyB L k.k = true then ([], 4)
  else if (yZ L k.d).2 = true ∧ (yZ L k.d).1 ≠ k.p then ([], 18) else if 128 ≤ L.length then ([], 1)
  else (L.take (lowK k L) ++ k :: L.drop (lowK k L), 0)
theorem addK_ok {N : List Nd} {V : List Dv} {L : List Lk} {k : Lk} (hL : LkOk V L) (h : (addK N V L k).2 = 0) : LkOk V (addK N V L k).1 ∧ (addK N V L k).1.length = L.length + 1 := by
  unfold addK at h ⊢
  split at h
  · rename_i c; exact absurd h c
  rename_i c1
  split at h
  · rename_i c; exact absurd h c
  rename_i c2
  split at h
  · cases h
  rename_i c3
  split at h
  · cases h
  rename_i c4
  split at h
  · cases h
  rename_i c5
  rw [if_neg c1, if_neg c2, if_neg c3, if_neg c4, if_neg c5]
  simp only [pU]
  refine ⟨⟨fun x hx => ?_, wE hL.2 fun x hx => ⟨tM hL.2 (fun a => Decidable.byContradiction fun b => c4 ⟨a, b⟩) x hx, fun e => c3 ?_⟩⟩, pV k L⟩
  · rcases kZ hx with rfl | hx
    · simpa using c2
    · exact hL.1 x hx
  · unfold keyB
    rw [List.any_eq_true]
    exact ⟨x, hx, by simpa using e⟩
end Go.Proofs.YtnafokinifbfhaaGreatDoor
namespace Go.Proofs.YtnafokinifbfhaaGreatDoor
open Go Go.RowKit
set_option maxRecDepth 10000
structure Dk where
  l : List Int
  at_ : Nat
  s : Int
def iv (n : Int) : AV := .v (.int .i64 n)
def Dk.cells (D : Dk) : List AV := [.sl 1 (D.l.map iv), .v (.int .i64 D.at_), .v (.int .u64 D.s)]
structure DkOk (D : Dk) : Prop where
  at_ : D.at_ ≤ D.l.length
  len : D.l.length ≤ 400
  s0 : 0 ≤ D.s
  s1 : D.s < 18446744073709551616
def Dk.vv (D : Dk) : Int := match D.l[D.at_]? with
  | some x => IntKind.u64.wrap x
  | none => 0
def Dk.ss (D : Dk) : Int := IntKind.u64.wrap (IntKind.u64.wrap (IntKind.u64.wrap (D.s * 6364136223846793005) + D.vv) + 1442695040888963407)
def Dk.next (D : Dk) : Dk := ⟨D.l, if D.at_ < D.l.length then D.at_ + 1 else D.at_, D.ss⟩
def Dk.val (D : Dk) (n : Int) : Int := if n < 1 then 0 else IntKind.i64.wrap ((D.ss / 2 ^ (33 : Int).toNat).tmod (IntKind.u64.wrap n))
def dk0 (l : List Int) : Dk := ⟨l, 0, 88172645463325252⟩
theorem wI (z : Int) : 0 ≤ IntKind.u64.wrap z ∧ IntKind.u64.wrap z < 18446744073709551616 := by
  rw [IntKind.wrap_u64]; omega
theorem DkOk.next {D : Dk} (h : DkOk D) : DkOk D.next := by
  have hu := wI (IntKind.u64.wrap (IntKind.u64.wrap (D.s * 6364136223846793005) + D.vv) + 1442695040888963407)
  refine ⟨?_, h.len, hu.1, hu.2⟩
  have := h.at_
  simp only [Dk.next]
  split <;> omega
theorem DkOk.new {l : List Int} (h : l.length ≤ 400) : DkOk (dk0 l) := ⟨Nat.zero_le _, h, by simp [dk0], by simp [dk0]⟩
theorem Dk.val_range (D : Dk) {n : Int} (h1 : n ≤ 9223372036854775807) : 0 ≤ D.val n ∧ (1 ≤ n → D.val n < n) ∧ (n < 1 → D.val n = 0) := by
  unfold Dk.val
  split
  · exact ⟨by omega, by omega, fun _ => rfl⟩
  · rename_i hn
    have hu := wI (IntKind.u64.wrap (IntKind.u64.wrap (D.s * 6364136223846793005) + D.vv) + 1442695040888963407)
    have hw : IntKind.u64.wrap n = n := aJ (by omega)
    rw [hw]
    have e0 : 0 ≤ D.ss / 2 ^ (33 : Int).toNat := Int.ediv_nonneg hu.1 (by decide)
    rw [Int.tmod_eq_emod_of_nonneg e0]
    have e2 := Int.emod_nonneg (D.ss / 2 ^ (33 : Int).toNat) (show n ≠ 0 by omega)
    have e3 := Int.emod_lt_of_pos (D.ss / 2 ^ (33 : Int).toNat) (show 0 < n by omega)
    rw [jT (by omega)]
    exact ⟨e2, fun _ => e3, by omega⟩
variable {G : Nat → Option (List Value)}
theorem few_A (L : List AV) : zu Tryz.prog G 6 [.sl 1 L] [] (.v (.bool (decide ((L.length : Int) ≤ 400)))) [] := by
  refine zf tbOk (zM Tryz.func6 (by kernel_rfl) rfl) Tryz.func6 rfl _ Tryz.ntmps6 (Nat.le_of_ble_eq_true rfl) fun X hX => ?_
  subst hX
  repeat (first | ((with_reducible refine zI ?_); refine zH rfl ?_) | ((with_reducible refine zE ?_); refine zD rfl ?_) | ((with_reducible refine zp ?_); refine yU tbOk rfl rfl ?_) | ((with_reducible refine zP ?_); refine zS rfl rfl rfl ?_)  | refine zJ ?_ | refine zB rfl ?_ | with_reducible (first | refine zC ?_ | refine zF ?_ | refine zQ ?_) | ((with_reducible refine zA ?_ ?_); kernel_rfl))
  refine zj (by first | exact .inr rfl | exact .inl rfl) rfl rfl ?_
  rfl
theorem new_A (l : List Int) : zu Tryz.prog G 8 [.sl 1 (l.map iv)] [] (.ptr (refB + 0) 0 0) [(dk0 l).cells] := by
  refine zf tbOk (zM Tryz.func8 (by kernel_rfl) rfl) Tryz.func8 rfl _ Tryz.ntmps8 (Nat.le_of_ble_eq_true rfl) fun X hX => ?_
  subst hX
  repeat (first | ((with_reducible refine zI ?_); refine zH rfl ?_) | ((with_reducible refine zE ?_); refine zD rfl ?_) | ((with_reducible refine yw ?_); refine yv rfl rfl rfl ?_) | ((with_reducible refine kD ?_); refine kK tbOk rfl rfl rfl rfl rfl ?_)  | refine zJ ?_ | refine zB rfl ?_ | with_reducible (first | refine zC ?_ | refine zF ?_ | refine zQ ?_) | ((with_reducible refine zA ?_ ?_); kernel_rfl))
  refine retNew (s := 5) (k := 1) (c' := (dk0 l).cells) (by first | exact .inr rfl | exact .inl rfl) ?_ (by decide) ?_ ?_
  · exact ⟨.tmp 2, trivial⟩
  · rfl
  · repeat' (first | exact trivial | exact Ren.v _ | exact Ren.sl _ _ | exact Ren.ep _ | exact Ren.ptr _ _ _ _ rfl | exact Ren.bs _ _ _ _ _ rfl | exact Ren.nil _ | exact Ren.own _ _ _ _ ⟨_, rfl⟩ | refine zn ?_ | refine zz ?_ | refine yG ?_ | refine ⟨?_, ?_⟩)
set_option maxHeartbeats 1000000 in
theorem jK (D : Dk) (n : Int) (hD : DkOk D) (h1 : -9223372036854775808 ≤ n) (h2 : n ≤ 9223372036854775807) :
    zu Tryz.prog G 35 [.ptr (refB + 0) 0 0, .v (.int .i64 n)] [D.cells] (.v (.int .i64 (D.val n))) [D.next.cells] := by
  have h400 := hD.len
  have hlen : (D.l.map iv).length = D.l.length := by simp
  by_cases hn : n < 1
  · have hv : D.val n = 0 := by unfold Dk.val; rw [if_pos hn]
    rw [hv]
    refine zf tbOk (zM Tryz.func35 (by kernel_rfl) rfl) Tryz.func35 rfl _ Tryz.ntmps35 (Nat.le_of_ble_eq_true rfl) fun X hX => ?_
    subst hX
    repeat (first | ((with_reducible refine zI ?_); refine zH rfl ?_) | ((with_reducible refine zE ?_); refine zD rfl ?_) | ((with_reducible refine zK ?_); refine zG tbOk rfl rfl rfl rfl ?_) | ((with_reducible refine zO ?_); refine zL tbOk rfl rfl rfl rfl rfl ?_) | ((with_reducible refine qQ ?_); refine jM rfl ?_) | ((with_reducible refine zp ?_); refine yU tbOk rfl rfl ?_) | ((with_reducible refine zP ?_); refine zS rfl rfl rfl ?_)  | refine zJ ?_ | refine jD (by kernel_rfl) ?_ | refine zB rfl ?_ | with_reducible (first | refine zC ?_ | refine zF ?_) | ((with_reducible refine zA ?_ ?_); kernel_rfl) | ((with_reducible refine yz mixd ?_ ?_); kernel_rfl))
    refine zX rfl (fun h => ?_) (fun h => ?_)
    · have hlt : D.at_ < D.l.length := by simp at h; omega
      obtain ⟨x, hx⟩ := zT hlt
      have hy : (D.l.map iv)[D.at_]? = some (iv x) := by rw [List.getElem?_map, hx]; rfl
      have hvv : D.vv = IntKind.u64.wrap x := by unfold Dk.vv; rw [hx]
      repeat' (first | ((with_reducible refine zI ?_); refine zH rfl ?_) | ((with_reducible refine zE ?_); refine zD rfl ?_) | ((with_reducible refine zK ?_); refine zG tbOk rfl rfl rfl rfl ?_) | ((with_reducible refine zO ?_); (first | refine zL tbOk rfl rfl rfl rfl rfl ?_ | refine zm tbOk rfl rfl rfl ?_)) | ((with_reducible refine yN ?_); refine yT tbOk rfl rfl rfl rfl rfl rfl rfl (Nat.le_of_ble_eq_true rfl) rfl ?_) | ((with_reducible refine zW ?_); refine zb tbOk rfl rfl rfl rfl (by assumption) ?_) | ((with_reducible refine qk ?_); refine qS tbOk rfl rfl rfl ?_) | ((with_reducible refine qQ ?_); refine jM rfl ?_) | ((with_reducible refine zP ?_); (first | refine zY rfl rfl (by omega) ?_ | refine zS rfl rfl rfl ?_ | refine vZ rfl rfl (by decide) ?_))  | refine zJ ?_ | refine jD (by kernel_rfl) ?_ | refine zB rfl ?_ | with_reducible (first | refine zC ?_ | refine zR ?_ | refine zF ?_ | refine zN ?_ | refine zQ ?_) | ((with_reducible refine zA ?_ ?_); kernel_rfl) | ((with_reducible refine yz mixd ?_ ?_); kernel_rfl) | refine yD rfl rfl (fun _ => ?_) (fun _ => ?_) | refine zX rfl (fun _ => ?_) (fun _ => ?_))
      all_goals first
        | (rename_i hc; exfalso; simp at hc; omega)
        | (refine qq (by first | exact .inr rfl | exact .inl rfl) rfl rfl rfl (by first | rfl | assumption) ?_ ?_ (by repeat' (first | exact trivial | exact Ren.v _ | exact Ren.sl _ _ | exact Ren.ep _ | exact Ren.ptr _ _ _ _ rfl | exact Ren.bs _ _ _ _ _ rfl | exact Ren.nil _ | exact Ren.own _ _ _ _ ⟨_, rfl⟩ | refine zn ?_ | refine zz ?_ | refine yG ?_ | refine ⟨?_, ?_⟩)) <;> simp [Dk.next, Dk.cells, Dk.ss, hvv, hlt, iv, putL, AV.cells])
    · have hge : ¬ D.at_ < D.l.length := by simp at h; omega
      have hx : D.l[D.at_]? = none := List.getElem?_eq_none (by omega)
      have hvv : D.vv = 0 := by unfold Dk.vv; rw [hx]
      repeat' (first | ((with_reducible refine zI ?_); refine zH rfl ?_) | ((with_reducible refine zE ?_); refine zD rfl ?_) | ((with_reducible refine zK ?_); refine zG tbOk rfl rfl rfl rfl ?_) | ((with_reducible refine zO ?_); refine zL tbOk rfl rfl rfl rfl rfl ?_) | ((with_reducible refine yN ?_); refine yT tbOk rfl rfl rfl rfl rfl rfl rfl (Nat.le_of_ble_eq_true rfl) rfl ?_) | ((with_reducible refine qk ?_); refine qS tbOk rfl rfl rfl ?_) | ((with_reducible refine qQ ?_); refine jM rfl ?_) | ((with_reducible refine zP ?_); (first | refine zS rfl rfl rfl ?_ | refine vZ rfl rfl (by decide) ?_))  | refine zJ ?_ | refine zB rfl ?_ | with_reducible (first | refine zC ?_ | refine zR ?_ | refine zF ?_ | refine zN ?_ | refine zQ ?_) | ((with_reducible refine zA ?_ ?_); kernel_rfl) | refine yD rfl rfl (fun _ => ?_) (fun _ => ?_) | refine zX rfl (fun _ => ?_) (fun _ => ?_))
      all_goals first
        | (rename_i hc; exfalso; simp at hc; omega)
        | (refine qq (by first | exact .inr rfl | exact .inl rfl) rfl rfl rfl (by first | rfl | assumption) ?_ ?_ (by repeat' (first | exact trivial | exact Ren.v _ | exact Ren.sl _ _ | exact Ren.ep _ | exact Ren.ptr _ _ _ _ rfl | exact Ren.bs _ _ _ _ _ rfl | exact Ren.nil _ | exact Ren.own _ _ _ _ ⟨_, rfl⟩ | refine zn ?_ | refine zz ?_ | refine yG ?_ | refine ⟨?_, ?_⟩)) <;> simp [Dk.next, Dk.cells, Dk.ss, hvv, hge, iv, putL, AV.cells])
  · have hv : D.val n = IntKind.i64.wrap ((D.ss / 2 ^ (33 : Int).toNat).tmod n) := by unfold Dk.val; rw [if_neg hn, aJ (by omega)]
    rw [hv]
    have hn0 : n ≠ 0 := by omega
    refine zf tbOk (zM Tryz.func35 (by kernel_rfl) rfl) Tryz.func35 rfl _ Tryz.ntmps35 (Nat.le_of_ble_eq_true rfl) fun X hX => ?_
    subst hX
    repeat (first | ((with_reducible refine zI ?_); refine zH rfl ?_) | ((with_reducible refine zE ?_); refine zD rfl ?_) | ((with_reducible refine zK ?_); refine zG tbOk rfl rfl rfl rfl ?_) | ((with_reducible refine zO ?_); refine zL tbOk rfl rfl rfl rfl rfl ?_) | ((with_reducible refine qQ ?_); refine jM rfl ?_) | ((with_reducible refine zp ?_); refine yU tbOk rfl rfl ?_) | ((with_reducible refine zP ?_); refine zS rfl rfl rfl ?_)  | refine zJ ?_ | refine jD (by kernel_rfl) ?_ | refine zB rfl ?_ | with_reducible (first | refine zC ?_ | refine zF ?_) | ((with_reducible refine zA ?_ ?_); kernel_rfl) | ((with_reducible refine yz mixd ?_ ?_); kernel_rfl))
    refine zX rfl (fun h => ?_) (fun h => ?_)
    · have hlt : D.at_ < D.l.length := by simp at h; omega
      obtain ⟨x, hx⟩ := zT hlt
      have hy : (D.l.map iv)[D.at_]? = some (iv x) := by rw [List.getElem?_map, hx]; rfl
      have hvv : D.vv = IntKind.u64.wrap x := by unfold Dk.vv; rw [hx]
      repeat' (first | ((with_reducible refine zI ?_); refine zH rfl ?_) | ((with_reducible refine zE ?_); refine zD rfl ?_) | ((with_reducible refine zK ?_); refine zG tbOk rfl rfl rfl rfl ?_) | ((with_reducible refine zO ?_); (first | refine zL tbOk rfl rfl rfl rfl rfl ?_ | refine zm tbOk rfl rfl rfl ?_)) | ((with_reducible refine yN ?_); refine yT tbOk rfl rfl rfl rfl rfl rfl rfl (Nat.le_of_ble_eq_true rfl) rfl ?_) | ((with_reducible refine zW ?_); refine zb tbOk rfl rfl rfl rfl (by assumption) ?_) | ((with_reducible refine qk ?_); (first | refine oH tbOk rfl rfl rfl (by first | assumption | exact aJ (by omega) | exact jT (by omega) | exact lV (by omega)) ?_ | refine qS tbOk rfl rfl rfl ?_)) | ((with_reducible refine qQ ?_); refine jM rfl ?_) | ((with_reducible refine zP ?_); (first | refine zY rfl rfl (by omega) ?_ | refine zS rfl rfl rfl ?_ | refine vZ rfl rfl (by decide) ?_ | refine vF rfl rfl (by first | decide | assumption | omega) ?_))  | refine zJ ?_ | refine jD (by kernel_rfl) ?_ | refine zB rfl ?_ | with_reducible (first | refine zC ?_ | refine zR ?_ | refine zF ?_ | refine zN ?_ | refine zQ ?_) | ((with_reducible refine zA ?_ ?_); kernel_rfl) | ((with_reducible refine yz mixd ?_ ?_); kernel_rfl) | refine yD rfl rfl (fun _ => ?_) (fun _ => ?_) | refine zX rfl (fun _ => ?_) (fun _ => ?_))
      all_goals first
        | (rename_i hc; exfalso; simp at hc; omega)
        | (refine qq (by first | exact .inr rfl | exact .inl rfl) rfl rfl rfl (by first | rfl | assumption) ?_ ?_ (by repeat' (first | exact trivial | exact Ren.v _ | exact Ren.sl _ _ | exact Ren.ep _ | exact Ren.ptr _ _ _ _ rfl | exact Ren.bs _ _ _ _ _ rfl | exact Ren.nil _ | exact Ren.own _ _ _ _ ⟨_, rfl⟩ | refine zn ?_ | refine zz ?_ | refine yG ?_ | refine ⟨?_, ?_⟩)) <;> simp [Dk.next, Dk.cells, Dk.ss, hvv, hlt, iv, putL, AV.cells])
    · have hge : ¬ D.at_ < D.l.length := by simp at h; omega
      have hx : D.l[D.at_]? = none := List.getElem?_eq_none (by omega)
      have hvv : D.vv = 0 := by unfold Dk.vv; rw [hx]
      repeat' (first | ((with_reducible refine zI ?_); refine zH rfl ?_) | ((with_reducible refine zE ?_); refine zD rfl ?_) | ((with_reducible refine zK ?_); refine zG tbOk rfl rfl rfl rfl ?_) | ((with_reducible refine zO ?_); refine zL tbOk rfl rfl rfl rfl rfl ?_) | ((with_reducible refine yN ?_); refine yT tbOk rfl rfl rfl rfl rfl rfl rfl (Nat.le_of_ble_eq_true rfl) rfl ?_) | ((with_reducible refine qk ?_); (first | refine oH tbOk rfl rfl rfl (by first | assumption | exact aJ (by omega) | exact jT (by omega) | exact lV (by omega)) ?_ | refine qS tbOk rfl rfl rfl ?_)) | ((with_reducible refine qQ ?_); refine jM rfl ?_) | ((with_reducible refine zP ?_); (first | refine zS rfl rfl rfl ?_ | refine vZ rfl rfl (by decide) ?_ | refine vF rfl rfl (by first | decide | assumption | omega) ?_))  | refine zJ ?_ | refine zB rfl ?_ | with_reducible (first | refine zC ?_ | refine zR ?_ | refine zF ?_ | refine zN ?_ | refine zQ ?_) | ((with_reducible refine zA ?_ ?_); kernel_rfl) | refine yD rfl rfl (fun _ => ?_) (fun _ => ?_) | refine zX rfl (fun _ => ?_) (fun _ => ?_))
      all_goals first
        | (rename_i hc; exfalso; simp at hc; omega)
        | (refine qq (by first | exact .inr rfl | exact .inl rfl) rfl rfl rfl (by first | rfl | assumption) ?_ ?_ (by repeat' (first | exact trivial | exact Ren.v _ | exact Ren.sl _ _ | exact Ren.ep _ | exact Ren.ptr _ _ _ _ rfl | exact Ren.bs _ _ _ _ _ rfl | exact Ren.nil _ | exact Ren.own _ _ _ _ ⟨_, rfl⟩ | refine zn ?_ | refine zz ?_ | refine yG ?_ | refine ⟨?_, ?_⟩)) <;> simp [Dk.next, Dk.cells, Dk.ss, hvv, hge, iv, putL, AV.cells])
end Go.Proofs.YtnafokinifbfhaaGreatDoor
