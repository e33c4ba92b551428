/- Locks, by plain functions: which lists are valid, and lists to which one adds; nothing of the program stands here. -/
import Derived.Test.YtamihjgfncjdoaaDoorNetP
set_option linter.unusedVariables false
set_option linter.unusedSimpArgs false
namespace Go.Proofs.YtamihjgfncjdoaaDoor
open Go Go.RowKit
structure Lk where
  d : Int
  p : Int
  k : Int
  deriving DecidableEq
theorem netE_len {N : List Nd} {V : List Dv} (h : netE N V = 0) : N.length ≤ 32 ∧ V.length ≤ 64 := by
  unfold netE at h
  split at h
  · cases h
  · omega

def kindAt (V : List Dv) (d : Int) : Int := match V[d.toNat]? with
  | some x => x.k
  | none => 0
def faultE (V : List Dv) (k : Lk) : Int := if k.d < 0 ∨ (V.length : Int) ≤ k.d then 8 else if kindAt V k.d = 5 then 6 else if k.p ≠ 1 ∧ k.p ≠ 2 then 10 else if k.k < 0 ∨ 65536 < k.k then 5 else 0
def befB (a b : Lk) : Bool := decide (a.d < b.d) || (decide (a.d = b.d) && decide (a.k < b.k))
def prevB (P : List Lk) (k : Lk) : Bool := match P.getLast? with
  | some q => befB q k
  | none => true
def otherB (P : List Lk) (k : Lk) : Bool := P.any fun x => decide (x.d = k.d) && !decide (x.p = k.p)
def keyB (P : List Lk) (k : Int) : Bool := P.any fun x => decide (x.k = k)
def lkE (V : List Dv) (P : List Lk) (k : Lk) : Int := if faultE V k ≠ 0 then faultE V k else if prevB P k = false then 14 else if otherB P k = true then 18 else if keyB P k.k = true then 4 else 0
def lkGo (V : List Dv) : List Lk → List Lk → Int
  | _, [] => 0
  | P, k :: l => if lkE V P k ≠ 0 then lkE V P k else lkGo V (P ++ [k]) l
def lksE (N : List Nd) (V : List Dv) (L : List Lk) : Int := if netE N V ≠ 0 then netE N V else if 128 < L.length then 1 else lkGo V [] L
def lockedP (L : List Lk) (d : Int) : Int × Bool := match L.find? fun x => decide (x.d = d) with
  | some x => (x.p, true)
  | none => (0, false)
theorem take_last {L : List Lk} {i : Nat} (hi : 0 < i) {q : Lk} (h : L[i - 1]? = some q) : (L.take i).getLast? = some q := by
  have := lt_at h
  rw [List.getLast?_eq_getElem?, List.length_take, List.getElem?_take, show min i L.length - 1 = i - 1 by omega, if_pos (by omega), h]
theorem lkGo_at {V : List Dv} {L : List Lk} {i : Nat} {k : Lk} (h : L[i]? = some k) : lkGo V (L.take i) (L.drop i) = if lkE V (L.take i) k ≠ 0 then lkE V (L.take i) k else lkGo V (L.take (i + 1)) (L.drop (i + 1)) := by
  rw [drop_at h, take_at h]; rfl
theorem otherB_next {L : List Lk} {j : Nat} {x k : Lk} (h : L[j]? = some x) : otherB (L.take (j + 1)) k = (otherB (L.take j) k || (decide (x.d = k.d) && !decide (x.p = k.p))) := by
  rw [take_at h]; unfold otherB; rw [List.any_append]; simp
theorem keyB_next {L : List Lk} {j : Nat} {x : Lk} {k : Int} (h : L[j]? = some x) : keyB (L.take (j + 1)) k = (keyB (L.take j) k || decide (x.k = k)) := by
  rw [take_at h]; unfold keyB; rw [List.any_append]; simp
theorem otherB_mem {L : List Lk} {i j : Nat} {x k : Lk} (h : L[j]? = some x) (hj : j < i) (h1 : x.d = k.d) (h2 : ¬ x.p = k.p) : otherB (L.take i) k = true := by
  unfold otherB
  rw [List.any_eq_true]
  exact ⟨x, List.mem_of_getElem? (show (L.take i)[j]? = some x by rw [List.getElem?_take, if_pos hj]; exact h), by simp [h1, h2]⟩
theorem keyB_mem {L : List Lk} {i j : Nat} {x : Lk} {k : Int} (h : L[j]? = some x) (hj : j < i) (h1 : x.k = k) : keyB (L.take i) k = true := by
  unfold keyB
  rw [List.any_eq_true]
  exact ⟨x, List.mem_of_getElem? (show (L.take i)[j]? = some x by rw [List.getElem?_take, if_pos hj]; exact h), by simp [h1]⟩
theorem lkE_f {V : List Dv} {P : List Lk} {k : Lk} (h : faultE V k ≠ 0) : lkE V P k = faultE V k := by unfold lkE; rw [if_pos h]
theorem lkE_14 {V : List Dv} {P : List Lk} {k : Lk} (h : faultE V k = 0) (h1 : prevB P k = false) : lkE V P k = 14 := by unfold lkE; rw [if_neg (by omega), if_pos h1]
theorem lkE_18 {V : List Dv} {P : List Lk} {k : Lk} (h : faultE V k = 0) (h1 : prevB P k = true) (h2 : otherB P k = true) : lkE V P k = 18 := by unfold lkE; rw [if_neg (by omega), if_neg (by rw [h1]; decide), if_pos h2]
theorem lkE_4 {V : List Dv} {P : List Lk} {k : Lk} (h : faultE V k = 0) (h1 : prevB P k = true) (h2 : otherB P k = false) (h3 : keyB P k.k = true) : lkE V P k = 4 := by unfold lkE; rw [if_neg (by omega), if_neg (by rw [h1]; decide), if_neg (by rw [h2]; decide), if_pos h3]
theorem lkE_0 {V : List Dv} {P : List Lk} {k : Lk} (h : faultE V k = 0) (h1 : prevB P k = true) (h2 : otherB P k = false) (h3 : keyB P k.k = false) : lkE V P k = 0 := by unfold lkE; rw [if_neg (by omega), if_neg (by rw [h1]; decide), if_neg (by rw [h2]; decide), if_neg (by rw [h3]; decide)]
def Rk (a b : Lk) : Prop := befB a b = true ∧ (a.d = b.d → a.p = b.p) ∧ ¬ a.k = b.k
def LkOk (V : List Dv) (L : List Lk) : Prop := (∀ x ∈ L, faultE V x = 0) ∧ L.Pairwise Rk
theorem bef_iff (a b : Lk) : befB a b = true ↔ a.d < b.d ∨ a.d = b.d ∧ a.k < b.k := by unfold befB; simp
theorem lkGo_ok {V : List Dv} : ∀ (L P : List Lk), (∀ x ∈ L, faultE V x = 0) → (P ++ L).Pairwise Rk → lkGo V P L = 0
  | [], _, _, _ => rfl
  | k :: L, P, hf, hp => by
    have hk : ∀ q ∈ P, Rk q k := fun q hq => (List.pairwise_append.1 hp).2.2 q hq k (by simp)
    have h1 : prevB P k = true := by
      unfold prevB
      split
      · rename_i q hq
        exact (hk q (List.mem_of_getLast? hq)).1
      · rfl
    have h2 : otherB P k = false := by
      unfold otherB
      rw [List.any_eq_false]
      intro x hx
      have := (hk x hx).2.1
      by_cases e : x.d = k.d
      · simp [e, this e]
      · simp [e]
    have h3 : keyB P k.k = false := by
      unfold keyB
      rw [List.any_eq_false]
      intro x hx
      simpa using (hk x hx).2.2
    unfold lkGo
    rw [lkE_0 (hf k (by simp)) h1 h2 h3, if_neg (by decide)]
    exact lkGo_ok L (P ++ [k]) (fun x hx => hf x (by simp [hx])) (by rw [List.append_assoc]; exact hp)
theorem LkOk.lksE {N : List Nd} {V : List Dv} {L : List Lk} (h : LkOk V L) (hn : netE N V = 0) (hl : L.length ≤ 128) : lksE N V L = 0 := by
  unfold Go.Proofs.YtamihjgfncjdoaaDoor.lksE
  rw [if_neg (by omega), if_neg (by omega)]
  exact lkGo_ok L [] h.1 h.2
def insK (k : Lk) : List Lk → List Lk
  | [] => [k]
  | x :: l => if befB x k = true then x :: insK k l else k :: x :: l
def lowK (k : Lk) : List Lk → Nat
  | [] => 0
  | x :: l => if befB x k = true then lowK k l + 1 else 0
theorem lowK_le (k : Lk) : ∀ L : List Lk, lowK k L ≤ L.length
  | [] => Nat.le_refl _
  | x :: l => by unfold lowK; split <;> simp [lowK_le k l]
theorem insK_low (k : Lk) : ∀ L : List Lk, L.take (lowK k L) ++ k :: L.drop (lowK k L) = insK k L
  | [] => rfl
  | x :: l => by
    unfold lowK insK
    split
    · simp only [List.take_succ_cons, List.drop_succ_cons, List.cons_append, insK_low k l]
    · rfl
theorem insK_mem {k y : Lk} : ∀ {L : List Lk}, y ∈ insK k L → y = k ∨ y ∈ L
  | [], h => by simp [insK] at h; exact .inl h
  | x :: l, h => by
    unfold insK at h
    split at h
    · rcases List.mem_cons.1 h with h | h
      · exact .inr (by simp [h])
      · rcases insK_mem h with h | h
        · exact .inl h
        · exact .inr (by simp [h])
    · rcases List.mem_cons.1 h with h | h
      · exact .inl h
      · exact .inr h
theorem insK_len (k : Lk) : ∀ L : List Lk, (insK k L).length = L.length + 1
  | [] => rfl
  | x :: l => by unfold insK; split <;> simp [insK_len k l]
theorem insK_pw {k : Lk} : ∀ {L : List Lk}, L.Pairwise Rk → (∀ x ∈ L, (x.d = k.d → x.p = k.p) ∧ ¬ x.k = k.k) → (insK k L).Pairwise Rk
  | [], _, _ => by simp [insK]
  | x :: l, hp, hk => by
    obtain ⟨p1, p2⟩ := List.pairwise_cons.1 hp
    obtain ⟨x1, x2⟩ := hk x (by simp)
    unfold insK
    split
    · rename_i hb
      refine List.pairwise_cons.2 ⟨fun y hy => ?_, insK_pw p2 fun y hy => hk y (by simp [hy])⟩
      rcases insK_mem hy with rfl | hy
      · exact ⟨hb, x1, x2⟩
      · exact p1 y hy
    · rename_i hb
      rw [bef_iff] at hb
      have hkx : befB k x = true := by rw [bef_iff]; omega
      refine List.pairwise_cons.2 ⟨fun y hy => ?_, hp⟩
      obtain ⟨y1, y2⟩ := hk y hy
      refine ⟨?_, fun e => (y1 e.symm).symm, fun e => y2 e.symm⟩
      rcases List.mem_cons.1 hy with rfl | hy
      · exact hkx
      · have := (p1 y hy).1
        rw [bef_iff] at this hkx ⊢
        omega
theorem locked_all {L : List Lk} {k : Lk} (hp : L.Pairwise Rk) (h : (lockedP L k.d).2 = true → (lockedP L k.d).1 = k.p) : ∀ x ∈ L, x.d = k.d → x.p = k.p := by
  induction L with
  | nil => intro x hx; simp at hx
  | cons y L ih =>
    obtain ⟨p1, p2⟩ := List.pairwise_cons.1 hp
    intro x hx hd
    by_cases hy : y.d = k.d
    · have e : lockedP (y :: L) k.d = (y.p, true) := by unfold lockedP; rw [List.find?_cons_of_pos (by simpa using hy)]
      rw [e] at h
      have hyp : y.p = k.p := h rfl
      rcases List.mem_cons.1 hx with rfl | hx
      · exact hyp
      · rw [← hyp]; exact ((p1 x hx).2.1 (by omega)).symm
    · have e : lockedP (y :: L) k.d = lockedP L k.d := by unfold lockedP; rw [List.find?_cons_of_neg (by simpa using hy)]
      rw [e] at h
      rcases List.mem_cons.1 hx with rfl | hx
      · exact absurd hd hy
      · exact ih p2 h x hx hd
def addK (N : List Nd) (V : List Dv) (L : List Lk) (k : Lk) : List Lk × Int :=
  if lksE N V L ≠ 0 then ([], lksE N V L) else if faultE V k ≠ 0 then ([], faultE V k) else if keyB L k.k = true then ([], 4)
  else if (lockedP L k.d).2 = true ∧ (lockedP L k.d).1 ≠ k.p then ([], 18) else if 128 ≤ L.length then ([], 1)
  else (L.take (lowK k L) ++ k :: L.drop (lowK k L), 0)
theorem addK_ok {N : List Nd} {V : List Dv} {L : List Lk} {k : Lk} (hL : LkOk V L) (h : (addK N V L k).2 = 0) : LkOk V (addK N V L k).1 ∧ (addK N V L k).1.length = L.length + 1 := by
  unfold addK at h ⊢
  split at h
  · rename_i c; exact absurd h c
  rename_i c1
  split at h
  · rename_i c; exact absurd h c
  rename_i c2
  split at h
  · cases h
  rename_i c3
  split at h
  · cases h
  rename_i c4
  split at h
  · cases h
  rename_i c5
  rw [if_neg c1, if_neg c2, if_neg c3, if_neg c4, if_neg c5]
  simp only [insK_low]
  refine ⟨⟨fun x hx => ?_, insK_pw hL.2 fun x hx => ⟨locked_all hL.2 (fun a => Decidable.byContradiction fun b => c4 ⟨a, b⟩) x hx, fun e => c3 ?_⟩⟩, insK_len k L⟩
  · rcases insK_mem hx with rfl | hx
    · simpa using c2
    · exact hL.1 x hx
  · unfold keyB
    rw [List.any_eq_true]
    exact ⟨x, hx, by simpa using e⟩
end Go.Proofs.YtamihjgfncjdoaaDoor
