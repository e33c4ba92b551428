/- Locks that one adds keep their order; earths that are free: by plain functions; nothing of the program stands here. -/
import Derived.Test.YtaoegbmgombhdaaDoorOtP
import Derived.Test.YtaoegbmgombhdaaDoorLkP
set_option linter.unusedVariables false
set_option linter.unusedSimpArgs false
namespace Go.Proofs.YtaoegbmgombhdaaDoor
open Go Go.RowKit
def Rk (a b : Lk) : Prop := befB a b = true ∧ (a.d = b.d → a.p = b.p) ∧ ¬ a.k = b.k
def LkOk (V : List Dv) (L : List Lk) : Prop := (∀ x ∈ L, faultE V x = 0) ∧ L.Pairwise Rk
theorem bef_iff (a b : Lk) : befB a b = true ↔ a.d < b.d ∨ a.d = b.d ∧ a.k < b.k := by unfold befB; simp
theorem lkGo_ok {V : List Dv} : ∀ (L P : List Lk), (∀ x ∈ L, faultE V x = 0) → (P ++ L).Pairwise Rk → lkGo V P L = 0
  | [], _, _, _ => rfl
  | k :: L, P, hf, hp => by
    have hk : ∀ q ∈ P, Rk q k := fun q hq => (List.pairwise_append.1 hp).2.2 q hq k (by simp)
    have h1 : prevB P k = true := by
      unfold prevB
      split
      · rename_i q hq
        exact (hk q (List.mem_of_getLast? hq)).1
      · rfl
    have h2 : otherB P k = false := by
      unfold otherB
      rw [List.any_eq_false]
      intro x hx
      have := (hk x hx).2.1
      by_cases e : x.d = k.d
      · simp [e, this e]
      · simp [e]
    have h3 : keyB P k.k = false := by
      unfold keyB
      rw [List.any_eq_false]
      intro x hx
      simpa using (hk x hx).2.2
    unfold lkGo
    rw [lkE_0 (hf k (by simp)) h1 h2 h3, if_neg (by decide)]
    exact lkGo_ok L (P ++ [k]) (fun x hx => hf x (by simp [hx])) (by rw [List.append_assoc]; exact hp)
theorem LkOk.lksE {N : List Nd} {V : List Dv} {L : List Lk} (h : LkOk V L) (hn : netE N V = 0) (hl : L.length ≤ 128) : lksE N V L = 0 := by
  unfold Go.Proofs.YtaoegbmgombhdaaDoor.lksE
  rw [if_neg (by omega), if_neg (by omega)]
  exact lkGo_ok L [] h.1 h.2
def insK (k : Lk) : List Lk → List Lk
  | [] => [k]
  | x :: l => if befB x k = true then x :: insK k l else k :: x :: l
def lowK (k : Lk) : List Lk → Nat
  | [] => 0
  | x :: l => if befB x k = true then lowK k l + 1 else 0
theorem lowK_le (k : Lk) : ∀ L : List Lk, lowK k L ≤ L.length
  | [] => Nat.le_refl _
  | x :: l => by unfold lowK; split <;> simp [lowK_le k l]
theorem insK_low (k : Lk) : ∀ L : List Lk, L.take (lowK k L) ++ k :: L.drop (lowK k L) = insK k L
  | [] => rfl
  | x :: l => by
    unfold lowK insK
    split
    · simp only [List.take_succ_cons, List.drop_succ_cons, List.cons_append, insK_low k l]
    · rfl
theorem insK_mem {k y : Lk} : ∀ {L : List Lk}, y ∈ insK k L → y = k ∨ y ∈ L
  | [], h => by simp [insK] at h; exact .inl h
  | x :: l, h => by
    unfold insK at h
    split at h
    · rcases List.mem_cons.1 h with h | h
      · exact .inr (by simp [h])
      · rcases insK_mem h with h | h
        · exact .inl h
        · exact .inr (by simp [h])
    · rcases List.mem_cons.1 h with h | h
      · exact .inl h
      · exact .inr h
theorem insK_len (k : Lk) : ∀ L : List Lk, (insK k L).length = L.length + 1
  | [] => rfl
  | x :: l => by unfold insK; split <;> simp [insK_len k l]
theorem insK_pw {k : Lk} : ∀ {L : List Lk}, L.Pairwise Rk → (∀ x ∈ L, (x.d = k.d → x.p = k.p) ∧ ¬ x.k = k.k) → (insK k L).Pairwise Rk
  | [], _, _ => by simp [insK]
  | x :: l, hp, hk => by
    obtain ⟨p1, p2⟩ := List.pairwise_cons.1 hp
    obtain ⟨x1, x2⟩ := hk x (by simp)
    unfold insK
    split
    · rename_i hb
      refine List.pairwise_cons.2 ⟨fun y hy => ?_, insK_pw p2 fun y hy => hk y (by simp [hy])⟩
      rcases insK_mem hy with rfl | hy
      · exact ⟨hb, x1, x2⟩
      · exact p1 y hy
    · rename_i hb
      rw [bef_iff] at hb
      have hkx : befB k x = true := by rw [bef_iff]; omega
      refine List.pairwise_cons.2 ⟨fun y hy => ?_, hp⟩
      obtain ⟨y1, y2⟩ := hk y hy
      refine ⟨?_, fun e => (y1 e.symm).symm, fun e => y2 e.symm⟩
      rcases List.mem_cons.1 hy with rfl | hy
      · exact hkx
      · have := (p1 y hy).1
        rw [bef_iff] at this hkx ⊢
        omega
theorem locked_all {L : List Lk} {k : Lk} (hp : L.Pairwise Rk) (h : (lockedP L k.d).2 = true → (lockedP L k.d).1 = k.p) : ∀ x ∈ L, x.d = k.d → x.p = k.p := by
  induction L with
  | nil => intro x hx; simp at hx
  | cons y L ih =>
    obtain ⟨p1, p2⟩ := List.pairwise_cons.1 hp
    intro x hx hd
    by_cases hy : y.d = k.d
    · have e : lockedP (y :: L) k.d = (y.p, true) := by unfold lockedP; rw [List.find?_cons_of_pos (by simpa using hy)]
      rw [e] at h
      have hyp : y.p = k.p := h rfl
      rcases List.mem_cons.1 hx with rfl | hx
      · exact hyp
      · rw [← hyp]; exact ((p1 x hx).2.1 (by omega)).symm
    · have e : lockedP (y :: L) k.d = lockedP L k.d := by unfold lockedP; rw [List.find?_cons_of_neg (by simpa using hy)]
      rw [e] at h
      rcases List.mem_cons.1 hx with rfl | hx
      · exact absurd hd hy
      · exact ih p2 h x hx hd
def addK (N : List Nd) (V : List Dv) (L : List Lk) (k : Lk) : List Lk × Int :=
  if lksE N V L ≠ 0 then ([], lksE N V L) else if faultE V k ≠ 0 then ([], faultE V k) else if keyB L k.k = true then ([], 4)
  else if (lockedP L k.d).2 = true ∧ (lockedP L k.d).1 ≠ k.p then ([], 18) else if 128 ≤ L.length then ([], 1)
  else (L.take (lowK k L) ++ k :: L.drop (lowK k L), 0)
theorem addK_ok {N : List Nd} {V : List Dv} {L : List Lk} {k : Lk} (hL : LkOk V L) (h : (addK N V L k).2 = 0) : LkOk V (addK N V L k).1 ∧ (addK N V L k).1.length = L.length + 1 := by
  unfold addK at h ⊢
  split at h
  · rename_i c; exact absurd h c
  rename_i c1
  split at h
  · rename_i c; exact absurd h c
  rename_i c2
  split at h
  · cases h
  rename_i c3
  split at h
  · cases h
  rename_i c4
  split at h
  · cases h
  rename_i c5
  rw [if_neg c1, if_neg c2, if_neg c3, if_neg c4, if_neg c5]
  simp only [insK_low]
  refine ⟨⟨fun x hx => ?_, insK_pw hL.2 fun x hx => ⟨locked_all hL.2 (fun a => Decidable.byContradiction fun b => c4 ⟨a, b⟩) x hx, fun e => c3 ?_⟩⟩, insK_len k L⟩
  · rcases insK_mem hx with rfl | hx
    · simpa using c2
    · exact hL.1 x hx
  · unfold keyB
    rw [List.any_eq_true]
    exact ⟨x, hx, by simpa using e⟩
theorem locked_no {L : List Lk} {d : Int} (h : ∀ x ∈ L, ¬ x.d = d) : lockedP L d = (0, false) := by
  unfold lockedP
  have : L.find? (fun x => decide (x.d = d)) = none := by
    rw [List.find?_eq_none]
    intro x hx
    simpa using h x hx
  rw [this]
theorem addK_new {N : List Nd} {V : List Dv} {L : List Lk} {k : Lk} (hL : LkOk V L) (hn : netE N V = 0) (hl : L.length < 128) (hf : faultE V k = 0) (hd : ∀ x ∈ L, ¬ x.d = k.d) : (addK N V L k).2 = 0 ∨ (addK N V L k).2 = 4 := by
  unfold addK
  rw [if_neg (by rw [hL.lksE hn (by omega)]; decide), if_neg (by rw [hf]; decide), locked_no hd]
  split
  · exact .inr rfl
  · rw [if_neg (by simp), if_neg (by omega)]; exact .inl rfl
/-- The devices that are taken. -/
def takenP (M : List Bool) (K : List Lk) : List Bool := K.foldl (fun M k => M.set k.d.toNat true) M
def spGo (T : List Bool) : Nat → List Dv → List Int
  | _, [] => []
  | i, x :: l => if x.k = 4 ∧ T[i]? = some false then (i : Int) :: spGo T (i + 1) l else spGo T (i + 1) l
def spareP (N : List Nd) (V : List Dv) (L : List Rw) (K : List Lk) : List Int × Int :=
  if chk L ≠ 0 then ([], chk L) else if lksE N V K ≠ 0 then ([], lksE N V K) else (spGo (takenP (markL L) K) 0 V, 0)
theorem takenP_len : ∀ (K : List Lk) (M : List Bool), (takenP M K).length = M.length
  | [], _ => rfl
  | k :: K, M => (takenP_len K (M.set k.d.toNat true)).trans (by simp)
theorem takenP_set : ∀ (K : List Lk) (M : List Bool) (i : Nat), takenP (M.set i true) K = (takenP M K).set i true
  | [], _, _ => rfl
  | k :: K, M, i => by
    show takenP ((M.set i true).set k.d.toNat true) K = (takenP (M.set k.d.toNat true) K).set i true
    rw [← takenP_set K (M.set k.d.toNat true) i]
    by_cases e : i = k.d.toNat
    · subst e; rfl
    · rw [List.set_comm _ _ e]
theorem takenP_stay : ∀ (K : List Lk) (M : List Bool) (i : Nat), M[i]? = some true → (takenP M K)[i]? = some true
  | [], _, _, h => h
  | k :: K, M, i, h => takenP_stay K _ i (by
      rw [List.getElem?_set]
      split
      · rw [if_pos]; have := lt_at h; omega
      · exact h)
theorem takenP_mem : ∀ (K : List Lk) (M : List Bool) (k : Lk), k ∈ K → k.d.toNat < M.length → (takenP M K)[k.d.toNat]? = some true
  | q :: K, M, k, hk, hl => by
    show (takenP (M.set q.d.toNat true) K)[k.d.toNat]? = some true
    rcases List.mem_cons.1 hk with rfl | hk
    · exact takenP_stay K _ _ (by rw [List.getElem?_set, if_pos rfl, if_pos hl])
    · exact takenP_mem K _ k hk (by simpa using hl)
theorem spGo_mem {T : List Bool} : ∀ {V : List Dv} {i : Nat} {z : Int}, z ∈ spGo T i V → ∃ j x, z = ((i + j : Nat) : Int) ∧ V[j]? = some x ∧ x.k = 4 ∧ T[i + j]? = some false
  | [], _, _, h => by simp [spGo] at h
  | x :: V, i, z, h => by
    unfold spGo at h
    have key : z ∈ spGo T (i + 1) V → ∃ j x', z = ((i + j : Nat) : Int) ∧ (x :: V)[j]? = some x' ∧ x'.k = 4 ∧ T[i + j]? = some false := fun h => by
      obtain ⟨j, y, e1, e2, e3, e4⟩ := spGo_mem h
      exact ⟨j + 1, y, by rw [e1]; congr 1; omega, e2, e3, by rw [← e4]; congr 1; omega⟩
    split at h
    · rename_i c
      rcases List.mem_cons.1 h with rfl | h
      · exact ⟨0, x, rfl, rfl, c.1, c.2⟩
      · exact key h
    · exact key h
theorem spGo_set {T : List Bool} {d : Nat} : ∀ (V : List Dv) (i : Nat), spGo (T.set d true) i V = (spGo T i V).filter (fun z => !decide (z = (d : Int)))
  | [], _ => rfl
  | x :: V, i => by
    unfold spGo
    rw [spGo_set V (i + 1)]
    by_cases e : d = i
    · subst e
      rw [if_neg (by rintro ⟨-, h⟩; rw [List.getElem?_set, if_pos rfl] at h; split at h <;> simp at h)]
      split
      · rw [List.filter_cons_of_neg (by simp)]
      · rfl
    · rw [List.getElem?_set, if_neg e]
      split
      · rw [List.filter_cons_of_pos (by simp; omega)]
      · rfl
theorem spGo_asc {T : List Bool} : ∀ (V : List Dv) (i : Nat), (spGo T i V).Pairwise (fun a b => a < b) ∧ ∀ z ∈ spGo T i V, (i : Int) ≤ z
  | [], _ => ⟨List.Pairwise.nil, fun z h => by simp [spGo] at h⟩
  | x :: V, i => by
    obtain ⟨a, b⟩ := spGo_asc (T := T) V (i + 1)
    unfold spGo
    split
    · refine ⟨List.pairwise_cons.2 ⟨fun z hz => by have := b z hz; omega, a⟩, fun z hz => ?_⟩
      rcases List.mem_cons.1 hz with rfl | hz
      · exact Int.le_refl _
      · have := b z hz; omega
    · exact ⟨a, fun z hz => by have := b z hz; omega⟩
theorem filter_out {d : Int} : ∀ {L : List Int}, L.Pairwise (fun a b => a < b) → d ∈ L → (L.filter (fun z => !decide (z = d))).length + 1 = L.length
  | x :: L, hp, hm => by
    obtain ⟨p1, p2⟩ := List.pairwise_cons.1 hp
    by_cases e : x = d
    · subst e
      rw [List.filter_cons_of_neg (by simp), List.length_cons]
      congr 1
      rw [List.filter_eq_self.2]
      intro y hy
      have := p1 y hy
      simp; omega
    · rw [List.filter_cons_of_pos (by simpa using e), List.length_cons, List.length_cons]
      have hm' : d ∈ L := by
        rcases List.mem_cons.1 hm with h | h
        · exact absurd h.symm e
        · exact h
      rw [filter_out p2 hm']
end Go.Proofs.YtaoegbmgombhdaaDoor
