/- What applying, removing, locking and looking for spare earths gives at a spare earth of the tie network, by plain functions; nothing of the program stands here. -/
import Derived.Test.YtaoegbmgombhdaaDoorSpP
set_option linter.unusedVariables false
set_option linter.unusedSimpArgs false
namespace Go.Proofs.YtaoegbmgombhdaaDoor
open Go Go.RowKit
def bkR : List Rw := [⟨151, persH bB1⟩, ⟨152, storeH⟩]
def bkA (z : Int) : List Rw := [⟨151, devH z⟩, ⟨152, storeH⟩]
theorem tieSs_len (D : Dk) : (tieSs D).length = (tieVs D).length := by
  have h0 : tieS0.length = 9 := by decide
  have h1 : (tieV0 D).length = 9 := by simp [tieV0, tieV]
  unfold tieSs tieVs
  split
  · rw [List.length_append, List.length_append, h0, h1, List.length_singleton, List.length_singleton]
  split
  · rw [List.length_append, List.length_append, h0, h1, List.length_singleton, List.length_singleton]
  split
  · rw [List.length_set, h0, h1]
  · rw [h0, h1]
theorem tieSs_val (D : Dk) : ∀ p ∈ tieSs D, p = 1 ∨ p = 2 := by
  have h0 : ∀ p ∈ tieS0, p = 1 ∨ p = 2 := by decide
  have r := (tieF D).next.val_range (n := 2) (by omega)
  have a := r.2.1 (by omega)
  unfold tieSs
  intro p hp
  split at hp
  · rcases List.mem_append.1 hp with hp | hp
    · exact h0 p hp
    · rw [List.mem_singleton] at hp; omega
  split at hp
  · rcases List.mem_append.1 hp with hp | hp
    · exact h0 p hp
    · rw [List.mem_singleton] at hp; omega
  split at hp
  · rcases List.mem_or_eq_of_mem_set hp with hp | hp
    · exact h0 p hp
    · omega
  · exact h0 p hp
theorem bk_chk : chk bkR = 0 := by decide +kernel
theorem bk_mark : markL bkR = mark0 := by decide +kernel
theorem bk_a {z : Int} (hz : z = 3 ∨ z = 5) : chk (bkA z) = 0 ∧ markL (bkA z) = mark0.set z.toNat true ∧ mark0[z.toNat]? = some false ∧ giveP bkR 151 (persH bB1) (devH z) = (bkA z, 0) ∧ giveP (bkA z) 151 (devH z) (persH bB1) = (bkR, 0) := by
  rcases hz with rfl | rfl <;> decide +kernel
theorem earth35 (D : Dk) {z : Int} (hz : z = 3 ∨ z = 5) : earthE (tieVs D) z = 0 ∧ faultE (tieVs D) ⟨z, 2, 151⟩ = 0 ∧ lockP (tieNs D) (tieVs D) 151 z = (⟨z, 2, 151⟩, 0) := by
  rcases hz with rfl | rfl
  · exact ⟨(tie_earth D (d := 3) (.inl rfl)).1, (tie_earth D (d := 3) (.inl rfl)).2.1, tie_lock D (d := 3) (.inl rfl)⟩
  · exact ⟨(tie_earth D (d := 5) (.inr rfl)).1, (tie_earth D (d := 5) (.inr rfl)).2.1, tie_lock D (d := 5) (.inr rfl)⟩
theorem bk_apply (D : Dk) {z : Int} (hz : z = 3 ∨ z = 5) : applyP (tieNs D) (tieVs D) bkR 151 bB1 z = (bkA z, 0) := by
  unfold applyP startP
  rw [tie_net, bk_chk, (earth35 D hz).1, bk_mark, (bk_a hz).2.2.1, (bk_a hz).2.2.2.1]
  simp
theorem bk_remove (D : Dk) {z : Int} (hz : z = 3 ∨ z = 5) : removeP (tieNs D) (tieVs D) (bkA z) 151 bB1 z = (bkR, 0) := by
  unfold removeP startP
  rw [tie_net, (bk_a hz).1, (earth35 D hz).1, (bk_a hz).2.2.2.2]
  simp
def spT (D : Dk) (K : List Lk) : List Int := spGo (takenP mark0 K) 0 (tieVs D)
theorem tie_vlen (D : Dk) : 0 < (tieVs D).length ∧ (tieVs D).length ≤ 64 := by rcases tie_len D with h | h <;> omega
theorem bk_lks (D : Dk) {K : List Lk} (hK : LkOk (tieVs D) K) (hl : K.length ≤ 4) : lksE (tieNs D) (tieVs D) K = 0 := hK.lksE (tie_net D) (by omega)
theorem bk_spare0 (D : Dk) {K : List Lk} (hK : LkOk (tieVs D) K) (hl : K.length ≤ 4) : spareP (tieNs D) (tieVs D) bkR K = (spT D K, 0) := by
  unfold spareP
  rw [bk_chk, bk_lks D hK hl, bk_mark]
  simp [spT]
theorem sp_in (D : Dk) {K : List Lk} {z : Int} (h : z ∈ spT D K) : (z = 3 ∨ z = 5) ∧ (takenP mark0 K)[z.toNat]? = some false := by
  obtain ⟨j, x, e1, e2, e3, e4⟩ := spGo_mem h
  rw [Nat.zero_add] at e1 e4
  subst e1
  refine ⟨?_, e4⟩
  apply Decidable.byContradiction
  intro hn
  obtain ⟨y, hy, hk⟩ := tie_kinds D j (lt_at e2) (by omega) (by omega)
  rw [e2] at hy
  cases hy
  exact hk e3
theorem spGo_len (T : List Bool) : ∀ (V : List Dv) (i : Nat), (spGo T i V).length ≤ V.length
  | [], _ => Nat.le_refl _
  | x :: V, i => by
    have := spGo_len T V (i + 1)
    unfold spGo
    split <;> simp <;> omega
theorem spT_len (D : Dk) (K : List Lk) : (spT D K).length ≤ (tieVs D).length := spGo_len _ _ _
def spL (D : Dk) (K : List Lk) (z : Int) : List Int := (spT D K).filter fun y => !decide (y = z)
theorem bk_spare (D : Dk) {K : List Lk} (hK : LkOk (tieVs D) K) (hl : K.length ≤ 4) {z : Int} (h : z ∈ spT D K) : spareP (tieNs D) (tieVs D) (bkA z) K = (spL D K z, 0) := by
  obtain ⟨hz, -⟩ := sp_in D h
  unfold spareP
  rw [(bk_a hz).1, bk_lks D hK hl, (bk_a hz).2.1, takenP_set, spGo_set]
  have e : ((z.toNat : Nat) : Int) = z := by omega
  rw [e]
  simp [spL, spT]
theorem spL_len (D : Dk) {K : List Lk} {z : Int} (h : z ∈ spT D K) : (spL D K z).length + 1 = (spT D K).length := filter_out (spGo_asc _ _).1 h
theorem spL_has (D : Dk) (K : List Lk) (z : Int) : ((spL D K z).any fun y => decide (y = z)) = false := by
  rw [List.any_eq_false]
  intro y hy
  have := (List.mem_filter.1 hy).2
  simpa using this
theorem bk_add (D : Dk) {K : List Lk} (hK : LkOk (tieVs D) K) (hl : K.length ≤ 4) {z : Int} (h : z ∈ spT D K) : (addK (tieNs D) (tieVs D) K ⟨z, 2, 151⟩).2 = 0 ∨ (addK (tieNs D) (tieVs D) K ⟨z, 2, 151⟩).2 = 4 := by
  obtain ⟨hz, hT⟩ := sp_in D h
  refine addK_new hK (tie_net D) (by omega) (earth35 D hz).2.1 fun x hx e => ?_
  have e' : x.d = z := e
  have := takenP_mem K mark0 x hx (by rw [e']; show z.toNat < 64; omega)
  rw [e', hT] at this
  cases this
theorem bk_names : ∀ r ∈ bkR, r.h.n.size ≤ maxLen := by
  intro r hr
  simp only [bkR, List.mem_cons, List.not_mem_nil, or_false] at hr
  rcases hr with rfl | rfl <;> decide
theorem bk_namesA (z : Int) : ∀ r ∈ bkA z, r.h.n.size ≤ maxLen := by
  intro r hr
  simp only [bkA, List.mem_cons, List.not_mem_nil, or_false] at hr
  rcases hr with rfl | rfl <;> exact Nat.zero_le _
end Go.Proofs.YtaoegbmgombhdaaDoor
