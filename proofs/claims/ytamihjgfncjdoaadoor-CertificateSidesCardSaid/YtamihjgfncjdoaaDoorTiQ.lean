/- The network of two companies that permitofficefield.Tie makes, by plain functions of a deck; it is valid; nothing of the program stands here / The tie's network: how many devices, and how long its names are; nothing of the program stands here. -/
import Derived.Test.YtamihjgfncjdoaaDoorNetP
import Derived.Test.YtamihjgfncjdoaaDoorDkA
import Derived.Test.YtamihjgfncjdoaaDoorLcP
set_option linter.unusedVariables false
set_option linter.unusedSimpArgs false
namespace Go.Proofs.YtamihjgfncjdoaaDoor
open Go Go.RowKit
def nmN (i : Nat) : ByteArray := (⟨#[78]⟩ : ByteArray) ++ strOfNums [48 + (i : Int)]
def tieX (D : Dk) (i : Nat) : Nd := ⟨nmN i, if D.val 2 = 0 then 1 + D.next.val 30 else 0, 1 + ((i / 3 : Nat) : Int)⟩
def tieXD (D : Dk) : Dk := if D.val 2 = 0 then D.next.next else D.next
def tieN : Nat → Nat → Dk → List Nd → Dk × List Nd
  | 0, _, D, L => (D, L)
  | m + 1, i, D, L => tieN m (i + 1) (tieXD D) (L ++ [tieX D i])
def nm2 (a b : UInt8) : ByteArray := ⟨#[a, b]⟩
/-- The devices that are always there: the kind of X2, and its company. -/
def tieV (k c : Int) : List Dv := [⟨nm2 83 48, 5, 0, -1, 1⟩, ⟨nm2 88 48, 2, 0, 1, 1⟩, ⟨nm2 88 49, 3, 1, 2, 1⟩, ⟨nm2 69 50, 4, 2, -1, 1⟩, ⟨nm2 88 50, k, 2, 3, c⟩, ⟨nm2 69 51, 4, 3, -1, 2⟩, ⟨nm2 88 51, 3, 3, 4, 2⟩, ⟨nm2 88 52, 2, 4, 5, 2⟩, ⟨nm2 83 53, 5, 5, -1, 2⟩]
def kindX2 (z : Int) : Int := if z = 0 then 1 else 3
def tieE (D : Dk) : Dk := (tieN 6 0 D []).1
def tieNs (D : Dk) : List Nd := (tieN 6 0 D []).2
def tieV0 (D : Dk) : List Dv := tieV (kindX2 ((tieE D).val 2)) (1 + (tieE D).next.val 2)
def tieF (D : Dk) : Dk := (tieE D).next.next
def tieVs (D : Dk) : List Dv :=
  if (tieF D).val 4 = 0 then tieV0 D ++ [⟨nm2 71 51, 6, 3, -1, 2⟩]
  else if (tieF D).val 4 = 1 then tieV0 D ++ [⟨nm2 68 49, 3, 1, 4, 1 + (tieF D).next.val 2⟩] else tieV0 D
def tieS0 : List Int := [2, 2, 2, 1, 2, 1, 2, 2, 2]
def tieSs (D : Dk) : List Int :=
  if (tieF D).val 4 = 0 then tieS0 ++ [1 + (tieF D).next.val 2]
  else if (tieF D).val 4 = 1 then tieS0 ++ [1]
  else if (tieF D).val 4 = 2 then tieS0.set (1 + (tieF D).next.val 2).toNat 1 else tieS0
def tieD (D : Dk) : Dk := if (tieF D).val 4 = 0 ∨ (tieF D).val 4 = 1 ∨ (tieF D).val 4 = 2 then (tieF D).next.next else (tieF D).next
theorem tieXD_ok {D : Dk} (h : DkOk D) : DkOk (tieXD D) := by
  unfold tieXD
  split
  · exact h.next.next
  · exact h.next
theorem tieN_ok : ∀ (m i : Nat) (D : Dk) (L : List Nd), DkOk D → DkOk (tieN m i D L).1 ∧ (tieN m i D L).2.length = L.length + m
  | 0, _, D, L, h => ⟨h, rfl⟩
  | m + 1, i, D, L, h => by
    obtain ⟨a, b⟩ := tieN_ok m (i + 1) (tieXD D) (L ++ [tieX D i]) (tieXD_ok h)
    refine ⟨a, b.trans ?_⟩
    simp
    omega
theorem tieE_ok {D : Dk} (h : DkOk D) : DkOk (tieE D) := (tieN_ok 6 0 D [] h).1
theorem tieF_ok {D : Dk} (h : DkOk D) : DkOk (tieF D) := (tieE_ok h).next.next
theorem tieD_ok {D : Dk} (h : DkOk D) : DkOk (tieD D) := by
  unfold tieD
  split
  · exact (tieF_ok h).next.next
  · exact (tieF_ok h).next
def cuX (D : Dk) : Int := if D.val 2 = 0 then 1 + D.next.val 30 else 0
theorem cuX_rng (D : Dk) : 0 ≤ cuX D ∧ cuX D ≤ 30 := by
  unfold cuX
  have r := D.next.val_range (n := 30) (by omega)
  have := r.2.1 (by omega)
  split <;> omega
theorem tieNs_eq (D : Dk) : ∃ c0 c1 c2 c3 c4 c5 : Int, (0 ≤ c0 ∧ c0 ≤ 30) ∧ (0 ≤ c1 ∧ c1 ≤ 30) ∧ (0 ≤ c2 ∧ c2 ≤ 30) ∧ (0 ≤ c3 ∧ c3 ≤ 30) ∧ (0 ≤ c4 ∧ c4 ≤ 30) ∧ (0 ≤ c5 ∧ c5 ≤ 30) ∧
    tieNs D = [⟨nm2 78 48, c0, 1⟩, ⟨nm2 78 49, c1, 1⟩, ⟨nm2 78 50, c2, 1⟩, ⟨nm2 78 51, c3, 2⟩, ⟨nm2 78 52, c4, 2⟩, ⟨nm2 78 53, c5, 2⟩] :=
  ⟨_, _, _, _, _, _, cuX_rng D, cuX_rng (tieXD D), cuX_rng (tieXD (tieXD D)), cuX_rng (tieXD (tieXD (tieXD D))), cuX_rng (tieXD (tieXD (tieXD (tieXD D)))), cuX_rng (tieXD (tieXD (tieXD (tieXD (tieXD D))))), rfl⟩
theorem nd_step {U : List ByteArray} {n : ByteArray} {cu co : Int} {l : List Nd} (h1 : nameB n.data.toList = true) (h2 : usedB U n = false) (h3 : 0 ≤ cu ∧ cu ≤ 30) (h4 : compB co = true) : ndGo U (⟨n, cu, co⟩ :: l) = ndGo (U ++ [n]) l := by
  rw [ndGo, if_neg (by rw [h1]; decide), if_neg (by rw [h2]; decide), if_neg (by rw [h4]; simp; omega)]
theorem dv_step {m : Int} {U : List ByteArray} {n : ByteArray} {k a b co : Int} {l : List Dv} (h1 : nameB n.data.toList = true) (h2 : usedB U n = false) (h3 : 1 ≤ k ∧ k ≤ 6) (h4 : (if a < 0 ∨ m ≤ a then false else if joinsB k = false then decide (b = -1) else decide (0 ≤ b) && decide (b < m) && decide (b ≠ a)) = true) (h5 : compB co = true) : dvGo m U (⟨n, k, a, b, co⟩ :: l) = dvGo m (U ++ [n]) l := by
  have h4' : endsB ⟨n, k, a, b, co⟩ m = true := h4
  rw [dvGo, if_neg (by rw [h1]; decide), if_neg (by rw [h2]; decide), if_neg (by simp only; omega), if_neg (by rw [h4']; decide), if_neg (by rw [h5]; decide)]
theorem comp12 {z : Int} (h0 : 0 ≤ z) (h1 : z ≤ 1) : compB (1 + z) = true := by
  obtain rfl | rfl : z = 0 ∨ z = 1 := by omega
  · rfl
  · rfl
theorem tie_net (D : Dk) : netE (tieNs D) (tieVs D) = 0 := by
  obtain ⟨c0, c1, c2, c3, c4, c5, h0, h1, h2, h3, h4, h5, e⟩ := tieNs_eq D
  rw [e]
  have rk := (tieE D).val_range (n := 2) (by omega)
  have ak := rk.2.1 (by omega)
  have rc := (tieE D).next.val_range (n := 2) (by omega)
  have ac := rc.2.1 (by omega)
  have rd := (tieF D).next.val_range (n := 2) (by omega)
  have ad := rd.2.1 (by omega)
  have hc := comp12 rc.1 (by omega)
  have hd := comp12 rd.1 (by omega)
  have hk : kindX2 ((tieE D).val 2) = 1 ∨ kindX2 ((tieE D).val 2) = 3 := by unfold kindX2; split <;> simp
  unfold netE
  have hN : ∀ V : List Dv, ndGo [] [⟨nm2 78 48, c0, 1⟩, ⟨nm2 78 49, c1, 1⟩, ⟨nm2 78 50, c2, 1⟩, ⟨nm2 78 51, c3, 2⟩, ⟨nm2 78 52, c4, 2⟩, ⟨nm2 78 53, c5, 2⟩] = 0 := fun _ => by
    rw [nd_step (by decide +kernel) (by decide +kernel) h0 rfl, nd_step (by decide +kernel) (by decide +kernel) h1 rfl, nd_step (by decide +kernel) (by decide +kernel) h2 rfl, nd_step (by decide +kernel) (by decide +kernel) h3 rfl, nd_step (by decide +kernel) (by decide +kernel) h4 rfl, nd_step (by decide +kernel) (by decide +kernel) h5 rfl]
    rfl
  have hV : (tieVs D).length ≤ 10 := by
    unfold tieVs tieV0 tieV
    split
    · simp
    split <;> simp
  rw [if_neg (by simp; omega), if_neg (by rw [hN []]; simp)]
  have hrest : ∀ l : List Dv, (∀ U, U = [nm2 78 48, nm2 78 49, nm2 78 50, nm2 78 51, nm2 78 52, nm2 78 53, nm2 83 48, nm2 88 48, nm2 88 49, nm2 69 50, nm2 88 50, nm2 69 51, nm2 88 51, nm2 88 52, nm2 83 53] → dvGo 6 U l = 0) →
      dvGo 6 [nm2 78 48, nm2 78 49, nm2 78 50, nm2 78 51, nm2 78 52, nm2 78 53] (tieV0 D ++ l) = 0 := fun l hl => by
    unfold tieV0 tieV
    simp only [List.cons_append, List.nil_append]
    rw [dv_step (by decide +kernel) (by decide +kernel) (by decide) (by decide +kernel) rfl, dv_step (by decide +kernel) (by decide +kernel) (by decide) (by decide +kernel) rfl, dv_step (by decide +kernel) (by decide +kernel) (by decide) (by decide +kernel) rfl, dv_step (by decide +kernel) (by decide +kernel) (by decide) (by decide +kernel) rfl]
    rw [dv_step (by decide +kernel) (by decide +kernel) (by rcases hk with hk | hk <;> rw [hk] <;> decide) (by rcases hk with hk | hk <;> rw [hk] <;> decide +kernel) hc]
    rw [dv_step (by decide +kernel) (by decide +kernel) (by decide) (by decide +kernel) rfl, dv_step (by decide +kernel) (by decide +kernel) (by decide) (by decide +kernel) rfl, dv_step (by decide +kernel) (by decide +kernel) (by decide) (by decide +kernel) rfl, dv_step (by decide +kernel) (by decide +kernel) (by decide) (by decide +kernel) rfl]
    exact hl _ rfl
  show dvGo 6 [nm2 78 48, nm2 78 49, nm2 78 50, nm2 78 51, nm2 78 52, nm2 78 53] (tieVs D) = 0
  unfold tieVs
  split
  · refine hrest _ fun U hU => ?_
    subst hU
    rw [dv_step (by decide +kernel) (by decide +kernel) (by decide) (by decide +kernel) rfl]
    rfl
  split
  · refine hrest _ fun U hU => ?_
    subst hU
    rw [dv_step (by decide +kernel) (by decide +kernel) (by decide) (by decide +kernel) hd]
    rfl
  · have := hrest [] fun U _ => rfl
    rwa [List.append_nil] at this
end Go.Proofs.YtamihjgfncjdoaaDoor
namespace Go.Proofs.YtamihjgfncjdoaaDoor
open Go Go.RowKit
theorem tie_len (D : Dk) : (tieVs D).length = 9 ∨ (tieVs D).length = 10 := by
  unfold tieVs
  split
  · right; rfl
  split
  · right; rfl
  · left; rfl
theorem tie_sz (D : Dk) : (∀ x ∈ tieNs D, x.n.size = 2) ∧ (∀ x ∈ tieVs D, x.n.size = 2) := by
  refine ⟨fun x hx => ?_, fun x hx => ?_⟩
  · obtain ⟨c0, c1, c2, c3, c4, c5, -, -, -, -, -, -, e⟩ := tieNs_eq D
    rw [e] at hx
    simp only [List.mem_cons, List.not_mem_nil, or_false] at hx
    rcases hx with rfl | rfl | rfl | rfl | rfl | rfl <;> rfl
  · have hV : ∀ k c, ∀ x ∈ tieV k c, x.n.size = 2 := fun k c x hx => by
      unfold tieV at hx
      simp only [List.mem_cons, List.not_mem_nil, or_false] at hx
      rcases hx with rfl | rfl | rfl | rfl | rfl | rfl | rfl | rfl | rfl <;> rfl
    unfold tieVs tieV0 at hx
    split at hx
    · rcases List.mem_append.1 hx with hx | hx
      · exact hV _ _ x hx
      · simp only [List.mem_cons, List.not_mem_nil, or_false] at hx
        subst hx; rfl
    split at hx
    · rcases List.mem_append.1 hx with hx | hx
      · exact hV _ _ x hx
      · simp only [List.mem_cons, List.not_mem_nil, or_false] at hx
        subst hx; rfl
    · exact hV _ _ x hx
theorem tie_names (D : Dk) : (∀ x ∈ tieNs D, x.n.size ≤ maxLen) ∧ (∀ x ∈ tieVs D, x.n.size ≤ maxLen) ∧ (tieNs D).length ≤ maxLen ∧ (tieVs D).length ≤ maxLen := by
  have hlt : (2 : Nat) ≤ maxLen := by decide
  have h64 : (64 : Nat) ≤ maxLen := by decide
  obtain ⟨hn1, hn2⟩ := netE_len (tie_net D)
  obtain ⟨s1, s2⟩ := tie_sz D
  exact ⟨fun x hx => by rw [s1 x hx]; exact hlt, fun x hx => by rw [s2 x hx]; exact hlt, by omega, by omega⟩
theorem tie_vlen (D : Dk) : 0 < (tieVs D).length ∧ (tieVs D).length ≤ 64 := by rcases tie_len D with h | h <;> omega
end Go.Proofs.YtamihjgfncjdoaaDoor
