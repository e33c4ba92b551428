/- Certificates that are asked for in any order: the list is the same, by plain functions; nothing of the program stands here. -/
import Derived.Test.YthhhpnbnkolgmaaDoorCeP
set_option linter.unusedVariables false
set_option linter.unusedSimpArgs false
namespace Go.Proofs.YthhhpnbnkolgmaaDoor
open Go Go.RowKit
structure CoS (N : List Nd) (V : List Dv) (S : List Ce) : Prop where
  ok : ∀ c ∈ S, CeOk N V c ∧ c.ask = 1 ∧ c.st = 1 ∧ c.lk.length ≤ 8
  asc : S.Pairwise (fun a b => a.num < b.num)
  len : S.length ≤ 4
theorem lowG_all {c : Ce} : ∀ {L : List Ce}, (∀ x ∈ L, ceLt x c = true) → lowG ceLt c L = L.length
  | [], _ => rfl
  | x :: l, h => by rw [lowG, if_pos (h x (by simp)), lowG_all (fun y hy => h y (by simp [hy]))]; rfl
theorem lowG_none {c : Ce} : ∀ {L : List Ce}, (∀ x ∈ L, ceLt x c = false) → lowG ceLt c L = 0
  | [], _ => rfl
  | x :: l, h => by rw [lowG, if_neg (by rw [h x (by simp)]; decide)]
theorem findC_none {L : List Ce} {a n : Int} (h : ∀ x ∈ L, ¬ (x.ask = a ∧ x.num = n)) : findC L a n = -1 := by
  unfold findC
  have : ∀ (L : List Ce) (i : Nat), (∀ x ∈ L, ¬ (x.ask = a ∧ x.num = n)) → idxG (isC a n) L i = -1 := by
    intro L
    induction L with
    | nil => intro i _; rfl
    | cons x l ih =>
      intro i hi
      rw [idxG, if_neg (by unfold isC; have := hi x (by simp); simpa using this)]
      exact ih _ (fun y hy => hi y (by simp [hy]))
  exact this L 0 h
theorem findC_mem {L : List Ce} {c : Ce} (h : c ∈ L) : 0 ≤ findC L c.ask c.num := by
  unfold findC
  have : ∀ (L : List Ce) (i : Nat), c ∈ L → 0 ≤ idxG (isC c.ask c.num) L i := by
    intro L
    induction L with
    | nil => intro i h; cases h
    | cons x l ih =>
      intro i hi
      rw [idxG]
      split
      · omega
      · rename_i hc
        rcases List.mem_cons.1 hi with rfl | hi
        · exact absurd (by unfold isC; simp) hc
        · exact ih _ hi
  exact this L 0 h
theorem CoS.ls {N : List Nd} {V : List Dv} {S : List Ce} (h : CoS N V S) {L : List Ce} (hL : L.Sublist S) : allE N V L = 0 := by
  refine allE_iff.2 ⟨⟨fun c hc => (h.ok c (hL.subset hc)).1, ?_⟩, by have := hL.length_le; have := h.len; omega⟩
  refine (h.asc.sublist hL).imp_of_mem fun {a b} ha hb hab => ?_
  have h1 := (h.ok a (hL.subset ha)).2.1
  have h2 := (h.ok b (hL.subset hb)).2.1
  rw [ceLt_iff]
  exact .inr ⟨by rw [h1, h2], hab⟩
theorem CoS.lt {N : List Nd} {V : List Dv} {S : List Ce} (h : CoS N V S) {i j : Nat} {a b : Ce} (ha : S[i]? = some a) (hb : S[j]? = some b) (hij : i < j) : a.num < b.num := by
  have h3 := List.pairwise_iff_getElem.1 h.asc i j (lt_at ha) (lt_at hb) hij
  rw [(List.getElem?_eq_some_iff.1 ha).2, (List.getElem?_eq_some_iff.1 hb).2] at h3
  exact h3
theorem CoS.take {N : List Nd} {V : List Dv} {S : List Ce} (h : CoS N V S) {i : Nat} {c : Ce} (hc : S[i]? = some c) : askC N V (S.take i) 1 c = (S.take (i + 1), 0) := by
  obtain ⟨k1, k2, k3, k4⟩ := h.ok c (List.mem_of_getElem? hc)
  have hlt : ∀ x ∈ S.take i, x.ask = 1 ∧ x.num < c.num := fun x hx => by
    obtain ⟨j, hj⟩ := List.getElem?_of_mem hx
    rw [List.getElem?_take] at hj
    split at hj
    · rename_i hji; exact ⟨(h.ok x (List.mem_of_getElem? hj)).2.1, h.lt hj hc hji⟩
    · cases hj
  have hlen : (S.take i).length = i := by rw [List.length_take, Nat.min_eq_left (by have := lt_at hc; omega)]
  unfold askC
  rw [h.ls (List.take_sublist i S), certE_iff.2 k1, if_neg (by decide), if_neg (by decide), if_neg (by rintro (e | e); exact e k2; exact e k3), findC_none (fun x hx e => by have := (hlt x hx).2; omega), if_neg (by decide)]
  unfold putC
  rw [if_neg (by rw [hlen]; have := lt_at hc; have := h.len; omega)]
  unfold insG
  rw [lowG_all (fun x hx => by rw [ceLt_iff, k2]; exact .inr (hlt x hx)), List.take_length, List.drop_length, take_at hc]
theorem CoS.drop {N : List Nd} {V : List Dv} {S : List Ce} (h : CoS N V S) {i : Nat} {c : Ce} (hc : S[i]? = some c) : askC N V (S.drop (i + 1)) 1 c = (S.drop i, 0) := by
  obtain ⟨k1, k2, k3, k4⟩ := h.ok c (List.mem_of_getElem? hc)
  have hlt : ∀ x ∈ S.drop (i + 1), x.ask = 1 ∧ c.num < x.num := fun x hx => by
    obtain ⟨j, hj⟩ := List.getElem?_of_mem hx
    rw [List.getElem?_drop] at hj
    exact ⟨(h.ok x (List.mem_of_getElem? hj)).2.1, h.lt hc hj (by omega)⟩
  unfold askC
  rw [h.ls (List.drop_sublist _ S), certE_iff.2 k1, if_neg (by decide), if_neg (by decide), if_neg (by rintro (e | e); exact e k2; exact e k3), findC_none (fun x hx e => by have := (hlt x hx).2; omega), if_neg (by decide)]
  unfold putC
  rw [if_neg (by rw [List.length_drop]; have := lt_at hc; have := h.len; omega)]
  unfold insG
  rw [lowG_none (fun x hx => by
    cases hq : ceLt x c with
    | false => rfl
    | true =>
      rw [ceLt_iff] at hq
      have := hlt x hx
      omega), drop_at hc]
  rfl
theorem CoS.twice {N : List Nd} {V : List Dv} {S : List Ce} (h : CoS N V S) {c : Ce} (hc : c ∈ S) : askC N V S 1 c = ([], 4) := by
  obtain ⟨k1, k2, k3, k4⟩ := h.ok c hc
  unfold askC
  rw [h.ls (List.Sublist.refl S), certE_iff.2 k1, if_neg (by decide), if_neg (by decide), if_neg (by rintro (e | e); exact e k2; exact e k3), if_pos (findC_mem hc)]
theorem CoS.nil {N : List Nd} {V : List Dv} : CoS N V [] := ⟨fun c h => (by cases h), List.Pairwise.nil, by simp⟩
theorem CoS.snoc {N : List Nd} {V : List Dv} {S : List Ce} (h : CoS N V S) {c : Ce} (h1 : CeOk N V c) (h2 : c.ask = 1) (h3 : c.st = 1) (h4 : ∀ x ∈ S, x.num < c.num) (h5 : S.length < 4) (h6 : c.lk.length ≤ 8) : CoS N V (S ++ [c]) := by
  refine ⟨fun x hx => ?_, ?_, by simp; omega⟩
  · rcases List.mem_append.1 hx with hx | hx
    · exact h.ok x hx
    · simp at hx; subst hx; exact ⟨h1, h2, h3, h6⟩
  · rw [List.pairwise_append]
    exact ⟨h.asc, List.pairwise_singleton _ _, fun a ha b hb => by simp at hb; subst hb; exact h4 a ha⟩
end Go.Proofs.YthhhpnbnkolgmaaDoor
