/- Rows that are added in any order: what is there after each step, by plain functions; nothing of the program stands here. -/
import Derived.Test.YtbacidnhjmdnlaaDoorKxA
set_option linter.unusedVariables false
set_option linter.unusedSimpArgs false
namespace Go.Proofs.YtbacidnhjmdnlaaDoor
open Go Go.RowKit
theorem chk_filter {R : List Rw} (h : chk R = 0) (p : Rw → Bool) : chk (R.filter p) = 0 := by
  rw [chk_iff] at h ⊢
  refine ⟨Nat.le_trans (List.length_filter_le _ _) h.1, fun r hr => h.2.1 r (List.mem_filter.1 hr).1, h.2.2.filter _⟩
theorem low_lt {n : Int} : ∀ {L : List Rw}, (∀ r ∈ L, ¬ r.num < n) → low n L = 0
  | [], _ => rfl
  | x :: L, h => by rw [low, if_neg (h x (by simp))]
/-- One more of an ascending list's elements, laid at its place. -/
theorem ins_filter : ∀ {R : List Rw}, R.Pairwise (fun a b => a.num < b.num) → ∀ {q : Rw}, q ∈ R → ∀ p : Rw → Bool, p q = false →
    (R.filter p).take (low q.num (R.filter p)) ++ [q] ++ (R.filter p).drop (low q.num (R.filter p)) = R.filter (fun r => p r || decide (r = q))
  | [], _, q, hq, _, _ => by simp at hq
  | x :: R, hp, q, hq, p, hpq => by
    have hp' := List.pairwise_cons.1 hp
    by_cases hx : x = q
    · subst hx
      have hnot : ∀ r ∈ R, r ≠ x := fun r hr e => by subst e; have := hp'.1 r hr; omega
      have e1 : (x :: R).filter p = R.filter p := List.filter_cons_of_neg (by rw [hpq]; decide)
      have e2 : low x.num (R.filter p) = 0 := low_lt fun r hr => by have := hp'.1 r (List.mem_filter.1 hr).1; omega
      rw [e1, e2, List.filter_cons_of_pos (by simp)]
      simp only [List.take_zero, List.nil_append, List.drop_zero, List.singleton_append]
      congr 1
      refine List.filter_congr fun r hr => ?_
      rw [decide_eq_false (hnot r hr), Bool.or_false]
    · have hqR : q ∈ R := by simpa [Ne.symm hx] using hq
      have ih := ins_filter hp'.2 hqR p hpq
      have hlt := hp'.1 q hqR
      cases hpx : p x
      · rw [List.filter_cons_of_neg (by rw [hpx]; decide), List.filter_cons_of_neg (by simp [hpx, hx])]
        exact ih
      · rw [List.filter_cons_of_pos hpx, List.filter_cons_of_pos (by simp [hpx]), low, if_pos hlt, List.take_succ_cons, List.drop_succ_cons, ← ih]
        simp
theorem fnd_mem {n : Int} {L : List Rw} (h : fnd n L = true) : ∃ r ∈ L, r.num = n := by
  unfold fnd at h
  split at h
  · rename_i r hr; exact ⟨r, List.mem_of_getElem? hr, by simpa using h⟩
  · cases h
theorem mem_fnd {L : List Rw} (hp : L.Pairwise (fun a b => a.num < b.num)) {q : Rw} (h : q ∈ L) : fnd q.num L = true := by
  obtain ⟨i, hi⟩ := List.getElem?_of_mem h
  exact fnd_self hp hi
theorem num_one {R : List Rw} (hp : R.Pairwise fun a b => a.num < b.num) {x y : Rw} (hx : x ∈ R) (hy : y ∈ R) (h : x.num = y.num) : x = y := by
  obtain ⟨i, hi⟩ := List.getElem?_of_mem hx
  obtain ⟨j, hj⟩ := List.getElem?_of_mem hy
  have hlt : ∀ {i j : Nat} {x y : Rw}, R[i]? = some x → R[j]? = some y → i < j → x.num < y.num := fun {i j x y} h1 h2 hij => by
    have h3 := List.pairwise_iff_getElem.1 hp i j (lt_at h1) (lt_at h2) hij
    rw [(List.getElem?_eq_some_iff.1 h1).2, (List.getElem?_eq_some_iff.1 h2).2] at h3
    exact h3
  rcases Nat.lt_trichotomy i j with h1 | h1 | h1
  · have := hlt hi hj h1; omega
  · subst h1; rw [hi] at hj; injection hj
  · have := hlt hj hi h1; omega
/-- What has been taken out of the rest. -/
def outR (R Q : List Rw) : List Rw := R.filter fun r => !decide (r ∈ Q)
structure Rest (R Q : List Rw) : Prop where
  mem : ∀ r ∈ Q, r ∈ R
  nod : Q.Nodup
theorem outR_nil (R : List Rw) : outR R [] = R := by unfold outR; exact List.filter_eq_self.2 fun r _ => by simp
theorem outR_all (R : List Rw) : outR R R = [] := by unfold outR; exact List.filter_eq_nil_iff.2 fun r hr => by simp [hr]
theorem nodup_of {R : List Rw} (hp : R.Pairwise fun a b => a.num < b.num) : R.Nodup := hp.imp fun h e => by subst e; omega
theorem nodup_erase {Q : List Rw} (h : Q.Nodup) {i : Nat} {q : Rw} (hi : Q[i]? = some q) : (Q.take i ++ Q.drop (i + 1)).Nodup ∧ ∀ r, r ∈ Q.take i ++ Q.drop (i + 1) ↔ r ∈ Q ∧ r ≠ q := by
  have e : Q = Q.take i ++ (q :: Q.drop (i + 1)) := by rw [← drop_at hi, List.take_append_drop]
  have hn := h
  rw [e] at hn
  obtain ⟨h1, h2, h3⟩ := List.nodup_append.1 hn
  obtain ⟨h4, h5⟩ := List.nodup_cons.1 h2
  refine ⟨List.nodup_append.2 ⟨h1, h5, fun a ha b hb => h3 a ha b (by simp [hb])⟩, fun r => ?_⟩
  constructor
  · intro hr
    rcases List.mem_append.1 hr with hr | hr
    · exact ⟨List.mem_of_mem_take hr, fun e => h3 r hr q (by simp) e⟩
    · exact ⟨List.mem_of_mem_drop hr, fun e => h4 (e ▸ hr)⟩
  · rintro ⟨hr, hne⟩
    rw [e] at hr
    rcases List.mem_append.1 hr with hr | hr
    · exact List.mem_append_left _ hr
    · rcases List.mem_cons.1 hr with hr | hr
      · exact absurd hr hne
      · exact List.mem_append_right _ hr
theorem Rest.step {R Q : List Rw} (h : Rest R Q) {i : Nat} {q : Rw} (hi : Q[i]? = some q) : Rest R (Q.take i ++ Q.drop (i + 1)) := by
  obtain ⟨h1, h2⟩ := nodup_erase h.nod hi
  exact ⟨fun r hr => h.mem r ((h2 r).1 hr).1, h1⟩
theorem add_rest {R Q : List Rw} (hc : chk R = 0) (hl : R.length ≤ 100) (h : Rest R Q) {i : Nat} {q : Rw} (hi : Q[i]? = some q) :
    addP (outR R Q) q = (outR R (Q.take i ++ Q.drop (i + 1)), 0) ∧ addP (outR R (Q.take i ++ Q.drop (i + 1))) q = ([], 4) := by
  have hp := ((chk_iff R).1 hc).2.2
  have hqQ := List.mem_of_getElem? hi
  have hqR := h.mem q hqQ
  obtain ⟨hnum, hright⟩ := ((chk_iff R).1 hc).2.1 q hqR
  obtain ⟨-, h2⟩ := nodup_erase h.nod hi
  have e : outR R (Q.take i ++ Q.drop (i + 1)) = R.filter fun r => !decide (r ∈ Q) || decide (r = q) := by
    unfold outR
    refine List.filter_congr fun r _ => ?_
    by_cases hq : r = q
    · subst hq
      have : r ∉ Q.take i ++ Q.drop (i + 1) := fun h => ((h2 r).1 h).2 rfl
      simp only [decide_eq_false this, decide_true, Bool.or_true, Bool.not_false]
    · by_cases hr : r ∈ Q
      · have : r ∈ Q.take i ++ Q.drop (i + 1) := (h2 r).2 ⟨hr, hq⟩
        simp only [decide_eq_true this, decide_eq_true hr, decide_eq_false hq]; rfl
      · have : r ∉ Q.take i ++ Q.drop (i + 1) := fun h => hr ((h2 r).1 h).1
        simp only [decide_eq_false this, decide_eq_false hr]; rfl
  have hlen : ∀ p : Rw → Bool, ¬ (R.filter p).length = 128 := fun p => by have := List.length_filter_le p R; omega
  constructor
  · unfold addP
    rw [if_neg (by rw [show chk (outR R Q) = 0 from chk_filter hc _]; simp), if_neg (by rw [hnum]; decide), if_neg (by rw [hright]; decide), if_neg (fun hf => by
      obtain ⟨r, hr, hrn⟩ := fnd_mem hf
      obtain ⟨hr1, hr2⟩ := List.mem_filter.1 hr
      have := num_one hp hr1 hqR hrn
      subst this
      simp [hqQ] at hr2), if_neg (show ¬ (outR R Q).length = 128 from hlen _), e]
    exact congrArg (fun z => (z, (0 : Int))) (ins_filter hp hqR _ (by simp [hqQ]))
  · unfold addP
    have hc' : chk (outR R (Q.take i ++ Q.drop (i + 1))) = 0 := chk_filter hc _
    rw [if_neg (by rw [hc']; simp), if_neg (by rw [hnum]; decide), if_neg (by rw [hright]; decide), if_pos (mem_fnd ((chk_iff _).1 hc').2.2 (by rw [e]; exact List.mem_filter.2 ⟨hqR, by simp⟩))]
end Go.Proofs.YtbacidnhjmdnlaaDoor
