/- belief.All as a fold, and the plain law of BeliefOrder: it hangs on which reports there are, not on their order or number; conditions: good reports. -/
import Derived.Test.YtmicckgfpodahaaStorm
set_option linter.unusedVariables false
set_option linter.unusedSimpArgs false
namespace Go.Proofs.Ytmicckgfpodahaa
open Go Go.RowKit
def stepA (k : Int) (x : List Bel × Int) (r : Rep) : List Bel × Int :=
  if reportE r.d r.p r.s r.t r.b k = 0 then (x.1.set r.d.toNat (merge (x.1[r.d.toNat]?.getD ⟨0, 0, 0⟩) r), x.2) else (x.1, x.2 + 1)
def allA (L : List Bel) (R : List Rep) : List Bel × Int := R.foldl (stepA L.length) (L, 0)
theorem allA_snoc (k : Int) (x : List Bel × Int) (R : List Rep) (r : Rep) : (R ++ [r]).foldl (stepA k) x = stepA k (R.foldl (stepA k) x) r := by
  rw [List.foldl_append]; rfl
theorem stepA_len (k : Int) (x : List Bel × Int) (r : Rep) : (stepA k x r).1.length = x.1.length := by
  unfold stepA; split <;> simp
theorem foldA_len (k : Int) (R : List Rep) : ∀ x : List Bel × Int, (R.foldl (stepA k) x).1.length = x.1.length := by
  induction R with
  | nil => intro x; rfl
  | cons r R ih => intro x; rw [List.foldl_cons, ih, stepA_len]
theorem mark_good {d t : Int} {r : Rep} (h : GoodRep d t r) : ∃ K : Nat, markI r.p r.s r.b = K ∧ 0 < K ∧ K < 1024 := by
  obtain ⟨-, -, -, -, h⟩ := h
  obtain ⟨dd, p, s, tt, b⟩ := r
  simp only at h ⊢
  rcases h with ⟨rfl, rfl, rfl⟩ | ⟨a1, a2, b1, b2⟩
  · exact ⟨512, rfl, by omega, by omega⟩
  · obtain rfl | rfl : p = 1 ∨ p = 2 := by omega
    all_goals obtain rfl | rfl | rfl : s = 1 ∨ s = 2 ∨ s = 3 := by omega
    all_goals cases b
    all_goals (refine ⟨_, (Int.toNat_of_nonneg ?_).symm, ?_, ?_⟩ <;> decide)
theorem report_good {r : Rep} {k : Int} (h : GoodRep 4 6 r) (hk : 4 ≤ k) : reportE r.d r.p r.s r.t r.b k = 0 := by
  obtain ⟨d0, d1, t0, t1, h⟩ := h
  have ht := timeB_of (t := r.t) t0 (by have := t1 (by omega); omega)
  have hd := d1 (by omega)
  have e1 : decide (r.d < 0) = false := by simp; omega
  have e2 : decide (k ≤ r.d) = false := by simp; omega
  unfold reportE
  rw [e1, e2, ht]
  rcases h with ⟨h1, h2, h3⟩ | ⟨a1, a2, b1, b2⟩
  · simp [h1, h2, h3]
  · have e3 : decide (r.s < 1) = false := by simp; omega
    have e4 : decide (4 < r.s) = false := by simp; omega
    have e5 : decide (r.s = 4) = false := by simp; omega
    obtain hp | hp : r.p = 1 ∨ r.p = 2 := by omega
    all_goals simp [e3, e4, e5, hp]
def QB (b : Bel) (S : Rep → Prop) : Prop :=
  b.n = 0 ∧ ((b = ⟨0, 0, 0⟩ ∧ ∀ r, ¬ S r) ∨ ((∃ r, S r ∧ r.t = b.t) ∧ (∀ r, S r → r.t ≤ b.t) ∧ 0 ≤ b.t ∧ b.t ≤ 100 ∧
    ∃ M : Nat, b.m = M ∧ 0 < M ∧ M < 1024 ∧ ∀ i, M.testBit i = true ↔ ∃ r, S r ∧ r.t = b.t ∧ (markI r.p r.s r.b).toNat.testBit i = true))
theorem qb_only {b c : Bel} {S T : Rep → Prop} (h : QB b S) (h' : QB c T) (hS : ∀ r, S r ↔ T r) : b = c := by
  obtain ⟨hn, h⟩ := h
  obtain ⟨hn', h'⟩ := h'
  obtain ⟨t, m, n⟩ := b
  obtain ⟨t', m', n'⟩ := c
  simp only at hn hn' h h'
  subst hn; subst hn'
  rcases h with ⟨e, h⟩ | ⟨⟨r, hr, et⟩, hm, -, -, M, rfl, -, -, hb⟩ <;> rcases h' with ⟨e', h'⟩ | ⟨⟨r', hr', et'⟩, hm', -, -, M', rfl, -, -, hb'⟩
  · rw [e, e']
  · exact absurd ((hS r').2 hr') (h r')
  · exact absurd ((hS r).1 hr) (h' r)
  · have e1 : t ≤ t' := by have := hm' r ((hS r).1 hr); omega
    have e2 : t' ≤ t := by have := hm r' ((hS r').2 hr'); omega
    obtain rfl : t = t' := by omega
    have : M = M' := Nat.eq_of_testBit_eq fun i => by
      have := hb i; have h2 := hb' i
      rw [Bool.eq_iff_iff, this, h2]
      exact ⟨fun ⟨r, a, b⟩ => ⟨r, (hS r).1 a, b⟩, fun ⟨r, a, b⟩ => ⟨r, (hS r).2 a, b⟩⟩
    rw [this]
theorem qb_step {b : Bel} {S : Rep → Prop} {r : Rep} (h : QB b S) (hr : GoodRep 4 6 r) : QB (merge b r) (fun x => S x ∨ x = r) := by
  have hv := report_good hr (k := 64) (by omega)
  have ht0 := hr.2.2.1
  have ht1 := hr.2.2.2.1 (by omega)
  obtain ⟨K, hK, K0, K1⟩ := mark_good hr
  obtain ⟨t, m, n⟩ := b
  obtain ⟨hn, h⟩ := h
  simp only at hn h
  subst hn
  have hfresh : (∀ x, S x → x.t < r.t) → QB ⟨r.t, K, 0⟩ (fun x => S x ∨ x = r) := by
    intro hlt
    refine ⟨rfl, .inr ⟨⟨r, .inr rfl, rfl⟩, ?_, ht0, by simp only; omega, K, rfl, K0, K1, ?_⟩⟩
    · rintro x (hx | rfl)
      · have := hlt x hx; simp only; omega
      · exact Int.le_refl _
    · intro i
      constructor
      · intro hi; exact ⟨r, .inr rfl, rfl, by rw [hK]; exact hi⟩
      · rintro ⟨x, hx | rfl, e, hi⟩
        · have := hlt x hx; simp only at e; omega
        · rw [hK] at hi; exact hi
  rcases h with ⟨e, hS⟩ | ⟨⟨q, hq, et⟩, hm, b0, b1, M, rfl, M0, M1, hb⟩
  · have hvb : validE t m 0 = 0 := by cases e; decide +kernel
    have e2 : merge ⟨t, m, 0⟩ r = ⟨r.t, K, 0⟩ := by
      unfold merge; rw [if_pos ⟨hvb, hv⟩, if_pos (.inl (by cases e; rfl)), hK]
    rw [e2]
    exact hfresh fun x hx => absurd hx (hS x)
  · have hvb : validE t M 0 = 0 := valid_good b0 (by omega) (by omega) (by omega) (by omega) (by omega)
    by_cases c1 : t < r.t
    · have e2 : merge ⟨t, M, 0⟩ r = ⟨r.t, K, 0⟩ := by
        unfold merge; rw [if_pos ⟨hvb, hv⟩, if_pos (.inr c1), hK]
      rw [e2]
      exact hfresh fun x hx => by have := hm x hx; omega
    · by_cases c2 : r.t = t
      · have e2 : merge ⟨t, M, 0⟩ r = ⟨t, ((M ||| K : Nat) : Int), 0⟩ := by
          unfold merge
          rw [if_pos ⟨hvb, hv⟩, if_neg (by rintro (h | h) <;> simp only at h <;> omega), if_pos c2, hK, bits_or_eq M K M1 K1]
        rw [e2]
        have hx : M ||| K < 2 ^ 10 := Nat.or_lt_two_pow (by omega) (by omega)
        have hx0 : M ≤ M ||| K := Nat.left_le_or
        refine ⟨rfl, .inr ⟨⟨q, .inl hq, et⟩, ?_, b0, b1, M ||| K, rfl, by omega, by omega, ?_⟩⟩
        · rintro x (hx | rfl)
          · exact hm x hx
          · simp only; omega
        · intro i
          rw [Nat.testBit_or, Bool.or_eq_true, hb i]
          constructor
          · rintro (⟨x, hx, e, hi⟩ | hi)
            · exact ⟨x, .inl hx, e, hi⟩
            · exact ⟨r, .inr rfl, c2, by rw [hK]; exact hi⟩
          · rintro ⟨x, hx | rfl, e, hi⟩
            · exact .inl ⟨x, hx, e, hi⟩
            · rw [hK] at hi; exact .inr hi
      · have e2 : merge ⟨t, M, 0⟩ r = ⟨t, M, 0⟩ := by
          unfold merge
          rw [if_pos ⟨hvb, hv⟩, if_neg (by rintro (h | h) <;> simp only at h <;> omega), if_neg c2]
        rw [e2]
        refine ⟨rfl, .inr ⟨⟨q, .inl hq, et⟩, ?_, b0, b1, M, rfl, M0, M1, ?_⟩⟩
        · rintro x (hx | rfl)
          · exact hm x hx
          · simp only; omega
        · intro i
          rw [hb i]
          constructor
          · rintro ⟨x, hx, e, hi⟩; exact ⟨x, .inl hx, e, hi⟩
          · rintro ⟨x, hx | rfl, e, hi⟩
            · exact ⟨x, hx, e, hi⟩
            · exact absurd e c2
theorem qb_same {b : Bel} {S T : Rep → Prop} (h : QB b S) (hS : ∀ r, S r ↔ T r) : QB b T := by
  have : S = T := funext fun r => propext (hS r)
  rw [← this]; exact h
theorem qb_fold (R : List Rep) : ∀ (x : List Bel × Int) (S : Nat → Rep → Prop), x.1.length = 4 → (∀ r ∈ R, GoodRep 4 6 r) →
    (∀ i b, x.1[i]? = some b → QB b (S i)) →
    (R.foldl (stepA 4) x).2 = x.2 ∧ ∀ i b, (R.foldl (stepA 4) x).1[i]? = some b → QB b (fun r => S i r ∨ (r ∈ R ∧ r.d = i)) := by
  induction R with
  | nil =>
    intro x S hl hg hx
    exact ⟨rfl, fun i b hb => qb_same (hx i b hb) fun r => by simp⟩
  | cons r R ih =>
    intro x S hl hg hx
    have hr := hg r (List.mem_cons_self ..)
    have hv := report_good hr (k := 4) (by omega)
    obtain ⟨j, hj⟩ := Int.eq_ofNat_of_zero_le hr.1
    have hj4 : j < 4 := by have := hr.2.1 (by omega); omega
    have ej : r.d.toNat = j := by omega
    have e1 : stepA 4 x r = (x.1.set j (merge (x.1[j]?.getD ⟨0, 0, 0⟩) r), x.2) := by unfold stepA; rw [if_pos hv, ej]
    obtain ⟨c, hc⟩ : ∃ c, x.1[j]? = some c := ⟨_, List.getElem?_eq_getElem (by omega)⟩
    rw [hc] at e1
    rw [List.foldl_cons, e1]
    obtain ⟨a1, a2⟩ := ih (x.1.set j (merge c r), x.2) (fun i q => S i q ∨ (q = r ∧ i = j)) (by simpa using hl) (fun q hq => hg q (List.mem_cons_of_mem _ hq)) (by
      intro i b hb
      by_cases e : i = j
      · subst e
        rw [List.getElem?_set_self (by omega)] at hb
        cases hb
        exact qb_same (qb_step (hx i c hc) hr) fun q => by simp
      · rw [List.getElem?_set_ne (Ne.symm e)] at hb
        exact qb_same (hx i b hb) fun q => by simp [e])
    refine ⟨a1, fun i b hb => qb_same (a2 i b hb) fun q => ?_⟩
    constructor
    · rintro ((h | ⟨rfl, rfl⟩) | ⟨h, e⟩)
      · exact .inl h
      · exact .inr ⟨List.mem_cons_self .., hj⟩
      · exact .inr ⟨List.mem_cons_of_mem _ h, e⟩
    · rintro (h | ⟨h, e⟩)
      · exact .inl (.inl h)
      · rcases List.mem_cons.1 h with rfl | h
        · exact .inl (.inr ⟨rfl, by omega⟩)
        · exact .inr ⟨h, e⟩
def zero4 : List Bel := [⟨0, 0, 0⟩, ⟨0, 0, 0⟩, ⟨0, 0, 0⟩, ⟨0, 0, 0⟩]
theorem zero4_qb : ∀ (i : Nat) (b : Bel), zero4[i]? = some b → QB b (fun _ => False) := by
  intro i b hb
  have : b = ⟨0, 0, 0⟩ := by
    have h := List.mem_of_getElem? hb
    simpa [zero4] using h
  subst this
  exact ⟨rfl, .inl ⟨rfl, fun _ h => h⟩⟩
theorem order_law {R R' : List Rep} (h : ∀ r ∈ R, GoodRep 4 6 r) (hs : ∀ r, r ∈ R ↔ r ∈ R') :
    (allA zero4 R).2 = 0 ∧ (allA zero4 R').2 = 0 ∧ (allA zero4 R).1.length = 4 ∧ (allA zero4 R).1 = (allA zero4 R').1 := by
  have h' : ∀ r ∈ R', GoodRep 4 6 r := fun r hr => h r ((hs r).2 hr)
  obtain ⟨a1, a2⟩ := qb_fold R (zero4, 0) (fun _ _ => False) rfl h zero4_qb
  obtain ⟨b1, b2⟩ := qb_fold R' (zero4, 0) (fun _ _ => False) rfl h' zero4_qb
  have l1 : (allA zero4 R).1.length = 4 := foldA_len _ _ _
  have l2 : (allA zero4 R').1.length = 4 := foldA_len _ _ _
  refine ⟨a1, b1, l1, List.ext_getElem? fun i => ?_⟩
  by_cases hi : i < 4
  · obtain ⟨b, hb⟩ : ∃ b, (allA zero4 R).1[i]? = some b := ⟨_, List.getElem?_eq_getElem (by omega)⟩
    obtain ⟨c, hc⟩ : ∃ c, (allA zero4 R').1[i]? = some c := ⟨_, List.getElem?_eq_getElem (by omega)⟩
    rw [hb, hc, qb_only (a2 i b hb) (b2 i c hc) fun r => by simp [hs r]]
  · rw [List.getElem?_eq_none (by omega), List.getElem?_eq_none (by omega)]
end Go.Proofs.Ytmicckgfpodahaa
