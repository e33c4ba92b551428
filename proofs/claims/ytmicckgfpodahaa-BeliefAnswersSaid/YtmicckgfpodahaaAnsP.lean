/- The plain law of BeliefAnswers: what the references say is what the functions say; conditions: the marks are of a Go integer, now and limit too. -/
import Derived.Test.YtmicckgfpodahaaLikelyW
import Derived.Test.YtmicckgfpodahaaOrderP
import Derived.Test.YtmicckgfpodahaaScalR
set_option linter.unusedVariables false
set_option linter.unusedSimpArgs false
namespace Go.Proofs.Ytmicckgfpodahaa
open Go Go.RowKit
def I64 (n : Int) : Prop := -9223372036854775808 ≤ n ∧ n ≤ 9223372036854775807
theorem mask_bits : ∀ i : Fin 64, (~~~(BitVec.ofInt 64 1023)).getLsbD i.val = decide (10 ≤ i.val) := by decide +kernel
theorem andNot_only {m : Int} (hm : I64 m) (h : bits .andNot .i64 m 1023 = 0) : 0 ≤ m ∧ m ≤ 1023 := by
  have h1 : IntKind.i64.wrap ((BitVec.ofInt 64 m &&& ~~~(BitVec.ofInt 64 1023)).toNat : Int) = 0 := h
  rw [IntKind.wrap_i64] at h1
  have hlt := (BitVec.ofInt 64 m &&& ~~~(BitVec.ofInt 64 1023)).isLt
  have h0 : (BitVec.ofInt 64 m &&& ~~~(BitVec.ofInt 64 1023)).toNat = 0 := by omega
  have hx : (BitVec.ofInt 64 m).toNat < 2 ^ 10 := by
    apply Nat.lt_pow_two_of_testBit
    intro i hi
    by_cases h64 : i < 64
    · have hb := mask_bits ⟨i, h64⟩
      simp only at hb
      rw [show decide (10 ≤ i) = true by simp; omega] at hb
      have hz : (BitVec.ofInt 64 m &&& ~~~(BitVec.ofInt 64 1023)).getLsbD i = false := by
        rw [BitVec.getLsbD, h0]; simp
      rw [BitVec.getLsbD_and, hb, Bool.and_true] at hz
      exact hz
    · exact Nat.testBit_lt_two_pow (Nat.lt_of_lt_of_le (BitVec.ofInt 64 m).isLt (Nat.pow_le_pow_right (by omega) (by omega)))
  rw [BitVec.toNat_ofInt] at hx
  obtain ⟨hm0, hm1⟩ := hm
  omega
theorem rvalid_iff {t m n : Int} (hm : I64 m) : rvalidB t m n = true ↔ validE t m n = 0 := by
  constructor
  · intro h
    simp [rvalidB] at h
    exact valid_good h.1 h.2.1 h.2.2.1 h.2.2.2.1 h.2.2.2.2.1 h.2.2.2.2.2
  · intro h
    unfold validE at h
    split at h
    · cases h
    rename_i h1
    split at h
    · cases h
    rename_i h2
    simp [timeB] at h1 h2
    have := andNot_only hm h2.1.1
    simp [rvalidB]
    omega
theorem rbad_eq {t m n : Int} (hm : I64 m) : rbad t m n = validE t m n := by
  unfold rbad
  split
  · rename_i h
    have : timeB t = false := by simp [timeB]; omega
    simp [validE, this]
  · rename_i h
    have h1 : timeB t = true := by simp [timeB]; omega
    split
    · rename_i h2
      exact ((rvalid_iff hm).1 h2).symm
    · rename_i h2
      have h3 : validE t m n ≠ 0 := fun e => h2 ((rvalid_iff hm).2 e)
      unfold validE at h3 ⊢
      simp only [h1, Bool.not_true, Bool.false_eq_true, if_false] at h3 ⊢
      split at h3
      · rename_i h4; rw [if_pos h4]
      · exact absurd rfl h3
theorem rfirst_eq : ∀ (L : List Bel), (∀ b ∈ L, I64 b.m) → rfirstE L = firstE L
  | [], _ => rfl
  | b :: L, h => by
    have e := rbad_eq (t := b.t) (n := b.n) (h b (by simp))
    have r := rfirst_eq L (fun x hx => h x (by simp [hx]))
    rw [rfirstE, firstE, e, r]
theorem rcheck_eq (L : List Bel) (h : ∀ b ∈ L, I64 b.m) : rcheckE L = checkE L := by
  unfold rcheckE checkE
  rw [rfirst_eq L h]
theorem fresh_eq {t now limit : Int} (h0 : 0 ≤ t) (h1 : t ≤ 16777216) (hn : I64 now) (hl : I64 limit) : rfreshB t now limit = freshB now t limit := by
  obtain ⟨n0, n1⟩ := hn
  obtain ⟨l0, l1⟩ := hl
  unfold rfreshB freshB
  have e1 : wrap64 (now - t) = (now - t + 9223372036854775808) % 18446744073709551616 - 9223372036854775808 := by simp only [wrap64]
  have e2 : wrap64 (now - limit) = (now - limit + 9223372036854775808) % 18446744073709551616 - 9223372036854775808 := by simp only [wrap64]
  rw [e1, e2]
  clear e1 e2
  rw [Bool.eq_iff_iff]
  (repeat' split) <;> simp <;> omega
def rsure (b : Bel) (now limit : Int) : Int × Int :=
  if rvalidB b.t b.m b.n = true ∧ bits .and .i64 b.m 960 = 0 then
    (if rfreshB b.t now limit = true then pick (bits .or .i64 (bits .and .i64 b.m 3) (bits .and .i64 (b.m / 4) 3)) (bits .and .i64 (b.m / 16) 3)
      else pick (bits .and .i64 b.m 3) (bits .or .i64 (bits .and .i64 (b.m / 16) 3) (bits .and .i64 (b.m / 4) 3)))
  else (0, 0)
theorem rvalid_time {t m n : Int} (h : rvalidB t m n = true) : 0 ≤ t ∧ t ≤ 16777216 := by
  simp [rvalidB] at h
  omega
theorem rsure_eq (b : Bel) (now limit : Int) (hm : I64 b.m) (hn : I64 now) (hl : I64 limit) : rsure b now limit = sure b now limit := by
  unfold rsure sure
  by_cases h : rvalidB b.t b.m b.n = true ∧ bits .and .i64 b.m 960 = 0
  · obtain ⟨t0, t1⟩ := rvalid_time h.1
    rw [if_pos h, if_pos (show validE b.t b.m b.n = 0 ∧ bits .and .i64 b.m 960 = 0 from ⟨(rvalid_iff hm).1 h.1, h.2⟩), fresh_eq t0 t1 hn hl]
  · rw [if_neg h, if_neg (show ¬ (validE b.t b.m b.n = 0 ∧ bits .and .i64 b.m 960 = 0) from fun h2 => h ⟨(rvalid_iff hm).2 h2.1, h2.2⟩)]
theorem rright_iff {d p s t : Int} {b : Bool} : rrightB d p s t b = true ↔ reportE d p s t b 64 = 0 := by
  unfold rrightB rfaultE reportE timeB
  simp only [decide_eq_true_eq]
  constructor
  · rintro ⟨h0, h1, h2⟩
    (repeat' split at h2) <;> first | cases h2 | skip
    rename_i a1 a2 a3
    have e1 : (decide (d < 0) || decide (64 ≤ d)) = false := by simp; omega
    have e2 : (decide (s < 1) || decide (4 < s)) = false := by simp; omega
    have e3 : (decide (0 ≤ t) && decide (t ≤ 16777216)) = true := by simp; omega
    rw [e1, e2, e3]
    simp only [Bool.false_eq_true, if_false, Bool.not_true]
    rw [if_neg]
    intro h
    apply a3
    simp at h
    rcases h with ⟨h4, h5⟩ | ⟨h4, h5⟩
    · left; exact ⟨h4, h5⟩
    · right; exact ⟨h4.1, h4.2, h5⟩
  · intro h
    split at h
    · cases h
    rename_i a1
    split at h
    · cases h
    rename_i a2
    split at h
    · cases h
    rename_i a3
    split at h
    · cases h
    rename_i a4
    simp at a1 a2 a3
    refine ⟨a1.1, a1.2, ?_⟩
    rw [if_neg (by omega), if_neg (by omega), if_neg]
    intro h5
    apply a4
    simp
    rcases h5 with ⟨h6, h7⟩ | ⟨h6, h7, h8⟩
    · left; exact ⟨h6, h7⟩
    · right; exact ⟨⟨h6, h7⟩, h8⟩
theorem fault_eq {d p s t k : Int} {b : Bool} (h0 : 0 ≤ d) (h1 : d < k) : reportE d p s t b k = rfaultE p s t b := by
  unfold reportE rfaultE timeB
  rw [if_neg (by simp; omega)]
  by_cases h2 : s < 1 ∨ 4 < s
  · rw [if_pos (by simpa using h2), if_pos h2]
  · rw [if_neg (by simpa using h2), if_neg h2]
    by_cases h3 : t < 0 ∨ 16777216 < t
    · rw [if_pos (by simp; omega), if_pos h3]
    · rw [if_neg (by simp; omega), if_neg h3]
      by_cases h4 : (s = 4 ∧ (p ≠ 0 ∨ b = true)) ∨ (s ≠ 4 ∧ p ≠ 1 ∧ p ≠ 2)
      · rw [if_pos h4, if_pos]
        simp
        rcases h4 with h | h
        · left; exact h
        · right; exact ⟨⟨h.1, h.2.1⟩, h.2.2⟩
      · rw [if_neg h4, if_neg]
        intro h
        apply h4
        simp at h
        rcases h with h | h
        · left; exact h
        · right; exact ⟨h.1.1, h.1.2, h.2⟩
theorem report_dev {d p s t k : Int} {b : Bool} (h : ¬ (0 ≤ d ∧ d < k)) : reportE d p s t b k = 8 := by
  unfold reportE
  rw [if_pos (by simp; omega)]
theorem rmark_eq {p s : Int} {b : Bool} (h1 : 1 ≤ s) (h2 : s ≤ 4) : rmarkI p s b = markI p s b := by
  obtain rfl | rfl | rfl | rfl : s = 1 ∨ s = 2 ∨ s = 3 ∨ s = 4 := by omega
  all_goals cases b <;> simp [rmarkI, markI] <;> omega
def rmerge (b : Bel) (r : Rep) : Bel :=
  if rvalidB b.t b.m b.n = true ∧ rrightB r.d r.p r.s r.t r.b = true ∧ ¬ (b.m ≠ 0 ∧ r.t < b.t) then
    (if b.m ≠ 0 ∧ r.t = b.t then ⟨b.t, bits .or .i64 b.m (rmarkI r.p r.s r.b), b.n⟩ else ⟨r.t, rmarkI r.p r.s r.b, b.n⟩)
  else b
theorem report_source {d p s t k : Int} {b : Bool} (h : reportE d p s t b k = 0) : 1 ≤ s ∧ s ≤ 4 := by
  unfold reportE at h
  split at h
  · cases h
  split at h
  · cases h
  · rename_i h2
    simp at h2
    omega
theorem rmerge_eq (b : Bel) (r : Rep) (hm : I64 b.m) : rmerge b r = merge b r := by
  unfold rmerge merge
  by_cases h1 : rvalidB b.t b.m b.n = true
  · by_cases h2 : rrightB r.d r.p r.s r.t r.b = true
    · have h3 := (rvalid_iff hm).1 h1
      have h4 := rright_iff.1 h2
      obtain ⟨s1, s2⟩ := report_source h4
      have hv : validE b.t b.m b.n = 0 ∧ reportE r.d r.p r.s r.t r.b 64 = 0 := ⟨h3, h4⟩
      rw [if_pos hv, rmark_eq s1 s2]
      by_cases h5 : b.m = 0
      · have c1 : rvalidB b.t b.m b.n = true ∧ rrightB r.d r.p r.s r.t r.b = true ∧ ¬ (b.m ≠ 0 ∧ r.t < b.t) := ⟨h1, h2, fun h => h.1 h5⟩
        have c2 : ¬ (b.m ≠ 0 ∧ r.t = b.t) := fun h => h.1 h5
        have c3 : b.m = 0 ∨ b.t < r.t := .inl h5
        rw [if_pos c1, if_neg c2, if_pos c3]
      · by_cases h6 : r.t < b.t
        · have c1 : ¬ (rvalidB b.t b.m b.n = true ∧ rrightB r.d r.p r.s r.t r.b = true ∧ ¬ (b.m ≠ 0 ∧ r.t < b.t)) := fun h => h.2.2 ⟨h5, h6⟩
          have c2 : ¬ (b.m = 0 ∨ b.t < r.t) := by omega
          have c3 : ¬ r.t = b.t := by omega
          rw [if_neg c1, if_neg c2, if_neg c3]
        · have c1 : rvalidB b.t b.m b.n = true ∧ rrightB r.d r.p r.s r.t r.b = true ∧ ¬ (b.m ≠ 0 ∧ r.t < b.t) := ⟨h1, h2, fun h => h6 h.2⟩
          rw [if_pos c1]
          by_cases h7 : r.t = b.t
          · have c2 : b.m ≠ 0 ∧ r.t = b.t := ⟨h5, h7⟩
            have c3 : ¬ (b.m = 0 ∨ b.t < r.t) := by omega
            rw [if_pos c2, if_neg c3, if_pos h7]
          · have c2 : ¬ (b.m ≠ 0 ∧ r.t = b.t) := fun h => h7 h.2
            have c3 : b.m = 0 ∨ b.t < r.t := .inr (by omega)
            rw [if_neg c2, if_pos c3]
    · have c1 : ¬ (rvalidB b.t b.m b.n = true ∧ rrightB r.d r.p r.s r.t r.b = true ∧ ¬ (b.m ≠ 0 ∧ r.t < b.t)) := fun h => h2 h.2.1
      have c2 : ¬ (validE b.t b.m b.n = 0 ∧ reportE r.d r.p r.s r.t r.b 64 = 0) := fun h => h2 (rright_iff.2 h.2)
      rw [if_neg c1, if_neg c2]
  · have c1 : ¬ (rvalidB b.t b.m b.n = true ∧ rrightB r.d r.p r.s r.t r.b = true ∧ ¬ (b.m ≠ 0 ∧ r.t < b.t)) := fun h => h1 h.1
    have c2 : ¬ (validE b.t b.m b.n = 0 ∧ reportE r.d r.p r.s r.t r.b 64 = 0) := fun h => h1 ((rvalid_iff hm).2 h.1)
    rw [if_neg c1, if_neg c2]
/-- A merge leaves good beliefs good. -/
theorem merge_valid {b : Bel} {r : Rep} (hm : I64 b.m) (h : validE b.t b.m b.n = 0) : validE (merge b r).t (merge b r).m (merge b r).n = 0 ∧ I64 (merge b r).m := by
  unfold merge
  split
  · rename_i h2
    have hv := (rvalid_iff hm).2 h
    simp [rvalidB] at hv
    obtain ⟨s1, s2⟩ := report_source h2.2
    have hr := rright_iff.2 h2.2
    simp [rrightB, rfaultE] at hr
    have hk : 0 ≤ markI r.p r.s r.b ∧ markI r.p r.s r.b ≤ 1023 := by
      obtain ⟨p0, p1⟩ := report_pos h2.2
      unfold markI
      (repeat' split) <;> omega
    have ht : 0 ≤ r.t ∧ r.t ≤ 16777216 := by
      have := hr.2.2
      (repeat' split at this) <;> first | omega | cases this
    split
    · exact ⟨valid_good ht.1 ht.2 hk.1 hk.2 (by simp only; omega) (by simp only; omega), by unfold I64; simp only; omega⟩
    · split
      · obtain ⟨a, ha⟩ := Int.eq_ofNat_of_zero_le hv.2.2.1
        obtain ⟨c, hc⟩ := Int.eq_ofNat_of_zero_le hk.1
        simp only
        rw [ha, hc, bits_or_eq a c (by omega) (by omega)]
        have hx : a ||| c < 2 ^ 10 := Nat.or_lt_two_pow (by omega) (by omega)
        exact ⟨valid_good hv.1 hv.2.1 (by omega) (by omega) (by omega) (by omega), by unfold I64; omega⟩
      · exact ⟨h, hm⟩
  · exact ⟨h, hm⟩
def GoodL (L : List Bel) : Prop := (∀ b ∈ L, I64 b.m) ∧ L.length ≤ 64 ∧ firstE L = 0
theorem firstE_iff : ∀ L : List Bel, firstE L = 0 ↔ ∀ b ∈ L, validE b.t b.m b.n = 0
  | [] => by simp [firstE]
  | b :: L => by
    have := firstE_iff L
    rw [firstE]
    by_cases h : validE b.t b.m b.n = 0
    · simp [h, this]
    · simp [h]
theorem checkE_iff (L : List Bel) : checkE L = 0 ↔ L.length ≤ 64 ∧ firstE L = 0 := by
  unfold checkE
  split
  · constructor
    · intro h; cases h
    · intro h; omega
  · constructor
    · intro h; exact ⟨by omega, h⟩
    · intro h; exact h.2
theorem stepA_good {L : List Bel} {N k : Int} {r : Rep} (h : GoodL L) : GoodL (stepA k (L, N) r).1 := by
  unfold stepA
  split
  · obtain ⟨h1, h2, h3⟩ := h
    have hx : I64 (L[r.d.toNat]?.getD ⟨0, 0, 0⟩).m ∧ validE (L[r.d.toNat]?.getD ⟨0, 0, 0⟩).t (L[r.d.toNat]?.getD ⟨0, 0, 0⟩).m (L[r.d.toNat]?.getD ⟨0, 0, 0⟩).n = 0 := by
      cases e : L[r.d.toNat]? with
      | none => exact ⟨by simp [I64], by decide +kernel⟩
      | some x =>
        have hxm : x ∈ L := List.mem_of_getElem? e
        exact ⟨h1 x hxm, (firstE_iff L).1 h3 x hxm⟩
    have hv := merge_valid (r := r) hx.1 hx.2
    refine ⟨fun b hb => ?_, by simpa using h2, (firstE_iff _).2 fun b hb => ?_⟩
    · rcases List.mem_or_eq_of_mem_set hb with hb | rfl
      · exact h1 b hb
      · exact hv.2
    · rcases List.mem_or_eq_of_mem_set hb with hb | rfl
      · exact (firstE_iff L).1 h3 b hb
      · exact hv.1
  · exact h
theorem foldA_good (k : Int) (R : List Rep) : ∀ x : List Bel × Int, GoodL x.1 → GoodL (R.foldl (stepA k) x).1 := by
  induction R with
  | nil => intro x h; exact h
  | cons r R ih => intro x h; rw [List.foldl_cons]; exact ih _ (stepA_good h)
end Go.Proofs.Ytmicckgfpodahaa
