/- LexemeNumbers' walk: it returns true; conditions: the tables stand as the program's text lays them, integers are Go integers. -/
import Derived.Test.YtblopmoapfcfhaaDoorLexM
import Derived.Lib.ItoaLen
set_option linter.unusedVariables false
set_option linter.unusedSimpArgs false
namespace Go.Proofs.YtblopmoapfcfhaaDoor
open Go Go.RowKit
set_option maxRecDepth 100000 in
set_option maxHeartbeats 4000000 in
theorem numbers_any (n most : Int) (w : World) (hc : Cls w) (hp : Pow w) (hn : I64 n) (hm : I64 most) : Calls Tryd.prog 4 #[.int .i64 n, .int .i64 most] w fun e w' => e = .returned (.bool true) ∧ Below w.heap.size w w' := by
  have t1 := text_any n w hn hp
  obtain ⟨l, hl⟩ : ∃ l, Lib.itoa n = l := ⟨_, rfl⟩
  have hlen : l.length ≤ 21 := by rw [← hl]; exact Lib.itoa_length_le n hn.1 hn.2
  have hne : l ≠ [] := by rw [← hl]; exact itoa_ne n
  have hP : numP l most = if n < 0 then none else if n ≤ most then some n else none := by rw [← hl]; exact numP_itoa n most
  rw [hl] at t1
  obtain ⟨t, ht⟩ : ∃ t : ByteArray, ByteArray.mk l.toArray = t := ⟨_, rfl⟩
  have hts : t.size ≤ 21 := by rw [← ht]; show l.toArray.size ≤ 21; simpa using hlen
  have htd : t.data.toList = l := by rw [← ht]
  rw [ht] at t1
  have T1 := hide t1
  have n1 := fun W => number_any t most W (by simp only [maxLen]; omega) hm
  have n2 := fun W => number_any (⟨#[48]⟩ ++ t) most W (by rw [ByteArray.size_append]; show 1 + t.size ≤ maxLen; simp only [maxLen]; omega) hm
  have e2 : (ByteArray.mk #[48] ++ t).data.toList = 48 :: l := by rw [← htd]; simp
  rw [htd] at n1
  rw [e2, numP_zero l most hne] at n2
  have N1 := hide n1
  have N2 := hide n2
  have HP := hide hP
  have hcl := hc.lt
  have hpl := hp.lt
  clear t1 n1 n2 e2 hl hlen hne hP hn hm ht htd
  go_enter Tryd.func4, Tryd.ntmps4
  go_wp2_with fail
  refine T1.out.mono ?_
  rintro e w1 ⟨rfl, hb1⟩
  go_wp2_with fail
  refine (N1.out _).mono ?_
  rintro e w2 ⟨rfl, rfl⟩
  go_wp2_with fail
  refine (N2.out _).mono ?_
  rintro e w3 ⟨rfl, rfl⟩
  rw [HP.out]
  by_cases h0 : n < 0
  · rw [if_pos h0]
    go_wp2_with fail
    refine (awake_any _ (hc.below hb1 hcl) (hp.below hb1 hpl)).mono ?_
    rintro e w4 ⟨rfl, hb4⟩
    go_wp2_with fail
    go_ret
    exact ⟨rfl, hb1.trans (hb4.mono hb1.size)⟩
  · rw [if_neg h0]
    by_cases h1 : n ≤ most
    · rw [if_pos h1]
      go_wp2_with fail
      refine (awake_any _ (hc.below hb1 hcl) (hp.below hb1 hpl)).mono ?_
      rintro e w4 ⟨rfl, hb4⟩
      go_wp2_with fail
      go_ret
      exact ⟨rfl, hb1.trans (hb4.mono hb1.size)⟩
    · rw [if_neg h1]
      go_wp2_with fail
      refine (awake_any _ (hc.below hb1 hcl) (hp.below hb1 hpl)).mono ?_
      rintro e w4 ⟨rfl, hb4⟩
      go_wp2_with fail
      go_ret
      exact ⟨by show Ending.returned (Value.bool (!decide (n ≤ most))) = _; rw [decide_eq_false (by omega)]; rfl, hb1.trans (hb4.mono hb1.size)⟩
end Go.Proofs.YtblopmoapfcfhaaDoor
