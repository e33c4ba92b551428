/- The sanity check of the laws of the package permitofficelaw08 returns true and lays only new memory; conditions: none. -/
import Derived.Test.YtmicckgfpodahaaMerge
import Derived.Test.YtmicckgfpodahaaSure
set_option linter.unusedVariables false
set_option linter.unusedSimpArgs false
namespace Go.Proofs.Ytmicckgfpodahaa
open Go Go.RowKit
theorem aw1 : merge ⟨0, 0, 0⟩ ⟨0, 1, 2, 5, false⟩ = ⟨5, 1, 0⟩ := by decide +kernel
theorem aw2 : merge ⟨5, 1, 0⟩ ⟨0, 2, 3, 5, false⟩ = ⟨5, 129, 0⟩ := by decide +kernel
theorem aw3 : merge ⟨5, 129, 0⟩ ⟨0, 2, 2, 6, false⟩ = ⟨6, 2, 0⟩ := by decide +kernel
theorem aw4 : sure ⟨5, 129, 0⟩ 9 9 = (0, 0) := by decide +kernel
theorem aw5 : sure ⟨6, 2, 0⟩ 9 9 = (2, 2) := by decide +kernel
set_option maxHeartbeats 1000000 in
theorem awake_any (w : World) : Calls Try.prog 10 #[] w fun e w' => e = .returned (.bool true) ∧ Below w.heap.size w w' := by
  have m1 := fun W => merge_any ⟨0, 0, 0⟩ ⟨0, 1, 2, 5, false⟩ W
  have m2 := fun W => merge_any ⟨5, 1, 0⟩ ⟨0, 2, 3, 5, false⟩ W
  have m3 := fun W => merge_any ⟨5, 129, 0⟩ ⟨0, 2, 2, 6, false⟩ W
  have s1 := fun W => sure_any ⟨5, 129, 0⟩ 9 9 W
  have s2 := fun W => sure_any ⟨6, 2, 0⟩ 9 9 W
  rw [aw1] at m1
  rw [aw2] at m2
  rw [aw3] at m3
  rw [aw4] at s1
  rw [aw5] at s2
  have M1 := hide m1; have M2 := hide m2; have M3 := hide m3; have S1 := hide s1; have S2 := hide s2
  clear m1 m2 m3 s1 s2
  go_enter Try.func10, Try.ntmps10
  go_wp2_with fail
  refine (M1.out _).mono ?_
  rintro e w1 ⟨rfl, hb1⟩
  go_wp2_with fail
  refine (M2.out _).mono ?_
  rintro e w2 ⟨rfl, hb2⟩
  have k2 := Blk.new w2 30 #[.int .i64 5, .int .i64 129, .int .i64 0]
  obtain ⟨p1, p2, p3⟩ := k2.c3
  go_wp2_with fail
  refine (M3.out _).mono ?_
  rintro e w3 ⟨rfl, hb3⟩
  have hz3 := hb3.size
  simp at hz3
  have k3 := (k2.below hb3 (by simp)).alloc (.cells #[.int .i64 6, .int .i64 2, .int .i64 0] 30)
  have j3 := Blk.new w3 30 #[.int .i64 6, .int .i64 2, .int .i64 0]
  clear p1 p2 p3
  obtain ⟨p1, p2, p3⟩ := k3.c3
  go_wp2_with fail
  refine (S1.out _).mono ?_
  rintro e w4 ⟨rfl, hb4⟩
  have j4 := j3.below hb4 (by simp)
  clear p1 p2 p3
  obtain ⟨p1, p2, p3⟩ := j4.c3
  go_wp2_with fail
  refine (S2.out _).mono ?_
  rintro e w5 ⟨rfl, hb5⟩
  go_wp2_with fail
  go_ret
  refine ⟨rfl, ?_⟩
  have H2 : Below w.heap.size w w2 := hb1.trans (hb2.mono hb1.size)
  have hz2 := H2.size
  have H3 := (H2.alloc hz2 _).trans (hb3.mono (by simp; omega))
  have H4 := (H3.alloc H3.size _).trans (hb4.mono (by have := H3.size; simp; omega))
  exact H4.trans (hb5.mono H4.size)
end Go.Proofs.Ytmicckgfpodahaa
