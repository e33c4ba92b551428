/- belief.Merge and its reference: each returns what a plain function says and lays only new memory; conditions: none but the ranges of integers. -/
import Derived.Test.YtmicckgfpodahaaScal
import Derived.Deep.RegionWith
set_option linter.unusedVariables false
set_option linter.unusedSimpArgs false
namespace Go.Proofs.Ytmicckgfpodahaa
open Go Go.RowKit
theorem report_pos {d p s t : Int} {b : Bool} {k : Int} (h : reportE d p s t b k = 0) : 0 ≤ p ∧ p ≤ 3 := by
  unfold reportE at h
  (repeat' split at h) <;> simp_all
  by_cases h4 : s = 4
  · simp_all
  · rcases Decidable.em (p = 1) with h1 | h1 <;> rcases Decidable.em (p = 2) with h2 | h2 <;> simp_all
def merge (b : Bel) (r : Rep) : Bel :=
  if validE b.t b.m b.n = 0 ∧ reportE r.d r.p r.s r.t r.b 64 = 0 then
    (if b.m = 0 ∨ b.t < r.t then ⟨r.t, markI r.p r.s r.b, b.n⟩ else if r.t = b.t then ⟨b.t, bits .or .i64 b.m (markI r.p r.s r.b), b.n⟩ else b)
  else b
set_option maxHeartbeats 1000000 in
theorem merge_bad1 (b : Bel) (r : Rep) (w : World) (h : (validE b.t b.m b.n != 0) = true) :
    Calls Try.prog 14 #[.agg #[.int .i64 b.t, .int .i64 b.m, .int .i64 b.n], .agg #[.int .i64 r.d, .int .i64 r.p, .int .i64 r.s, .int .i64 r.t, .bool r.b]] w fun e w' =>
      e = .returned (.agg #[.int .i64 b.t, .int .i64 b.m, .int .i64 b.n]) ∧ Below w.heap.size w w' := by
  go_enter Try.func14, Try.ntmps14
  go_wp2_with (first
    | (go_at_call 37; refine (valid_any _ _ _ _).mono ?_; rintro e w1 ⟨rfl, hb1⟩; have kb1 := (((Blk.new w _ _).alloc _).alloc _).below hb1 (by simp <;> omega); have kr1 := (Blk.alloc (Blk.newAt (n := w.heap.size + 1) _ _ _ (by simp)) _).below hb1 (by simp); have ko1 := (Blk.newAt (n := w.heap.size + 2) _ _ _ (by simp)).below hb1 (by simp); obtain ⟨p1, p2, p3⟩ := kb1.c3; obtain ⟨p4, p5, p6, p7, p8⟩ := kr1.c5; obtain ⟨p9, p10, p11⟩ := ko1.c3; obtain ⟨q1, q2, q3⟩ := kb1.f3; obtain ⟨q4, q5, q6⟩ := ko1.f3; have hz1 : w.heap.size + 3 ≤ w1.heap.size := (by have := hb1.size; simp at this; omega))
    | (go_at_call 38; refine (report_any _ _ _ _ _ _ _).mono ?_; rintro e w2 ⟨rfl, hb2⟩; have kb2 := kb1.below hb2 (by omega); have kr2 := kr1.below hb2 (by omega); have ko2 := ko1.below hb2 (by omega); clear p1 p2 p3 p4 p5 p6 p7 p8 p9 p10 p11 q1 q2 q3 q4 q5 q6; obtain ⟨p1, p2, p3⟩ := kb2.c3; obtain ⟨p4, p5, p6, p7, p8⟩ := kr2.c5; obtain ⟨p9, p10, p11⟩ := ko2.c3; obtain ⟨q1, q2, q3⟩ := kb2.f3; obtain ⟨q4, q5, q6⟩ := ko2.f3; have hz2 : w1.heap.size ≤ w2.heap.size := hb2.size))
  exact bodyPost_ret (v := .agg #[.int .i64 b.t, .int .i64 b.m, .int .i64 b.n]) (by simp [results, Try.results14, go_sem, p1, p2, p3, p9, p10, p11, q4, q5, q6]) rfl ⟨rfl, by
    (repeat (first | exact Below.refl _ _ | (refine Below.setCell ?_ (by simp <;> omega) _) | (refine Below.drew ?_) | (refine Below.alloc ?_ (by simp <;> omega) _) | (refine Below.trans ?_ (Below.mono hb1 (by simp <;> omega)))))⟩
set_option maxHeartbeats 1000000 in
theorem merge_bad2 (b : Bel) (r : Rep) (w : World) (h : (validE b.t b.m b.n != 0) = false) (h2 : (reportE r.d r.p r.s r.t r.b 64 != 0) = true) :
    Calls Try.prog 14 #[.agg #[.int .i64 b.t, .int .i64 b.m, .int .i64 b.n], .agg #[.int .i64 r.d, .int .i64 r.p, .int .i64 r.s, .int .i64 r.t, .bool r.b]] w fun e w' =>
      e = .returned (.agg #[.int .i64 b.t, .int .i64 b.m, .int .i64 b.n]) ∧ Below w.heap.size w w' := by
  go_enter Try.func14, Try.ntmps14
  go_wp2_with (first
    | (go_at_call 37; refine (valid_any _ _ _ _).mono ?_; rintro e w1 ⟨rfl, hb1⟩; have kb1 := (((Blk.new w _ _).alloc _).alloc _).below hb1 (by simp <;> omega); have kr1 := (Blk.alloc (Blk.newAt (n := w.heap.size + 1) _ _ _ (by simp)) _).below hb1 (by simp); have ko1 := (Blk.newAt (n := w.heap.size + 2) _ _ _ (by simp)).below hb1 (by simp); obtain ⟨p1, p2, p3⟩ := kb1.c3; obtain ⟨p4, p5, p6, p7, p8⟩ := kr1.c5; obtain ⟨p9, p10, p11⟩ := ko1.c3; obtain ⟨q1, q2, q3⟩ := kb1.f3; obtain ⟨q4, q5, q6⟩ := ko1.f3; have hz1 : w.heap.size + 3 ≤ w1.heap.size := (by have := hb1.size; simp at this; omega))
    | (go_at_call 38; refine (report_any _ _ _ _ _ _ _).mono ?_; rintro e w2 ⟨rfl, hb2⟩; have kb2 := kb1.below hb2 (by omega); have kr2 := kr1.below hb2 (by omega); have ko2 := ko1.below hb2 (by omega); clear p1 p2 p3 p4 p5 p6 p7 p8 p9 p10 p11 q1 q2 q3 q4 q5 q6; obtain ⟨p1, p2, p3⟩ := kb2.c3; obtain ⟨p4, p5, p6, p7, p8⟩ := kr2.c5; obtain ⟨p9, p10, p11⟩ := ko2.c3; obtain ⟨q1, q2, q3⟩ := kb2.f3; obtain ⟨q4, q5, q6⟩ := ko2.f3; have hz2 : w1.heap.size ≤ w2.heap.size := hb2.size))
  exact bodyPost_ret (v := .agg #[.int .i64 b.t, .int .i64 b.m, .int .i64 b.n]) (by simp [results, Try.results14, go_sem, p1, p2, p3, p9, p10, p11, q4, q5, q6]) rfl ⟨rfl, by
    (repeat (first | exact Below.refl _ _ | (refine Below.setCell ?_ (by simp <;> omega) _) | (refine Below.drew ?_) | (refine Below.alloc ?_ (by simp <;> omega) _) | (refine Below.trans ?_ (Below.mono hb1 (by simp <;> omega))) | (refine Below.trans ?_ (Below.mono hb2 (by omega)))))⟩
set_option maxHeartbeats 1000000 in
theorem merge_new (b : Bel) (r : Rep) (w : World) (h : (validE b.t b.m b.n != 0) = false) (h2 : (reportE r.d r.p r.s r.t r.b 64 != 0) = false) (hp : 0 ≤ r.p ∧ r.p ≤ 3) (hm : (b.m == 0) = true) :
    Calls Try.prog 14 #[.agg #[.int .i64 b.t, .int .i64 b.m, .int .i64 b.n], .agg #[.int .i64 r.d, .int .i64 r.p, .int .i64 r.s, .int .i64 r.t, .bool r.b]] w fun e w' =>
      e = .returned (.agg #[.int .i64 r.t, .int .i64 (markI r.p r.s r.b), .int .i64 b.n]) ∧ Below w.heap.size w w' := by
  go_enter Try.func14, Try.ntmps14
  go_wp2_with (first
    | (go_at_call 37; refine (valid_any _ _ _ _).mono ?_; rintro e w1 ⟨rfl, hb1⟩; have kb1 := (((Blk.new w _ _).alloc _).alloc _).below hb1 (by simp <;> omega); have kr1 := (Blk.alloc (Blk.newAt (n := w.heap.size + 1) _ _ _ (by simp)) _).below hb1 (by simp); have ko1 := (Blk.newAt (n := w.heap.size + 2) _ _ _ (by simp)).below hb1 (by simp); obtain ⟨p1, p2, p3⟩ := kb1.c3; obtain ⟨p4, p5, p6, p7, p8⟩ := kr1.c5; obtain ⟨p9, p10, p11⟩ := ko1.c3; obtain ⟨q1, q2, q3⟩ := kb1.f3; obtain ⟨q4, q5, q6⟩ := ko1.f3; have hz1 : w.heap.size + 3 ≤ w1.heap.size := (by have := hb1.size; simp at this; omega))
    | (go_at_call 38; refine (report_any _ _ _ _ _ _ _).mono ?_; rintro e w2 ⟨rfl, hb2⟩; have kb2 := kb1.below hb2 (by omega); have kr2 := kr1.below hb2 (by omega); have ko2 := ko1.below hb2 (by omega); clear p1 p2 p3 p4 p5 p6 p7 p8 p9 p10 p11 q1 q2 q3 q4 q5 q6; obtain ⟨p1, p2, p3⟩ := kb2.c3; obtain ⟨p4, p5, p6, p7, p8⟩ := kr2.c5; obtain ⟨p9, p10, p11⟩ := ko2.c3; obtain ⟨q1, q2, q3⟩ := kb2.f3; obtain ⟨q4, q5, q6⟩ := ko2.f3; have hz2 : w1.heap.size ≤ w2.heap.size := hb2.size))
  go_region_with (go_at_call 39; refine (mark_any _ _ _ _ _ _ hp.1 hp.2).mono ?_; rintro e w3 ⟨rfl, hb3⟩; have kb3 := (Blk.drew kb2).below hb3 (by simp <;> omega); have kr3 := (Blk.drew kr2).below hb3 (by simp <;> omega); have ko3 := (Blk.drew ko2).below hb3 (by simp <;> omega); clear p1 p2 p3 p4 p5 p6 p7 p8 p9 p10 p11 q1 q2 q3 q4 q5 q6; obtain ⟨p1, p2, p3⟩ := kb3.c3; obtain ⟨p4, p5, p6, p7, p8⟩ := kr3.c5; obtain ⟨p9, p10, p11⟩ := ko3.c3; obtain ⟨q1, q2, q3⟩ := kb3.f3; obtain ⟨q4, q5, q6⟩ := ko3.f3)
  all_goals go_wp2
  all_goals exact bodyPost_ret (v := .agg #[.int .i64 r.t, .int .i64 (markI r.p r.s r.b), .int .i64 b.n]) (by simp [results, Try.results14, go_sem, p1, p2, p3, p9, p10, p11, q4, q5, q6]) rfl ⟨rfl, by
    (repeat (first | exact Below.refl _ _ | (refine Below.setCell ?_ (by simp <;> omega) _) | (refine Below.drew ?_) | (refine Below.alloc ?_ (by simp <;> omega) _) | (refine Below.trans ?_ (Below.mono hb1 (by simp <;> omega))) | (refine Below.trans ?_ (Below.mono hb2 (by omega))) | (refine Below.trans ?_ (Below.mono hb3 (by simp <;> omega)))))⟩
set_option maxHeartbeats 1000000 in
theorem merge_later (b : Bel) (r : Rep) (w : World) (h : (validE b.t b.m b.n != 0) = false) (h2 : (reportE r.d r.p r.s r.t r.b 64 != 0) = false) (hp : 0 ≤ r.p ∧ r.p ≤ 3) (hm : (b.m == 0) = false) (ht : b.t < r.t) :
    Calls Try.prog 14 #[.agg #[.int .i64 b.t, .int .i64 b.m, .int .i64 b.n], .agg #[.int .i64 r.d, .int .i64 r.p, .int .i64 r.s, .int .i64 r.t, .bool r.b]] w fun e w' =>
      e = .returned (.agg #[.int .i64 r.t, .int .i64 (markI r.p r.s r.b), .int .i64 b.n]) ∧ Below w.heap.size w w' := by
  go_enter Try.func14, Try.ntmps14
  go_wp2_with (first
    | (go_at_call 37; refine (valid_any _ _ _ _).mono ?_; rintro e w1 ⟨rfl, hb1⟩; have kb1 := (((Blk.new w _ _).alloc _).alloc _).below hb1 (by simp <;> omega); have kr1 := (Blk.alloc (Blk.newAt (n := w.heap.size + 1) _ _ _ (by simp)) _).below hb1 (by simp); have ko1 := (Blk.newAt (n := w.heap.size + 2) _ _ _ (by simp)).below hb1 (by simp); obtain ⟨p1, p2, p3⟩ := kb1.c3; obtain ⟨p4, p5, p6, p7, p8⟩ := kr1.c5; obtain ⟨p9, p10, p11⟩ := ko1.c3; obtain ⟨q1, q2, q3⟩ := kb1.f3; obtain ⟨q4, q5, q6⟩ := ko1.f3; have hz1 : w.heap.size + 3 ≤ w1.heap.size := (by have := hb1.size; simp at this; omega))
    | (go_at_call 38; refine (report_any _ _ _ _ _ _ _).mono ?_; rintro e w2 ⟨rfl, hb2⟩; have kb2 := kb1.below hb2 (by omega); have kr2 := kr1.below hb2 (by omega); have ko2 := ko1.below hb2 (by omega); clear p1 p2 p3 p4 p5 p6 p7 p8 p9 p10 p11 q1 q2 q3 q4 q5 q6; obtain ⟨p1, p2, p3⟩ := kb2.c3; obtain ⟨p4, p5, p6, p7, p8⟩ := kr2.c5; obtain ⟨p9, p10, p11⟩ := ko2.c3; obtain ⟨q1, q2, q3⟩ := kb2.f3; obtain ⟨q4, q5, q6⟩ := ko2.f3; have hz2 : w1.heap.size ≤ w2.heap.size := hb2.size))
  go_region_with (go_at_call 39; refine (mark_any _ _ _ _ _ _ hp.1 hp.2).mono ?_; rintro e w3 ⟨rfl, hb3⟩; have kb3 := (Blk.drew kb2).below hb3 (by simp <;> omega); have kr3 := (Blk.drew kr2).below hb3 (by simp <;> omega); have ko3 := (Blk.drew ko2).below hb3 (by simp <;> omega); clear p1 p2 p3 p4 p5 p6 p7 p8 p9 p10 p11 q1 q2 q3 q4 q5 q6; obtain ⟨p1, p2, p3⟩ := kb3.c3; obtain ⟨p4, p5, p6, p7, p8⟩ := kr3.c5; obtain ⟨p9, p10, p11⟩ := ko3.c3; obtain ⟨q1, q2, q3⟩ := kb3.f3; obtain ⟨q4, q5, q6⟩ := ko3.f3)
  all_goals go_wp2
  all_goals exact bodyPost_ret (v := .agg #[.int .i64 r.t, .int .i64 (markI r.p r.s r.b), .int .i64 b.n]) (by simp [results, Try.results14, go_sem, p1, p2, p3, p9, p10, p11, q4, q5, q6]) rfl ⟨rfl, by
    (repeat (first | exact Below.refl _ _ | (refine Below.setCell ?_ (by simp <;> omega) _) | (refine Below.drew ?_) | (refine Below.alloc ?_ (by simp <;> omega) _) | (refine Below.trans ?_ (Below.mono hb1 (by simp <;> omega))) | (refine Below.trans ?_ (Below.mono hb2 (by omega))) | (refine Below.trans ?_ (Below.mono hb3 (by simp <;> omega)))))⟩
set_option maxHeartbeats 1000000 in
theorem merge_same (b : Bel) (r : Rep) (w : World) (h : (validE b.t b.m b.n != 0) = false) (h2 : (reportE r.d r.p r.s r.t r.b 64 != 0) = false) (hp : 0 ≤ r.p ∧ r.p ≤ 3) (hm : (b.m == 0) = false) (ht : ¬ b.t < r.t) (ht2 : (r.t == b.t) = true) :
    Calls Try.prog 14 #[.agg #[.int .i64 b.t, .int .i64 b.m, .int .i64 b.n], .agg #[.int .i64 r.d, .int .i64 r.p, .int .i64 r.s, .int .i64 r.t, .bool r.b]] w fun e w' =>
      e = .returned (.agg #[.int .i64 b.t, .int .i64 (bits .or .i64 b.m (markI r.p r.s r.b)), .int .i64 b.n]) ∧ Below w.heap.size w w' := by
  go_enter Try.func14, Try.ntmps14
  go_wp2_with (first
    | (go_at_call 37; refine (valid_any _ _ _ _).mono ?_; rintro e w1 ⟨rfl, hb1⟩; have kb1 := (((Blk.new w _ _).alloc _).alloc _).below hb1 (by simp <;> omega); have kr1 := (Blk.alloc (Blk.newAt (n := w.heap.size + 1) _ _ _ (by simp)) _).below hb1 (by simp); have ko1 := (Blk.newAt (n := w.heap.size + 2) _ _ _ (by simp)).below hb1 (by simp); obtain ⟨p1, p2, p3⟩ := kb1.c3; obtain ⟨p4, p5, p6, p7, p8⟩ := kr1.c5; obtain ⟨p9, p10, p11⟩ := ko1.c3; obtain ⟨q1, q2, q3⟩ := kb1.f3; obtain ⟨q4, q5, q6⟩ := ko1.f3; have hz1 : w.heap.size + 3 ≤ w1.heap.size := (by have := hb1.size; simp at this; omega))
    | (go_at_call 38; refine (report_any _ _ _ _ _ _ _).mono ?_; rintro e w2 ⟨rfl, hb2⟩; have kb2 := kb1.below hb2 (by omega); have kr2 := kr1.below hb2 (by omega); have ko2 := ko1.below hb2 (by omega); clear p1 p2 p3 p4 p5 p6 p7 p8 p9 p10 p11 q1 q2 q3 q4 q5 q6; obtain ⟨p1, p2, p3⟩ := kb2.c3; obtain ⟨p4, p5, p6, p7, p8⟩ := kr2.c5; obtain ⟨p9, p10, p11⟩ := ko2.c3; obtain ⟨q1, q2, q3⟩ := kb2.f3; obtain ⟨q4, q5, q6⟩ := ko2.f3; have hz2 : w1.heap.size ≤ w2.heap.size := hb2.size))
  go_region_with (go_at_call 39; refine (mark_any _ _ _ _ _ _ hp.1 hp.2).mono ?_; rintro e w3 ⟨rfl, hb3⟩; have kb3 := (Blk.drew kb2).below hb3 (by simp <;> omega); have kr3 := (Blk.drew kr2).below hb3 (by simp <;> omega); have ko3 := (Blk.drew ko2).below hb3 (by simp <;> omega); clear p1 p2 p3 p4 p5 p6 p7 p8 p9 p10 p11 q1 q2 q3 q4 q5 q6; obtain ⟨p1, p2, p3⟩ := kb3.c3; obtain ⟨p4, p5, p6, p7, p8⟩ := kr3.c5; obtain ⟨p9, p10, p11⟩ := ko3.c3; obtain ⟨q1, q2, q3⟩ := kb3.f3; obtain ⟨q4, q5, q6⟩ := ko3.f3)
  all_goals go_wp2
  all_goals exact bodyPost_ret (v := .agg #[.int .i64 b.t, .int .i64 (bits .or .i64 b.m (markI r.p r.s r.b)), .int .i64 b.n]) (by simp [results, Try.results14, go_sem, p1, p2, p3, p9, p10, p11, q4, q5, q6]) rfl ⟨rfl, by
    (repeat (first | exact Below.refl _ _ | (refine Below.setCell ?_ (by simp <;> omega) _) | (refine Below.drew ?_) | (refine Below.alloc ?_ (by simp <;> omega) _) | (refine Below.trans ?_ (Below.mono hb1 (by simp <;> omega))) | (refine Below.trans ?_ (Below.mono hb2 (by omega))) | (refine Below.trans ?_ (Below.mono hb3 (by simp <;> omega)))))⟩
set_option maxHeartbeats 1000000 in
theorem merge_old (b : Bel) (r : Rep) (w : World) (h : (validE b.t b.m b.n != 0) = false) (h2 : (reportE r.d r.p r.s r.t r.b 64 != 0) = false) (hm : (b.m == 0) = false) (ht : ¬ b.t < r.t) (ht2 : (r.t == b.t) = false) :
    Calls Try.prog 14 #[.agg #[.int .i64 b.t, .int .i64 b.m, .int .i64 b.n], .agg #[.int .i64 r.d, .int .i64 r.p, .int .i64 r.s, .int .i64 r.t, .bool r.b]] w fun e w' =>
      e = .returned (.agg #[.int .i64 b.t, .int .i64 b.m, .int .i64 b.n]) ∧ Below w.heap.size w w' := by
  go_enter Try.func14, Try.ntmps14
  go_wp2_with (first
    | (go_at_call 37; refine (valid_any _ _ _ _).mono ?_; rintro e w1 ⟨rfl, hb1⟩; have kb1 := (((Blk.new w _ _).alloc _).alloc _).below hb1 (by simp <;> omega); have kr1 := (Blk.alloc (Blk.newAt (n := w.heap.size + 1) _ _ _ (by simp)) _).below hb1 (by simp); have ko1 := (Blk.newAt (n := w.heap.size + 2) _ _ _ (by simp)).below hb1 (by simp); obtain ⟨p1, p2, p3⟩ := kb1.c3; obtain ⟨p4, p5, p6, p7, p8⟩ := kr1.c5; obtain ⟨p9, p10, p11⟩ := ko1.c3; obtain ⟨q1, q2, q3⟩ := kb1.f3; obtain ⟨q4, q5, q6⟩ := ko1.f3; have hz1 : w.heap.size + 3 ≤ w1.heap.size := (by have := hb1.size; simp at this; omega))
    | (go_at_call 38; refine (report_any _ _ _ _ _ _ _).mono ?_; rintro e w2 ⟨rfl, hb2⟩; have kb2 := kb1.below hb2 (by omega); have kr2 := kr1.below hb2 (by omega); have ko2 := ko1.below hb2 (by omega); clear p1 p2 p3 p4 p5 p6 p7 p8 p9 p10 p11 q1 q2 q3 q4 q5 q6; obtain ⟨p1, p2, p3⟩ := kb2.c3; obtain ⟨p4, p5, p6, p7, p8⟩ := kr2.c5; obtain ⟨p9, p10, p11⟩ := ko2.c3; obtain ⟨q1, q2, q3⟩ := kb2.f3; obtain ⟨q4, q5, q6⟩ := ko2.f3; have hz2 : w1.heap.size ≤ w2.heap.size := hb2.size))
  exact bodyPost_ret (v := .agg #[.int .i64 b.t, .int .i64 b.m, .int .i64 b.n]) (by simp [results, Try.results14, go_sem, p1, p2, p3, p9, p10, p11, q4, q5, q6]) rfl ⟨rfl, by
    (repeat (first | exact Below.refl _ _ | (refine Below.setCell ?_ (by simp <;> omega) _) | (refine Below.drew ?_) | (refine Below.alloc ?_ (by simp <;> omega) _) | (refine Below.trans ?_ (Below.mono hb1 (by simp <;> omega))) | (refine Below.trans ?_ (Below.mono hb2 (by omega)))))⟩
theorem merge_any (b : Bel) (r : Rep) (w : World) : Calls Try.prog 14 #[.agg #[.int .i64 b.t, .int .i64 b.m, .int .i64 b.n], .agg #[.int .i64 r.d, .int .i64 r.p, .int .i64 r.s, .int .i64 r.t, .bool r.b]] w fun e w' =>
      e = .returned (.agg #[.int .i64 (merge b r).t, .int .i64 (merge b r).m, .int .i64 (merge b r).n]) ∧ Below w.heap.size w w' := by
  by_cases h : validE b.t b.m b.n = 0
  · by_cases h2 : reportE r.d r.p r.s r.t r.b 64 = 0
    · have hp := report_pos h2
      by_cases hm : b.m = 0
      · have e : merge b r = ⟨r.t, markI r.p r.s r.b, b.n⟩ := by unfold merge; rw [if_pos ⟨h, h2⟩, if_pos (.inl hm)]
        rw [e]; exact merge_new b r w (by simp [h]) (by simp [h2]) hp (by simp [hm])
      · by_cases ht : b.t < r.t
        · have e : merge b r = ⟨r.t, markI r.p r.s r.b, b.n⟩ := by unfold merge; rw [if_pos ⟨h, h2⟩, if_pos (.inr ht)]
          rw [e]; exact merge_later b r w (by simp [h]) (by simp [h2]) hp (by simp [hm]) ht
        · by_cases ht2 : r.t = b.t
          · have e : merge b r = ⟨b.t, bits .or .i64 b.m (markI r.p r.s r.b), b.n⟩ := by unfold merge; rw [if_pos ⟨h, h2⟩, if_neg (by rintro (h3 | h3) <;> contradiction), if_pos ht2]
            rw [e]; exact merge_same b r w (by simp [h]) (by simp [h2]) hp (by simp [hm]) ht (by simp [ht2])
          · have e : merge b r = b := by unfold merge; rw [if_pos ⟨h, h2⟩, if_neg (by rintro (h3 | h3) <;> contradiction), if_neg ht2]
            rw [e]; exact merge_old b r w (by simp [h]) (by simp [h2]) (by simp [hm]) ht (by simp [ht2])
    · have e : merge b r = b := by simp [merge, h2]
      rw [e]; exact merge_bad2 b r w (by simp [h]) (by simp [h2])
  · have e : merge b r = b := by simp [merge, h]
    rw [e]; exact merge_bad1 b r w (by simp [h])
end Go.Proofs.Ytmicckgfpodahaa
