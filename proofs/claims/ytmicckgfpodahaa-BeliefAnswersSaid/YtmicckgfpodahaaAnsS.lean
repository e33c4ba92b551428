/- permitofficeref08.Sure and Merge: each returns what the function of the package says; conditions: marks, now and limit are Go integers. -/
import Derived.Test.YtmicckgfpodahaaAnsP
set_option linter.unusedVariables false
set_option linter.unusedSimpArgs false
namespace Go.Proofs.Ytmicckgfpodahaa
open Go Go.RowKit
def rpick (K P : Int) : Int × Int := if K = 1 ∨ K = 2 then (2, K) else if K = 0 ∧ (P = 1 ∨ P = 2) then (1, P) else (0, 0)
theorem rpick_eq {K P : Int} (h : K = 0 ∨ K = 1 ∨ K = 2 ∨ K = 3) : rpick K P = pick K P := by
  unfold rpick pick
  rcases h with rfl | rfl | rfl | rfl
  · by_cases h3 : P = 3
    · subst h3; rfl
    · simp [h3]
  · rfl
  · rfl
  · rfl
set_option maxHeartbeats 1000000 in
theorem rsure_bad (t m n now limit : Int) (w : World) (h : rvalidB t m n = false) :
    Calls Try.prog 36 #[.agg #[.int .i64 t, .int .i64 m, .int .i64 n], .int .i64 now, .int .i64 limit] w fun e w' => e = .returned (.tuple #[.int .i64 0, .int .i64 0]) ∧ Below w.heap.size w w' := by
  go_enter Try.func36, Try.ntmps36
  go_wp2_with (go_at_call 45; refine (rvalid_any _ _ _ _).mono ?_; rintro e w1 ⟨rfl, hb1⟩)
  go_ret2
  exact ⟨rfl, ((Below.refl _ _).alloc (Nat.le_refl _) _).trans (hb1.mono (by simp))⟩
set_option maxHeartbeats 1000000 in
theorem rsure_excl (t m n now limit : Int) (w : World) (h : rvalidB t m n = true) (h2 : (bits .and .i64 m 960 != 0) = true) :
    Calls Try.prog 36 #[.agg #[.int .i64 t, .int .i64 m, .int .i64 n], .int .i64 now, .int .i64 limit] w fun e w' => e = .returned (.tuple #[.int .i64 0, .int .i64 0]) ∧ Below w.heap.size w w' := by
  go_enter Try.func36, Try.ntmps36
  go_wp2_with (go_at_call 45; refine (rvalid_any _ _ _ _).mono ?_; rintro e w1 ⟨rfl, hb1⟩; have kb1 := (Blk.new w _ _).below hb1 (by simp); obtain ⟨p1, p2, p3⟩ := kb1.c3)
  go_ret2
  exact ⟨rfl, ((Below.refl _ _).alloc (Nat.le_refl _) _).trans (hb1.mono (by simp))⟩
set_option maxHeartbeats 1000000 in
theorem rsure_fresh (t m n now limit : Int) (w : World) (h : rvalidB t m n = true) (h2 : (bits .and .i64 m 960 != 0) = false) (hf : rfreshB t now limit = true) :
    Calls Try.prog 36 #[.agg #[.int .i64 t, .int .i64 m, .int .i64 n], .int .i64 now, .int .i64 limit] w fun e w' =>
      e = .returned (.tuple #[.int .i64 (rpick (bits .or .i64 (bits .and .i64 m 3) (bits .and .i64 (m / 4) 3)) (bits .and .i64 (m / 16) 3)).1, .int .i64 (rpick (bits .or .i64 (bits .and .i64 m 3) (bits .and .i64 (m / 4) 3)) (bits .and .i64 (m / 16) 3)).2]) ∧ Below w.heap.size w w' := by
  go_enter Try.func36, Try.ntmps36
  go_wp2_with (go_at_call 45; refine (rvalid_any _ _ _ _).mono ?_; rintro e w1 ⟨rfl, hb1⟩; have kb1 := (Blk.new w _ _).below hb1 (by simp); obtain ⟨p1, p2, p3⟩ := kb1.c3; have hz1 : w.heap.size + 1 ≤ w1.heap.size := (by have := hb1.size; simpa using this))
  go_quiet (fail)
  have H0 : Below w.heap.size w w1 := ((Below.refl _ _).alloc (Nat.le_refl _) _).trans (hb1.mono (by simp))
  go_wp2_with (go_at_call 48; refine (rfresh_any _ _ _ _).mono ?_; rintro e w2 ⟨rfl, rfl⟩)
  all_goals go_ret2
  all_goals refine ⟨?_, ⟨H0.os, H0.tape, H0.output, H0.size, H0.block⟩⟩
  all_goals simp_all [rpick]
set_option maxHeartbeats 1000000 in
theorem rsure_stale (t m n now limit : Int) (w : World) (h : rvalidB t m n = true) (h2 : (bits .and .i64 m 960 != 0) = false) (hf : rfreshB t now limit = false) :
    Calls Try.prog 36 #[.agg #[.int .i64 t, .int .i64 m, .int .i64 n], .int .i64 now, .int .i64 limit] w fun e w' =>
      e = .returned (.tuple #[.int .i64 (rpick (bits .and .i64 m 3) (bits .or .i64 (bits .and .i64 (m / 16) 3) (bits .and .i64 (m / 4) 3))).1, .int .i64 (rpick (bits .and .i64 m 3) (bits .or .i64 (bits .and .i64 (m / 16) 3) (bits .and .i64 (m / 4) 3))).2]) ∧ Below w.heap.size w w' := by
  go_enter Try.func36, Try.ntmps36
  go_wp2_with (go_at_call 45; refine (rvalid_any _ _ _ _).mono ?_; rintro e w1 ⟨rfl, hb1⟩; have kb1 := (Blk.new w _ _).below hb1 (by simp); obtain ⟨p1, p2, p3⟩ := kb1.c3; have hz1 : w.heap.size + 1 ≤ w1.heap.size := (by have := hb1.size; simpa using this))
  go_quiet (fail)
  have H0 : Below w.heap.size w w1 := ((Below.refl _ _).alloc (Nat.le_refl _) _).trans (hb1.mono (by simp))
  go_wp2_with (go_at_call 48; refine (rfresh_any _ _ _ _).mono ?_; rintro e w2 ⟨rfl, rfl⟩)
  all_goals go_ret2
  all_goals refine ⟨?_, ⟨H0.os, H0.tape, H0.output, H0.size, H0.block⟩⟩
  all_goals simp_all [rpick]
theorem bits4 : ∀ m : Fin 1024, (bits .and .i64 (m.val : Int) 3 = 0 ∨ bits .and .i64 (m.val : Int) 3 = 1 ∨ bits .and .i64 (m.val : Int) 3 = 2 ∨ bits .and .i64 (m.val : Int) 3 = 3) ∧
    (bits .or .i64 (bits .and .i64 (m.val : Int) 3) (bits .and .i64 ((m.val : Int) / 4) 3) = 0 ∨ bits .or .i64 (bits .and .i64 (m.val : Int) 3) (bits .and .i64 ((m.val : Int) / 4) 3) = 1 ∨ bits .or .i64 (bits .and .i64 (m.val : Int) 3) (bits .and .i64 ((m.val : Int) / 4) 3) = 2 ∨ bits .or .i64 (bits .and .i64 (m.val : Int) 3) (bits .and .i64 ((m.val : Int) / 4) 3) = 3) := by decide +kernel
theorem rsure_any (b : Bel) (now limit : Int) (w : World) (hm : I64 b.m) (hn : I64 now) (hl : I64 limit) :
    Calls Try.prog 36 #[.agg #[.int .i64 b.t, .int .i64 b.m, .int .i64 b.n], .int .i64 now, .int .i64 limit] w fun e w' =>
      e = .returned (.tuple #[.int .i64 (sure b now limit).1, .int .i64 (sure b now limit).2]) ∧ Below w.heap.size w w' := by
  rw [← rsure_eq b now limit hm hn hl]
  unfold rsure
  by_cases h : rvalidB b.t b.m b.n = true
  · have hv := h
    simp [rvalidB] at hv
    obtain ⟨a, ha⟩ := Int.eq_ofNat_of_zero_le hv.2.2.1
    have hb := bits4 ⟨a, by omega⟩
    simp only at hb
    rw [← ha] at hb
    by_cases h2 : bits .and .i64 b.m 960 = 0
    · rw [if_pos ⟨h, h2⟩]
      by_cases hf : rfreshB b.t now limit = true
      · rw [if_pos hf, ← rpick_eq hb.2]; exact rsure_fresh b.t b.m b.n now limit w h (by simp [h2]) hf
      · rw [if_neg hf, ← rpick_eq hb.1]; exact rsure_stale b.t b.m b.n now limit w h (by simp [h2]) (by simpa using hf)
    · rw [if_neg (fun h3 => h2 h3.2)]; exact rsure_excl b.t b.m b.n now limit w h (by simp [h2])
  · rw [if_neg (fun h3 => h h3.1)]; exact rsure_bad b.t b.m b.n now limit w (by simpa using h)
set_option maxHeartbeats 1000000 in
theorem rmerge_bad1 (b : Bel) (r : Rep) (w : World) (h : rvalidB b.t b.m b.n = false) :
    Calls Try.prog 47 #[.agg #[.int .i64 b.t, .int .i64 b.m, .int .i64 b.n], .agg #[.int .i64 r.d, .int .i64 r.p, .int .i64 r.s, .int .i64 r.t, .bool r.b]] w fun e w' =>
      e = .returned (.agg #[.int .i64 b.t, .int .i64 b.m, .int .i64 b.n]) ∧ Below w.heap.size w w' := by
  go_enter Try.func47, Try.ntmps47
  go_wp2_with (first
    | (go_at_call 45; refine (rvalid_any _ _ _ _).mono ?_; rintro e w1 ⟨rfl, hb1⟩; have kb1 := (((Blk.new w _ _).alloc _).alloc _).below hb1 (by simp <;> omega); have kr1 := (Blk.alloc (Blk.newAt (n := w.heap.size + 1) _ _ _ (by simp)) _).below hb1 (by simp); have ko1 := (Blk.newAt (n := w.heap.size + 2) _ _ _ (by simp)).below hb1 (by simp); obtain ⟨p1, p2, p3⟩ := kb1.c3; obtain ⟨p4, p5, p6, p7, p8⟩ := kr1.c5; obtain ⟨p9, p10, p11⟩ := ko1.c3; obtain ⟨q1, q2, q3⟩ := kb1.f3; obtain ⟨q4, q5, q6⟩ := ko1.f3; have hz1 : w.heap.size + 3 ≤ w1.heap.size := (by have := hb1.size; simp at this; omega))
    | (go_at_call 50; refine (rright_any _ _ _ _ _ _).mono ?_; rintro e w2 ⟨rfl, hb2⟩; have kb2 := kb1.below hb2 (by omega); have kr2 := kr1.below hb2 (by omega); have ko2 := ko1.below hb2 (by omega); clear p1 p2 p3 p4 p5 p6 p7 p8 p9 p10 p11 q1 q2 q3 q4 q5 q6; obtain ⟨p1, p2, p3⟩ := kb2.c3; obtain ⟨p4, p5, p6, p7, p8⟩ := kr2.c5; obtain ⟨p9, p10, p11⟩ := ko2.c3; obtain ⟨q1, q2, q3⟩ := kb2.f3; obtain ⟨q4, q5, q6⟩ := ko2.f3; have hz2 : w1.heap.size ≤ w2.heap.size := hb2.size))
  exact bodyPost_ret (v := .agg #[.int .i64 b.t, .int .i64 b.m, .int .i64 b.n]) (by simp [results, Try.results47, go_sem, p1, p2, p3, p9, p10, p11, q4, q5, q6]) rfl ⟨rfl, by
    (repeat (first | exact Below.refl _ _ | (refine Below.setCell ?_ (by simp <;> omega) _) | (refine Below.drew ?_) | (refine Below.alloc ?_ (by simp <;> omega) _) | (refine Below.trans ?_ (Below.mono hb1 (by simp <;> omega)))))⟩
set_option maxHeartbeats 1000000 in
theorem rmerge_bad2 (b : Bel) (r : Rep) (w : World) (h : rvalidB b.t b.m b.n = true) (h2 : rrightB r.d r.p r.s r.t r.b = false) :
    Calls Try.prog 47 #[.agg #[.int .i64 b.t, .int .i64 b.m, .int .i64 b.n], .agg #[.int .i64 r.d, .int .i64 r.p, .int .i64 r.s, .int .i64 r.t, .bool r.b]] w fun e w' =>
      e = .returned (.agg #[.int .i64 b.t, .int .i64 b.m, .int .i64 b.n]) ∧ Below w.heap.size w w' := by
  go_enter Try.func47, Try.ntmps47
  go_wp2_with (first
    | (go_at_call 45; refine (rvalid_any _ _ _ _).mono ?_; rintro e w1 ⟨rfl, hb1⟩; have kb1 := (((Blk.new w _ _).alloc _).alloc _).below hb1 (by simp <;> omega); have kr1 := (Blk.alloc (Blk.newAt (n := w.heap.size + 1) _ _ _ (by simp)) _).below hb1 (by simp); have ko1 := (Blk.newAt (n := w.heap.size + 2) _ _ _ (by simp)).below hb1 (by simp); obtain ⟨p1, p2, p3⟩ := kb1.c3; obtain ⟨p4, p5, p6, p7, p8⟩ := kr1.c5; obtain ⟨p9, p10, p11⟩ := ko1.c3; obtain ⟨q1, q2, q3⟩ := kb1.f3; obtain ⟨q4, q5, q6⟩ := ko1.f3; have hz1 : w.heap.size + 3 ≤ w1.heap.size := (by have := hb1.size; simp at this; omega))
    | (go_at_call 50; refine (rright_any _ _ _ _ _ _).mono ?_; rintro e w2 ⟨rfl, hb2⟩; have kb2 := kb1.below hb2 (by omega); have kr2 := kr1.below hb2 (by omega); have ko2 := ko1.below hb2 (by omega); clear p1 p2 p3 p4 p5 p6 p7 p8 p9 p10 p11 q1 q2 q3 q4 q5 q6; obtain ⟨p1, p2, p3⟩ := kb2.c3; obtain ⟨p4, p5, p6, p7, p8⟩ := kr2.c5; obtain ⟨p9, p10, p11⟩ := ko2.c3; obtain ⟨q1, q2, q3⟩ := kb2.f3; obtain ⟨q4, q5, q6⟩ := ko2.f3; have hz2 : w1.heap.size ≤ w2.heap.size := hb2.size))
  exact bodyPost_ret (v := .agg #[.int .i64 b.t, .int .i64 b.m, .int .i64 b.n]) (by simp [results, Try.results47, go_sem, p1, p2, p3, p9, p10, p11, q4, q5, q6]) rfl ⟨rfl, by
    (repeat (first | exact Below.refl _ _ | (refine Below.setCell ?_ (by simp <;> omega) _) | (refine Below.drew ?_) | (refine Below.alloc ?_ (by simp <;> omega) _) | (refine Below.trans ?_ (Below.mono hb1 (by simp <;> omega))) | (refine Below.trans ?_ (Below.mono hb2 (by omega)))))⟩
set_option maxHeartbeats 1000000 in
theorem rmerge_old (b : Bel) (r : Rep) (w : World) (h : rvalidB b.t b.m b.n = true) (h2 : rrightB r.d r.p r.s r.t r.b = true) (hm : (b.m != 0) = true) (ht : r.t < b.t) :
    Calls Try.prog 47 #[.agg #[.int .i64 b.t, .int .i64 b.m, .int .i64 b.n], .agg #[.int .i64 r.d, .int .i64 r.p, .int .i64 r.s, .int .i64 r.t, .bool r.b]] w fun e w' =>
      e = .returned (.agg #[.int .i64 b.t, .int .i64 b.m, .int .i64 b.n]) ∧ Below w.heap.size w w' := by
  go_enter Try.func47, Try.ntmps47
  go_wp2_with (first
    | (go_at_call 45; refine (rvalid_any _ _ _ _).mono ?_; rintro e w1 ⟨rfl, hb1⟩; have kb1 := (((Blk.new w _ _).alloc _).alloc _).below hb1 (by simp <;> omega); have kr1 := (Blk.alloc (Blk.newAt (n := w.heap.size + 1) _ _ _ (by simp)) _).below hb1 (by simp); have ko1 := (Blk.newAt (n := w.heap.size + 2) _ _ _ (by simp)).below hb1 (by simp); obtain ⟨p1, p2, p3⟩ := kb1.c3; obtain ⟨p4, p5, p6, p7, p8⟩ := kr1.c5; obtain ⟨p9, p10, p11⟩ := ko1.c3; obtain ⟨q1, q2, q3⟩ := kb1.f3; obtain ⟨q4, q5, q6⟩ := ko1.f3; have hz1 : w.heap.size + 3 ≤ w1.heap.size := (by have := hb1.size; simp at this; omega))
    | (go_at_call 50; refine (rright_any _ _ _ _ _ _).mono ?_; rintro e w2 ⟨rfl, hb2⟩; have kb2 := kb1.below hb2 (by omega); have kr2 := kr1.below hb2 (by omega); have ko2 := ko1.below hb2 (by omega); clear p1 p2 p3 p4 p5 p6 p7 p8 p9 p10 p11 q1 q2 q3 q4 q5 q6; obtain ⟨p1, p2, p3⟩ := kb2.c3; obtain ⟨p4, p5, p6, p7, p8⟩ := kr2.c5; obtain ⟨p9, p10, p11⟩ := ko2.c3; obtain ⟨q1, q2, q3⟩ := kb2.f3; obtain ⟨q4, q5, q6⟩ := ko2.f3; have hz2 : w1.heap.size ≤ w2.heap.size := hb2.size))
  exact bodyPost_ret (v := .agg #[.int .i64 b.t, .int .i64 b.m, .int .i64 b.n]) (by simp [results, Try.results47, go_sem, p1, p2, p3, p9, p10, p11, q4, q5, q6]) rfl ⟨rfl, by
    (repeat (first | exact Below.refl _ _ | (refine Below.setCell ?_ (by simp <;> omega) _) | (refine Below.drew ?_) | (refine Below.alloc ?_ (by simp <;> omega) _) | (refine Below.trans ?_ (Below.mono hb1 (by simp <;> omega))) | (refine Below.trans ?_ (Below.mono hb2 (by omega)))))⟩
set_option maxHeartbeats 1000000 in
theorem rmerge_new (b : Bel) (r : Rep) (w : World) (h : rvalidB b.t b.m b.n = true) (h2 : rrightB r.d r.p r.s r.t r.b = true) (hp : 0 ≤ r.p ∧ r.p ≤ 3) (hm : (b.m != 0) = false) :
    Calls Try.prog 47 #[.agg #[.int .i64 b.t, .int .i64 b.m, .int .i64 b.n], .agg #[.int .i64 r.d, .int .i64 r.p, .int .i64 r.s, .int .i64 r.t, .bool r.b]] w fun e w' =>
      e = .returned (.agg #[.int .i64 r.t, .int .i64 (rmarkI r.p r.s r.b), .int .i64 b.n]) ∧ Below w.heap.size w w' := by
  go_enter Try.func47, Try.ntmps47
  go_wp2_with (first
    | (go_at_call 45; refine (rvalid_any _ _ _ _).mono ?_; rintro e w1 ⟨rfl, hb1⟩; have kb1 := (((Blk.new w _ _).alloc _).alloc _).below hb1 (by simp <;> omega); have kr1 := (Blk.alloc (Blk.newAt (n := w.heap.size + 1) _ _ _ (by simp)) _).below hb1 (by simp); have ko1 := (Blk.newAt (n := w.heap.size + 2) _ _ _ (by simp)).below hb1 (by simp); obtain ⟨p1, p2, p3⟩ := kb1.c3; obtain ⟨p4, p5, p6, p7, p8⟩ := kr1.c5; obtain ⟨p9, p10, p11⟩ := ko1.c3; obtain ⟨q1, q2, q3⟩ := kb1.f3; obtain ⟨q4, q5, q6⟩ := ko1.f3; have hz1 : w.heap.size + 3 ≤ w1.heap.size := (by have := hb1.size; simp at this; omega))
    | (go_at_call 50; refine (rright_any _ _ _ _ _ _).mono ?_; rintro e w2 ⟨rfl, hb2⟩; have kb2 := kb1.below hb2 (by omega); have kr2 := kr1.below hb2 (by omega); have ko2 := ko1.below hb2 (by omega); clear p1 p2 p3 p4 p5 p6 p7 p8 p9 p10 p11 q1 q2 q3 q4 q5 q6; obtain ⟨p1, p2, p3⟩ := kb2.c3; obtain ⟨p4, p5, p6, p7, p8⟩ := kr2.c5; obtain ⟨p9, p10, p11⟩ := ko2.c3; obtain ⟨q1, q2, q3⟩ := kb2.f3; obtain ⟨q4, q5, q6⟩ := ko2.f3; have hz2 : w1.heap.size ≤ w2.heap.size := hb2.size))
  go_region_with (go_at_call 51; refine (rmark_any _ _ _ _ _ _ hp.1 hp.2).mono ?_; rintro e w3 ⟨rfl, hb3⟩; have kb3 := (Blk.drew kb2).below hb3 (by simp <;> omega); have kr3 := (Blk.drew kr2).below hb3 (by simp <;> omega); have ko3 := (Blk.drew ko2).below hb3 (by simp <;> omega); clear p1 p2 p3 p4 p5 p6 p7 p8 p9 p10 p11 q1 q2 q3 q4 q5 q6; obtain ⟨p1, p2, p3⟩ := kb3.c3; obtain ⟨p4, p5, p6, p7, p8⟩ := kr3.c5; obtain ⟨p9, p10, p11⟩ := ko3.c3; obtain ⟨q1, q2, q3⟩ := kb3.f3; obtain ⟨q4, q5, q6⟩ := ko3.f3)
  all_goals go_wp2
  all_goals exact bodyPost_ret (v := .agg #[.int .i64 r.t, .int .i64 (rmarkI r.p r.s r.b), .int .i64 b.n]) (by simp [results, Try.results47, go_sem, p1, p2, p3, p9, p10, p11, q4, q5, q6]) rfl ⟨rfl, by
    (repeat (first | exact Below.refl _ _ | (refine Below.setCell ?_ (by simp <;> omega) _) | (refine Below.drew ?_) | (refine Below.alloc ?_ (by simp <;> omega) _) | (refine Below.trans ?_ (Below.mono hb1 (by simp <;> omega))) | (refine Below.trans ?_ (Below.mono hb2 (by omega))) | (refine Below.trans ?_ (Below.mono hb3 (by simp <;> omega)))))⟩
set_option maxHeartbeats 1000000 in
theorem rmerge_later (b : Bel) (r : Rep) (w : World) (h : rvalidB b.t b.m b.n = true) (h2 : rrightB r.d r.p r.s r.t r.b = true) (hp : 0 ≤ r.p ∧ r.p ≤ 3) (hm : (b.m != 0) = true) (ht : ¬ r.t < b.t) (ht2 : (r.t == b.t) = false) :
    Calls Try.prog 47 #[.agg #[.int .i64 b.t, .int .i64 b.m, .int .i64 b.n], .agg #[.int .i64 r.d, .int .i64 r.p, .int .i64 r.s, .int .i64 r.t, .bool r.b]] w fun e w' =>
      e = .returned (.agg #[.int .i64 r.t, .int .i64 (rmarkI r.p r.s r.b), .int .i64 b.n]) ∧ Below w.heap.size w w' := by
  go_enter Try.func47, Try.ntmps47
  go_wp2_with (first
    | (go_at_call 45; refine (rvalid_any _ _ _ _).mono ?_; rintro e w1 ⟨rfl, hb1⟩; have kb1 := (((Blk.new w _ _).alloc _).alloc _).below hb1 (by simp <;> omega); have kr1 := (Blk.alloc (Blk.newAt (n := w.heap.size + 1) _ _ _ (by simp)) _).below hb1 (by simp); have ko1 := (Blk.newAt (n := w.heap.size + 2) _ _ _ (by simp)).below hb1 (by simp); obtain ⟨p1, p2, p3⟩ := kb1.c3; obtain ⟨p4, p5, p6, p7, p8⟩ := kr1.c5; obtain ⟨p9, p10, p11⟩ := ko1.c3; obtain ⟨q1, q2, q3⟩ := kb1.f3; obtain ⟨q4, q5, q6⟩ := ko1.f3; have hz1 : w.heap.size + 3 ≤ w1.heap.size := (by have := hb1.size; simp at this; omega))
    | (go_at_call 50; refine (rright_any _ _ _ _ _ _).mono ?_; rintro e w2 ⟨rfl, hb2⟩; have kb2 := kb1.below hb2 (by omega); have kr2 := kr1.below hb2 (by omega); have ko2 := ko1.below hb2 (by omega); clear p1 p2 p3 p4 p5 p6 p7 p8 p9 p10 p11 q1 q2 q3 q4 q5 q6; obtain ⟨p1, p2, p3⟩ := kb2.c3; obtain ⟨p4, p5, p6, p7, p8⟩ := kr2.c5; obtain ⟨p9, p10, p11⟩ := ko2.c3; obtain ⟨q1, q2, q3⟩ := kb2.f3; obtain ⟨q4, q5, q6⟩ := ko2.f3; have hz2 : w1.heap.size ≤ w2.heap.size := hb2.size))
  go_region_with (go_at_call 51; refine (rmark_any _ _ _ _ _ _ hp.1 hp.2).mono ?_; rintro e w3 ⟨rfl, hb3⟩; have kb3 := (Blk.drew kb2).below hb3 (by simp <;> omega); have kr3 := (Blk.drew kr2).below hb3 (by simp <;> omega); have ko3 := (Blk.drew ko2).below hb3 (by simp <;> omega); clear p1 p2 p3 p4 p5 p6 p7 p8 p9 p10 p11 q1 q2 q3 q4 q5 q6; obtain ⟨p1, p2, p3⟩ := kb3.c3; obtain ⟨p4, p5, p6, p7, p8⟩ := kr3.c5; obtain ⟨p9, p10, p11⟩ := ko3.c3; obtain ⟨q1, q2, q3⟩ := kb3.f3; obtain ⟨q4, q5, q6⟩ := ko3.f3)
  all_goals go_wp2
  all_goals exact bodyPost_ret (v := .agg #[.int .i64 r.t, .int .i64 (rmarkI r.p r.s r.b), .int .i64 b.n]) (by simp [results, Try.results47, go_sem, p1, p2, p3, p9, p10, p11, q4, q5, q6]) rfl ⟨rfl, by
    (repeat (first | exact Below.refl _ _ | (refine Below.setCell ?_ (by simp <;> omega) _) | (refine Below.drew ?_) | (refine Below.alloc ?_ (by simp <;> omega) _) | (refine Below.trans ?_ (Below.mono hb1 (by simp <;> omega))) | (refine Below.trans ?_ (Below.mono hb2 (by omega))) | (refine Below.trans ?_ (Below.mono hb3 (by simp <;> omega)))))⟩
set_option maxHeartbeats 1000000 in
theorem rmerge_same (b : Bel) (r : Rep) (w : World) (h : rvalidB b.t b.m b.n = true) (h2 : rrightB r.d r.p r.s r.t r.b = true) (hp : 0 ≤ r.p ∧ r.p ≤ 3) (hm : (b.m != 0) = true) (ht : ¬ r.t < b.t) (ht2 : (r.t == b.t) = true) :
    Calls Try.prog 47 #[.agg #[.int .i64 b.t, .int .i64 b.m, .int .i64 b.n], .agg #[.int .i64 r.d, .int .i64 r.p, .int .i64 r.s, .int .i64 r.t, .bool r.b]] w fun e w' =>
      e = .returned (.agg #[.int .i64 b.t, .int .i64 (bits .or .i64 b.m (rmarkI r.p r.s r.b)), .int .i64 b.n]) ∧ Below w.heap.size w w' := by
  go_enter Try.func47, Try.ntmps47
  go_wp2_with (first
    | (go_at_call 45; refine (rvalid_any _ _ _ _).mono ?_; rintro e w1 ⟨rfl, hb1⟩; have kb1 := (((Blk.new w _ _).alloc _).alloc _).below hb1 (by simp <;> omega); have kr1 := (Blk.alloc (Blk.newAt (n := w.heap.size + 1) _ _ _ (by simp)) _).below hb1 (by simp); have ko1 := (Blk.newAt (n := w.heap.size + 2) _ _ _ (by simp)).below hb1 (by simp); obtain ⟨p1, p2, p3⟩ := kb1.c3; obtain ⟨p4, p5, p6, p7, p8⟩ := kr1.c5; obtain ⟨p9, p10, p11⟩ := ko1.c3; obtain ⟨q1, q2, q3⟩ := kb1.f3; obtain ⟨q4, q5, q6⟩ := ko1.f3; have hz1 : w.heap.size + 3 ≤ w1.heap.size := (by have := hb1.size; simp at this; omega))
    | (go_at_call 50; refine (rright_any _ _ _ _ _ _).mono ?_; rintro e w2 ⟨rfl, hb2⟩; have kb2 := kb1.below hb2 (by omega); have kr2 := kr1.below hb2 (by omega); have ko2 := ko1.below hb2 (by omega); clear p1 p2 p3 p4 p5 p6 p7 p8 p9 p10 p11 q1 q2 q3 q4 q5 q6; obtain ⟨p1, p2, p3⟩ := kb2.c3; obtain ⟨p4, p5, p6, p7, p8⟩ := kr2.c5; obtain ⟨p9, p10, p11⟩ := ko2.c3; obtain ⟨q1, q2, q3⟩ := kb2.f3; obtain ⟨q4, q5, q6⟩ := ko2.f3; have hz2 : w1.heap.size ≤ w2.heap.size := hb2.size))
  go_region_with (go_at_call 51; refine (rmark_any _ _ _ _ _ _ hp.1 hp.2).mono ?_; rintro e w3 ⟨rfl, hb3⟩; have kb3 := (Blk.drew kb2).below hb3 (by simp <;> omega); have kr3 := (Blk.drew kr2).below hb3 (by simp <;> omega); have ko3 := (Blk.drew ko2).below hb3 (by simp <;> omega); clear p1 p2 p3 p4 p5 p6 p7 p8 p9 p10 p11 q1 q2 q3 q4 q5 q6; obtain ⟨p1, p2, p3⟩ := kb3.c3; obtain ⟨p4, p5, p6, p7, p8⟩ := kr3.c5; obtain ⟨p9, p10, p11⟩ := ko3.c3; obtain ⟨q1, q2, q3⟩ := kb3.f3; obtain ⟨q4, q5, q6⟩ := ko3.f3)
  all_goals go_wp2
  all_goals exact bodyPost_ret (v := .agg #[.int .i64 b.t, .int .i64 (bits .or .i64 b.m (rmarkI r.p r.s r.b)), .int .i64 b.n]) (by simp [results, Try.results47, go_sem, p1, p2, p3, p9, p10, p11, q4, q5, q6]) rfl ⟨rfl, by
    (repeat (first | exact Below.refl _ _ | (refine Below.setCell ?_ (by simp <;> omega) _) | (refine Below.drew ?_) | (refine Below.alloc ?_ (by simp <;> omega) _) | (refine Below.trans ?_ (Below.mono hb1 (by simp <;> omega))) | (refine Below.trans ?_ (Below.mono hb2 (by omega))) | (refine Below.trans ?_ (Below.mono hb3 (by simp <;> omega)))))⟩
theorem rmerge_any (b : Bel) (r : Rep) (w : World) (hI : I64 b.m) : Calls Try.prog 47 #[.agg #[.int .i64 b.t, .int .i64 b.m, .int .i64 b.n], .agg #[.int .i64 r.d, .int .i64 r.p, .int .i64 r.s, .int .i64 r.t, .bool r.b]] w fun e w' =>
      e = .returned (.agg #[.int .i64 (merge b r).t, .int .i64 (merge b r).m, .int .i64 (merge b r).n]) ∧ Below w.heap.size w w' := by
  rw [← rmerge_eq b r hI]
  by_cases h : rvalidB b.t b.m b.n = true
  · by_cases h2 : rrightB r.d r.p r.s r.t r.b = true
    · have hp := report_pos (rright_iff.1 h2)
      by_cases hm : b.m = 0
      · have e : rmerge b r = ⟨r.t, rmarkI r.p r.s r.b, b.n⟩ := by unfold rmerge; rw [if_pos ⟨h, h2, fun h3 => h3.1 hm⟩, if_neg (fun h3 => h3.1 hm)]
        rw [e]; exact rmerge_new b r w h h2 hp (by simp [hm])
      · by_cases ht : r.t < b.t
        · have e : rmerge b r = b := by unfold rmerge; rw [if_neg (fun h3 => h3.2.2 ⟨hm, ht⟩)]
          rw [e]; exact rmerge_old b r w h h2 (by simp [hm]) ht
        · by_cases ht2 : r.t = b.t
          · have e : rmerge b r = ⟨b.t, bits .or .i64 b.m (rmarkI r.p r.s r.b), b.n⟩ := by unfold rmerge; rw [if_pos ⟨h, h2, fun h3 => ht h3.2⟩, if_pos ⟨hm, ht2⟩]
            rw [e]; exact rmerge_same b r w h h2 hp (by simp [hm]) ht (by simp [ht2])
          · have e : rmerge b r = ⟨r.t, rmarkI r.p r.s r.b, b.n⟩ := by unfold rmerge; rw [if_pos ⟨h, h2, fun h3 => ht h3.2⟩, if_neg (fun h3 => ht2 h3.2)]
            rw [e]; exact rmerge_later b r w h h2 hp (by simp [hm]) ht (by simp [ht2])
    · have e : rmerge b r = b := by unfold rmerge; rw [if_neg (fun h3 => h2 h3.2.1)]
      rw [e]; exact rmerge_bad2 b r w h (by simpa using h2)
  · have e : rmerge b r = b := by unfold rmerge; rw [if_neg (fun h3 => h h3.1)]
    rw [e]; exact rmerge_bad1 b r w (by simpa using h)
end Go.Proofs.Ytmicckgfpodahaa
