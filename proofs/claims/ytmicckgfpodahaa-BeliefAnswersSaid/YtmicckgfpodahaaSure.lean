/- belief.Sure and its reference: each returns what a plain function says and lays only new memory; conditions: none. -/
import Derived.Test.YtmicckgfpodahaaScal
set_option linter.unusedVariables false
set_option linter.unusedSimpArgs false
namespace Go.Proofs.Ytmicckgfpodahaa
open Go Go.RowKit
set_option maxHeartbeats 1000000 in
theorem sure_bad (t m n now limit : Int) (w : World) (h : (validE t m n != 0) = true) :
    Calls Try.prog 15 #[.agg #[.int .i64 t, .int .i64 m, .int .i64 n], .int .i64 now, .int .i64 limit] w fun e w' => e = .returned (.tuple #[.int .i64 0, .int .i64 0]) ∧ Below w.heap.size w w' := by
  go_enter Try.func15, Try.ntmps15
  go_wp2_with (go_at_call 37; refine (valid_any _ _ _ _).mono ?_; rintro e w1 ⟨rfl, hb1⟩)
  go_ret2
  exact ⟨rfl, ((Below.refl _ _).alloc (Nat.le_refl _) _).trans (hb1.mono (by simp))⟩
set_option maxHeartbeats 1000000 in
theorem sure_excl (t m n now limit : Int) (w : World) (h : (validE t m n != 0) = false) (h2 : (bits .and .i64 m 960 != 0) = true) :
    Calls Try.prog 15 #[.agg #[.int .i64 t, .int .i64 m, .int .i64 n], .int .i64 now, .int .i64 limit] w fun e w' => e = .returned (.tuple #[.int .i64 0, .int .i64 0]) ∧ Below w.heap.size w w' := by
  go_enter Try.func15, Try.ntmps15
  go_wp2_with (go_at_call 37; refine (valid_any _ _ _ _).mono ?_; rintro e w1 ⟨rfl, hb1⟩; have kb1 := (Blk.new w _ _).below hb1 (by simp); obtain ⟨p1, p2, p3⟩ := kb1.c3)
  go_ret2
  exact ⟨rfl, ((Below.refl _ _).alloc (Nat.le_refl _) _).trans (hb1.mono (by simp))⟩
def pick (K P : Int) : Int × Int := if K = 3 then (0, 0) else if K = 1 ∨ K = 2 then (2, K) else if P = 3 then (0, 0) else if P = 1 ∨ P = 2 then (1, P) else (0, 0)
theorem idx0 (K P : Int) (w : World) : (Instr.index 71 (.agg #[.int .i64 K, .int .i64 2, .int .i64 P, .int .i64 1]) (.int .i64 0)).run Try.prog w = .ok (.agg #[.int .i64 K, .int .i64 2]) w := by kernel_rfl
theorem idx1 (K P : Int) (w : World) : (Instr.index 71 (.agg #[.int .i64 K, .int .i64 2, .int .i64 P, .int .i64 1]) (.int .i64 1)).run Try.prog w = .ok (.agg #[.int .i64 P, .int .i64 1]) w := by kernel_rfl
set_option maxHeartbeats 1000000 in
theorem sure_fresh (t m n now limit : Int) (w : World) (h : (validE t m n != 0) = false) (h2 : (bits .and .i64 m 960 != 0) = false) (hf : freshB now t limit = true) :
    Calls Try.prog 15 #[.agg #[.int .i64 t, .int .i64 m, .int .i64 n], .int .i64 now, .int .i64 limit] w fun e w' =>
      e = .returned (.tuple #[.int .i64 (pick (bits .or .i64 (bits .and .i64 m 3) (bits .and .i64 (m / 4) 3)) (bits .and .i64 (m / 16) 3)).1, .int .i64 (pick (bits .or .i64 (bits .and .i64 m 3) (bits .and .i64 (m / 4) 3)) (bits .and .i64 (m / 16) 3)).2]) ∧ Below w.heap.size w w' := by
  have i0 := idx0
  have i1 := idx1
  go_enter Try.func15, Try.ntmps15
  go_wp2_with (go_at_call 37; refine (valid_any _ _ _ _).mono ?_; rintro e w1 ⟨rfl, hb1⟩; have kb1 := (Blk.new w _ _).below hb1 (by simp); obtain ⟨p1, p2, p3⟩ := kb1.c3; have hz1 : w.heap.size + 1 ≤ w1.heap.size := (by have := hb1.size; simpa using this))
  go_quiet (fail)
  go_wp2_with (go_at_call 40; refine (fresh_any _ _ _ _).mono ?_; rintro e w2 ⟨rfl, rfl⟩)
  have H0 : Below w.heap.size w w1 := ((Below.refl _ _).alloc (Nat.le_refl _) _).trans (hb1.mono (by simp))
  clear hb1 p1 p2 p3 kb1
  go_loopw [50] (fun i wr => (i = .int .i64 0 ∨ (i = .int .i64 1 ∧ Hid ((bits .or .i64 (bits .and .i64 m 3) (bits .and .i64 (m / 4) 3)) ≠ 1 ∧ (bits .or .i64 (bits .and .i64 m 3) (bits .and .i64 (m / 4) 3)) ≠ 2 ∧ (bits .or .i64 (bits .and .i64 m 3) (bits .and .i64 (m / 4) 3)) ≠ 3)) ∨ (i = .int .i64 2 ∧ Hid (((bits .or .i64 (bits .and .i64 m 3) (bits .and .i64 (m / 4) 3)) ≠ 1 ∧ (bits .or .i64 (bits .and .i64 m 3) (bits .and .i64 (m / 4) 3)) ≠ 2 ∧ (bits .or .i64 (bits .and .i64 m 3) (bits .and .i64 (m / 4) 3)) ≠ 3) ∧ (bits .and .i64 (m / 16) 3) ≠ 1 ∧ (bits .and .i64 (m / 16) 3) ≠ 2 ∧ (bits .and .i64 (m / 16) 3) ≠ 3))) ∧ Below w.heap.size w wr) (fun i _ => (2 - intOf i).toNat)
  case atStart => exact ⟨.inl rfl, ⟨H0.os, H0.tape, H0.output, H0.size, H0.block⟩⟩
  case round =>
    obtain ⟨hi, hb⟩ := hrel
    have hzb := hb.size
    rcases hi with rfl | ⟨rfl, hK⟩ | ⟨rfl, hK⟩
    · go_wp2
      · have hk : ((bits .or .i64 (bits .and .i64 m 3) (bits .and .i64 (m / 4) 3)) == 3) = true := by assumption
        go_ret2
        exact ⟨by simp only [beq_iff_eq] at hk; simp [pick, hk], hb.alloc (by omega) _⟩
      · have hk : ((bits .or .i64 (bits .and .i64 m 3) (bits .and .i64 (m / 4) 3)) == 1) = true := by assumption
        go_quiet (fail)
        go_wp2
        go_ret2
        exact ⟨by simp only [beq_iff_eq] at hk; simp [pick, hk], below_drewN (hb.alloc (by omega) _) _⟩
      · have hk : ((bits .or .i64 (bits .and .i64 m 3) (bits .and .i64 (m / 4) 3)) == 2) = true := by assumption
        go_quiet (fail)
        go_wp2
        go_ret2
        exact ⟨by simp only [beq_iff_eq] at hk; simp [pick, hk], below_drewN (hb.alloc (by omega) _) _⟩
      · have k1 : ((bits .or .i64 (bits .and .i64 m 3) (bits .and .i64 (m / 4) 3)) == 1) = false := by assumption
        have k2 : ((bits .or .i64 (bits .and .i64 m 3) (bits .and .i64 (m / 4) 3)) == 2) = false := by assumption
        have k3 : ((bits .or .i64 (bits .and .i64 m 3) (bits .and .i64 (m / 4) 3)) == 3) = false := by assumption
        go_roundw
        case rel => exact ⟨.inr (.inl ⟨rfl, ⟨by simpa using k1, by simpa using k2, by simpa using k3⟩⟩), hb.alloc (by omega) _⟩
        case measure => simp [intOf]
    · have hK := hK
      go_wp2
      · have hk : ((bits .and .i64 (m / 16) 3) == 3) = true := by assumption
        go_ret2
        have hK := hK.out
        exact ⟨by simp only [beq_iff_eq] at hk; simp [pick, hk, hK], hb.alloc (by omega) _⟩
      · have hk : ((bits .and .i64 (m / 16) 3) == 1) = true := by assumption
        go_quiet (fail)
        go_wp2
        go_ret2
        have hK := hK.out
        exact ⟨by simp only [beq_iff_eq] at hk; simp [pick, hk, hK], below_drewN (hb.alloc (by omega) _) _⟩
      · have hk : ((bits .and .i64 (m / 16) 3) == 2) = true := by assumption
        go_quiet (fail)
        go_wp2
        go_ret2
        have hK := hK.out
        exact ⟨by simp only [beq_iff_eq] at hk; simp [pick, hk, hK], below_drewN (hb.alloc (by omega) _) _⟩
      · have k1 : ((bits .and .i64 (m / 16) 3) == 1) = false := by assumption
        have k2 : ((bits .and .i64 (m / 16) 3) == 2) = false := by assumption
        have k3 : ((bits .and .i64 (m / 16) 3) == 3) = false := by assumption
        go_roundw
        case rel => exact ⟨.inr (.inr ⟨rfl, ⟨hK.out, by simpa using k1, by simpa using k2, by simpa using k3⟩⟩), hb.alloc (by omega) _⟩
        case measure => simp [intOf]
    · go_wp2
      go_ret2
      have hK := hK.out
      exact ⟨by simp [pick, hK], hb⟩
set_option maxHeartbeats 1000000 in
theorem sure_stale (t m n now limit : Int) (w : World) (h : (validE t m n != 0) = false) (h2 : (bits .and .i64 m 960 != 0) = false) (hf : freshB now t limit = false) :
    Calls Try.prog 15 #[.agg #[.int .i64 t, .int .i64 m, .int .i64 n], .int .i64 now, .int .i64 limit] w fun e w' =>
      e = .returned (.tuple #[.int .i64 (pick (bits .and .i64 m 3) (bits .or .i64 (bits .and .i64 (m / 16) 3) (bits .and .i64 (m / 4) 3))).1, .int .i64 (pick (bits .and .i64 m 3) (bits .or .i64 (bits .and .i64 (m / 16) 3) (bits .and .i64 (m / 4) 3))).2]) ∧ Below w.heap.size w w' := by
  have i0 := idx0
  have i1 := idx1
  go_enter Try.func15, Try.ntmps15
  go_wp2_with (go_at_call 37; refine (valid_any _ _ _ _).mono ?_; rintro e w1 ⟨rfl, hb1⟩; have kb1 := (Blk.new w _ _).below hb1 (by simp); obtain ⟨p1, p2, p3⟩ := kb1.c3; have hz1 : w.heap.size + 1 ≤ w1.heap.size := (by have := hb1.size; simpa using this))
  go_quiet (fail)
  go_wp2_with (go_at_call 40; refine (fresh_any _ _ _ _).mono ?_; rintro e w2 ⟨rfl, rfl⟩)
  have H0 : Below w.heap.size w w1 := ((Below.refl _ _).alloc (Nat.le_refl _) _).trans (hb1.mono (by simp))
  clear hb1 p1 p2 p3 kb1
  go_loopw [50] (fun i wr => (i = .int .i64 0 ∨ (i = .int .i64 1 ∧ Hid ((bits .and .i64 m 3) ≠ 1 ∧ (bits .and .i64 m 3) ≠ 2 ∧ (bits .and .i64 m 3) ≠ 3)) ∨ (i = .int .i64 2 ∧ Hid (((bits .and .i64 m 3) ≠ 1 ∧ (bits .and .i64 m 3) ≠ 2 ∧ (bits .and .i64 m 3) ≠ 3) ∧ (bits .or .i64 (bits .and .i64 (m / 16) 3) (bits .and .i64 (m / 4) 3)) ≠ 1 ∧ (bits .or .i64 (bits .and .i64 (m / 16) 3) (bits .and .i64 (m / 4) 3)) ≠ 2 ∧ (bits .or .i64 (bits .and .i64 (m / 16) 3) (bits .and .i64 (m / 4) 3)) ≠ 3))) ∧ Below w.heap.size w wr) (fun i _ => (2 - intOf i).toNat)
  case atStart => exact ⟨.inl rfl, ⟨H0.os, H0.tape, H0.output, H0.size, H0.block⟩⟩
  case round =>
    obtain ⟨hi, hb⟩ := hrel
    have hzb := hb.size
    rcases hi with rfl | ⟨rfl, hK⟩ | ⟨rfl, hK⟩
    · go_wp2
      · have hk : ((bits .and .i64 m 3) == 3) = true := by assumption
        go_ret2
        exact ⟨by simp only [beq_iff_eq] at hk; simp [pick, hk], hb.alloc (by omega) _⟩
      · have hk : ((bits .and .i64 m 3) == 1) = true := by assumption
        go_quiet (fail)
        go_wp2
        go_ret2
        exact ⟨by simp only [beq_iff_eq] at hk; simp [pick, hk], below_drewN (hb.alloc (by omega) _) _⟩
      · have hk : ((bits .and .i64 m 3) == 2) = true := by assumption
        go_quiet (fail)
        go_wp2
        go_ret2
        exact ⟨by simp only [beq_iff_eq] at hk; simp [pick, hk], below_drewN (hb.alloc (by omega) _) _⟩
      · have k1 : ((bits .and .i64 m 3) == 1) = false := by assumption
        have k2 : ((bits .and .i64 m 3) == 2) = false := by assumption
        have k3 : ((bits .and .i64 m 3) == 3) = false := by assumption
        go_roundw
        case rel => exact ⟨.inr (.inl ⟨rfl, ⟨by simpa using k1, by simpa using k2, by simpa using k3⟩⟩), hb.alloc (by omega) _⟩
        case measure => simp [intOf]
    · have hK := hK
      go_wp2
      · have hk : ((bits .or .i64 (bits .and .i64 (m / 16) 3) (bits .and .i64 (m / 4) 3)) == 3) = true := by assumption
        go_ret2
        have hK := hK.out
        exact ⟨by simp only [beq_iff_eq] at hk; simp [pick, hk, hK], hb.alloc (by omega) _⟩
      · have hk : ((bits .or .i64 (bits .and .i64 (m / 16) 3) (bits .and .i64 (m / 4) 3)) == 1) = true := by assumption
        go_quiet (fail)
        go_wp2
        go_ret2
        have hK := hK.out
        exact ⟨by simp only [beq_iff_eq] at hk; simp [pick, hk, hK], below_drewN (hb.alloc (by omega) _) _⟩
      · have hk : ((bits .or .i64 (bits .and .i64 (m / 16) 3) (bits .and .i64 (m / 4) 3)) == 2) = true := by assumption
        go_quiet (fail)
        go_wp2
        go_ret2
        have hK := hK.out
        exact ⟨by simp only [beq_iff_eq] at hk; simp [pick, hk, hK], below_drewN (hb.alloc (by omega) _) _⟩
      · have k1 : ((bits .or .i64 (bits .and .i64 (m / 16) 3) (bits .and .i64 (m / 4) 3)) == 1) = false := by assumption
        have k2 : ((bits .or .i64 (bits .and .i64 (m / 16) 3) (bits .and .i64 (m / 4) 3)) == 2) = false := by assumption
        have k3 : ((bits .or .i64 (bits .and .i64 (m / 16) 3) (bits .and .i64 (m / 4) 3)) == 3) = false := by assumption
        go_roundw
        case rel => exact ⟨.inr (.inr ⟨rfl, ⟨hK.out, by simpa using k1, by simpa using k2, by simpa using k3⟩⟩), hb.alloc (by omega) _⟩
        case measure => simp [intOf]
    · go_wp2
      go_ret2
      have hK := hK.out
      exact ⟨by simp [pick, hK], hb⟩
def sure (b : Bel) (now limit : Int) : Int × Int :=
  if validE b.t b.m b.n = 0 ∧ bits .and .i64 b.m 960 = 0 then
    (if freshB now b.t limit = true then pick (bits .or .i64 (bits .and .i64 b.m 3) (bits .and .i64 (b.m / 4) 3)) (bits .and .i64 (b.m / 16) 3)
      else pick (bits .and .i64 b.m 3) (bits .or .i64 (bits .and .i64 (b.m / 16) 3) (bits .and .i64 (b.m / 4) 3)))
  else (0, 0)
theorem sure_any (b : Bel) (now limit : Int) (w : World) :
    Calls Try.prog 15 #[.agg #[.int .i64 b.t, .int .i64 b.m, .int .i64 b.n], .int .i64 now, .int .i64 limit] w fun e w' =>
      e = .returned (.tuple #[.int .i64 (sure b now limit).1, .int .i64 (sure b now limit).2]) ∧ Below w.heap.size w w' := by
  unfold sure
  by_cases h : validE b.t b.m b.n = 0
  · by_cases h2 : bits .and .i64 b.m 960 = 0
    · rw [if_pos ⟨h, h2⟩]
      by_cases hf : freshB now b.t limit = true
      · rw [if_pos hf]; exact sure_fresh b.t b.m b.n now limit w (by simp [h]) (by simp [h2]) hf
      · rw [if_neg hf]; exact sure_stale b.t b.m b.n now limit w (by simp [h]) (by simp [h2]) (by simpa using hf)
    · rw [if_neg (fun h3 => h2 h3.2)]; exact sure_excl b.t b.m b.n now limit w (by simp [h]) (by simp [h2])
  · rw [if_neg (fun h3 => h h3.1)]; exact sure_bad b.t b.m b.n now limit w (by simp [h])
end Go.Proofs.Ytmicckgfpodahaa
