/- The functions over lists of beliefs that only read, and slices.Clone at beliefs: each returns what a plain function says; conditions: a slice reads as a list. -/
import Derived.Test.YtmicckgfpodahaaScal
set_option linter.unusedVariables false
set_option linter.unusedSimpArgs false
namespace Go.Proofs.Ytmicckgfpodahaa
open Go Go.RowKit
def firstE : List Bel → Int
  | [] => 0
  | b :: r => if validE b.t b.m b.n = 0 then firstE r else validE b.t b.m b.n
def checkE (L : List Bel) : Int := if 64 < L.length then 1 else firstE L
def rbad (t m n : Int) : Int := if t < 0 ∨ 16777216 < t then 11 else if rvalidB t m n = true then 0 else 10
def rfirstE : List Bel → Int
  | [] => 0
  | b :: r => if rbad b.t b.m b.n = 0 then rfirstE r else rbad b.t b.m b.n
def rcheckE (L : List Bel) : Int := if 64 < L.length then 1 else rfirstE L
theorem bel_len (x : Bel) : x.cells.length = 3 := rfl
theorem bel_one (x : Bel) : ∀ u ∈ x.cells, u.oneCell' = true := by
  intro u hu
  simp [Bel.cells] at hu
  rcases hu with rfl | rfl | rfl <;> rfl
theorem firstE_next {L : List Bel} {k : Nat} {t m n : Int} (hx : L[k]? = some ⟨t, m, n⟩) (hf : firstE L = firstE (L.drop k)) (h : (validE t m n != 0) = false) : firstE L = firstE (L.drop (k + 1)) := by
  rw [hf, drop_at hx, firstE]
  simp at h
  simp [h]
theorem firstE_stop {L : List Bel} {k : Nat} {t m n : Int} (hx : L[k]? = some ⟨t, m, n⟩) (hf : firstE L = firstE (L.drop k)) (h : (validE t m n != 0) = true) : firstE L = validE t m n := by
  rw [hf, drop_at hx, firstE]
  simp at h
  simp [h]
set_option maxHeartbeats 1000000 in
theorem check_short (A : Option Addr) (c : Nat) (L : List Bel) (w : World) (S : Nat → Prop) (hS : ∀ b, S b → b < w.heap.size) (h : Rd w S A 3 Bel.cells L) (hl : L.length ≤ 64) :
    Calls Try.prog 27 #[.slice A L.length c] w fun e w' => e = .returned (.int .i64 (firstE L)) ∧ Below w.heap.size w w' := by
  go_enter Try.func27, Try.ntmps27
  go_wp2
  go_loopw [4, 11] (fun u i wr => ∃ k : Nat, k ≤ L.length ∧ i = .int .i64 k ∧ Hid (firstE L = firstE (L.drop k)) ∧ Below w.heap.size w wr) (fun _ i _ => L.length - (intOf i).toNat)
  case atStart => exact ⟨0, Nat.zero_le _, rfl, rfl, Below.refl _ _⟩
  case round =>
    obtain ⟨k, hk, rfl, hf, hb⟩ := hrel
    have hz := hb.size
    by_cases hlt : k < L.length
    · obtain ⟨⟨t, m, n⟩, hx⟩ := some_at hlt
      obtain ⟨b, o, rfl, hs, hc⟩ := (h.below hb hS).at_ hx
      have c0 := hc 0 _ rfl
      have c1 := hc 1 _ rfl
      have c2 := hc 2 _ rfl
      have Hx := hide hx
      clear hx hc h
      simp only [Nat.add_zero] at c0 c1 c2
      go_wp2_with (first | (go_at_call 37; refine (valid_any _ _ _ _).mono ?_; rintro e w' ⟨rfl, hb1⟩))
      · go_ret
        exact ⟨by rw [firstE_stop Hx.out hf.out (by assumption)]; rfl, (hb.alloc (by omega) _).trans (hb1.mono (by simp; omega))⟩
      · have hv : (validE t m n != 0) = false := by assumption
        go_roundw
        case rel => exact ⟨k + 1, by omega, by go_num, firstE_next Hx.out hf.out hv, (hb.alloc (by omega) _).trans (hb1.mono (by simp; omega))⟩
        case measure => simp [intOf]; omega
    · go_wp2
      go_ret
      have hf := hf.out
      rw [List.drop_of_length_le (by omega)] at hf
      exact ⟨by rw [hf]; rfl, hb⟩
set_option maxHeartbeats 1000000 in
theorem check_long (A : Option Addr) (m c : Nat) (w : World) (hl : 64 < m) :
    Calls Try.prog 27 #[.slice A m c] w fun e w' => e = .returned (.int .i64 1) ∧ Below w.heap.size w w' := by
  go_enter Try.func27, Try.ntmps27
  go_wp2
  go_ret
  exact ⟨rfl, Below.refl _ _⟩
theorem check_any (A : Option Addr) (c : Nat) (L : List Bel) (w : World) (S : Nat → Prop) (hS : ∀ b, S b → b < w.heap.size) (h : Rd w S A 3 Bel.cells L) :
    Calls Try.prog 27 #[.slice A L.length c] w fun e w' => e = .returned (.int .i64 (checkE L)) ∧ Below w.heap.size w w' := by
  unfold checkE
  by_cases hl : 64 < L.length
  · rw [if_pos hl]; exact check_long A _ c w hl
  · rw [if_neg hl]; exact check_short A c L w S hS h (by omega)
theorem rfirstE_next {L : List Bel} {k : Nat} {t m n : Int} (hx : L[k]? = some ⟨t, m, n⟩) (hf : rfirstE L = rfirstE (L.drop k)) (h : rbad t m n = 0) : rfirstE L = rfirstE (L.drop (k + 1)) := by
  rw [hf, drop_at hx, rfirstE]
  simp [h]
theorem rfirstE_stop {L : List Bel} {k : Nat} {t m n : Int} (hx : L[k]? = some ⟨t, m, n⟩) (hf : rfirstE L = rfirstE (L.drop k)) (h : rbad t m n ≠ 0) : rfirstE L = rbad t m n := by
  rw [hf, drop_at hx, rfirstE]
  simp [h]
set_option maxHeartbeats 2000000 in
theorem rcheck_short (A : Option Addr) (c : Nat) (L : List Bel) (w : World) (S : Nat → Prop) (hS : ∀ b, S b → b < w.heap.size) (h : Rd w S A 3 Bel.cells L) (hl : L.length ≤ 64) :
    Calls Try.prog 28 #[.slice A L.length c] w fun e w' => e = .returned (.int .i64 (rfirstE L)) ∧ Below w.heap.size w w' := by
  go_enter Try.func28, Try.ntmps28
  go_wp2
  go_loopw [3] (fun i wr => ∃ k : Nat, k ≤ L.length ∧ i = .int .i64 k ∧ Hid (rfirstE L = rfirstE (L.drop k)) ∧ Below w.heap.size w wr) (fun i _ => L.length - (intOf i).toNat)
  case atStart => exact ⟨0, Nat.zero_le _, rfl, rfl, Below.refl _ _⟩
  case round =>
    obtain ⟨k, hk, rfl, hf, hb⟩ := hrel
    have hz := hb.size
    by_cases hlt : k < L.length
    · obtain ⟨⟨t, m, n⟩, hx⟩ := some_at hlt
      obtain ⟨b, o, rfl, hs, hc⟩ := (h.below hb hS).at_ hx
      have c0 := hc 0 _ rfl
      have c1 := hc 1 _ rfl
      have c2 := hc 2 _ rfl
      have Hx := hide hx
      clear hx hc h
      simp only [Nat.add_zero] at c0 c1 c2
      by_cases h1 : t < 0
      · go_wp2_with fail
        go_ret
        exact ⟨by rw [rfirstE_stop Hx.out hf.out (by simp [rbad, h1])]; simp [rbad, h1], hb⟩
      · by_cases h2 : 16777216 < t
        · go_wp2_with fail
          go_ret
          exact ⟨by rw [rfirstE_stop Hx.out hf.out (by simp [rbad, h2])]; simp [rbad, h2], hb⟩
        · by_cases h3 : rvalidB t m n = true
          · go_wp2_with (first | (go_at_call 45; refine (rvalid_any _ _ _ _).mono ?_; rintro e w' ⟨rfl, hb1⟩))
            go_roundw
            case rel => exact ⟨k + 1, by omega, by go_num, rfirstE_next Hx.out hf.out (by simp [rbad, h1, h2, h3]), hb.trans (hb1.mono (by omega))⟩
            case measure => simp [intOf]; omega
          · have h3' : rvalidB t m n = false := by simpa using h3
            clear h3
            go_wp2_with (first | (go_at_call 45; refine (rvalid_any _ _ _ _).mono ?_; rintro e w' ⟨rfl, hb1⟩))
            go_ret
            have hr : rbad t m n = 10 := by unfold rbad; rw [if_neg (by omega), h3']; rfl
            exact ⟨by rw [rfirstE_stop Hx.out hf.out (by rw [hr]; decide), hr]; rfl, hb.trans (hb1.mono (by omega))⟩
    · go_wp2
      go_ret
      have hf := hf.out
      rw [List.drop_of_length_le (by omega)] at hf
      exact ⟨by rw [hf]; rfl, hb⟩
set_option maxHeartbeats 1000000 in
theorem rcheck_long (A : Option Addr) (m c : Nat) (w : World) (hl : 64 < m) :
    Calls Try.prog 28 #[.slice A m c] w fun e w' => e = .returned (.int .i64 1) ∧ Below w.heap.size w w' := by
  go_enter Try.func28, Try.ntmps28
  go_wp2
  go_ret
  exact ⟨rfl, Below.refl _ _⟩
theorem rcheck_any (A : Option Addr) (c : Nat) (L : List Bel) (w : World) (S : Nat → Prop) (hS : ∀ b, S b → b < w.heap.size) (h : Rd w S A 3 Bel.cells L) :
    Calls Try.prog 28 #[.slice A L.length c] w fun e w' => e = .returned (.int .i64 (rcheckE L)) ∧ Below w.heap.size w w' := by
  unfold rcheckE
  by_cases hl : 64 < L.length
  · rw [if_pos hl]; exact rcheck_long A _ c w hl
  · rw [if_neg hl]; exact rcheck_short A c L w S hS h (by omega)
end Go.Proofs.Ytmicckgfpodahaa
