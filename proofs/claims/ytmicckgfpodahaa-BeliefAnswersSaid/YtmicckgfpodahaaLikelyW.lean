/- BeliefLikely's walk: it returns true; conditions: a slice of integers that reads as a list. -/
import Derived.Test.YtmicckgfpodahaaStorm
import Derived.Test.YtmicckgfpodahaaMasks
import Derived.Test.YtmicckgfpodahaaLex
set_option linter.unusedVariables false
set_option linter.unusedSimpArgs false
namespace Go.Proofs.Ytmicckgfpodahaa
open Go Go.RowKit
theorem firstE_good : ∀ (L : List Bel), (∀ b ∈ L, GoodBel b) → firstE L = 0
  | [], _ => rfl
  | b :: L, h => by
    obtain ⟨h0, h1, h2, h3, h4, h5⟩ := h b (by simp)
    rw [firstE, if_pos (valid_good h0 (by omega) h2 h3 h4 h5)]
    exact firstE_good L fun x hx => h x (by simp [hx])
theorem checkE_good (L : List Bel) (hl : L.length ≤ 64) (h : ∀ b ∈ L, GoodBel b) : checkE L = 0 := by
  unfold checkE
  rw [if_neg (by omega)]
  exact firstE_good L h
theorem pick_range (K P : Int) : pick K P = (0, 0) ∨ pick K P = (1, 1) ∨ pick K P = (1, 2) ∨ pick K P = (2, 1) ∨ pick K P = (2, 2) := by
  unfold pick
  by_cases h1 : K = 3
  · simp [h1]
  · rw [if_neg h1]
    by_cases h2 : K = 1 ∨ K = 2
    · rw [if_pos h2]; rcases h2 with h2 | h2 <;> simp [h2]
    · rw [if_neg h2]
      by_cases h3 : P = 3
      · simp [h3]
      · rw [if_neg h3]
        by_cases h4 : P = 1 ∨ P = 2
        · rw [if_pos h4]; rcases h4 with h4 | h4 <;> simp [h4]
        · simp [h4]
theorem sure_range (b : Bel) (now limit : Int) : sure b now limit = (0, 0) ∨ sure b now limit = (1, 1) ∨ sure b now limit = (1, 2) ∨ sure b now limit = (2, 1) ∨ sure b now limit = (2, 2) := by
  unfold sure
  split
  · split <;> exact pick_range _ _
  · exact .inl rfl
theorem likely_many (A : Option Addr) (m c : Nat) (now limit : Int) (w : World) (hm : ¬ m ≤ 400) : Calls Try.prog 7 #[.slice A m c, .int .i64 now, .int .i64 limit] w fun e w' => e = .returned (.bool true) ∧ Below w.heap.size w w' := by
  have hm' : (decide ((m : Int) ≤ 400)) = false := by simp; omega
  go_enter Try.func7, Try.ntmps7
  go_wp2_with (first | (go_at_call 9; refine (few_any _ _ _ _).mono ?_; rintro e w1 ⟨rfl, rfl⟩) | (go_at_call 10; refine (awake_any _).mono ?_; rintro e w2 ⟨rfl, hb2⟩))
  go_ret
  exact ⟨rfl, hb2⟩
set_option maxRecDepth 100000 in
set_option maxHeartbeats 4000000 in
theorem likely_few (A : Option Addr) (c : Nat) (l : List Int) (now limit : Int) (w : World) (hm : l.length ≤ 400) (h : Rd w (· < w.heap.size) A 1 (fun n => [.int .i64 n]) l) :
    Calls Try.prog 7 #[.slice A l.length c, .int .i64 now, .int .i64 limit] w fun e w' => e = .returned (.bool true) ∧ Below w.heap.size w w' := by
  have hm' : (decide ((l.length : Int) ≤ 400)) = true := by simp; omega
  have D0 := DeckAt.new (c := c) rfl hm h
  have B0 : Below w.heap.size w (w.alloc (.cells #[.slice A l.length c, .int .i64 0, .int .u64 88172645463325252] 64)) := (Below.refl _ _).alloc (Nat.le_refl _) _
  clear h
  go_enter Try.func7, Try.ntmps7
  go_wp2_with (first | (go_at_call 9; refine (few_any _ _ _ _).mono ?_; rintro e w1 ⟨rfl, rfl⟩) | (go_at_call 11; refine (new_any _ _ _ _).mono ?_; rintro e w2 ⟨rfl, rfl⟩))
  refine (beliefs_make _ 6 _ D0 (by omega)).mono ?_
  rintro e w1 ⟨L, v, rfl, hL, hg, hown, d1, o1⟩
  have hc0 := checkE_good L (by omega) hg
  obtain ⟨A1, c1, rfl, _⟩ := own_shape hown
  have R1 := (Rd.of_own (by omega) bel_len' hown).mono (S' := (· < w1.heap.size)) fun b hb => hb.2
  have b1 := Only.below B0 B0.size (Nat.le_refl _) o1
  have HL := hide hL
  have HC := hide hc0
  have HG := hide hg
  clear hown o1 B0 D0 hL hc0 hg d1
  go_wp2_with fail
  refine (Masks_any A1 c1 L now limit _ _ (fun b hb => hb) R1).mono ?_
  rintro e w2 ⟨⟨v2, rfl, hv2, _⟩, hb2⟩
  have hv2 := hv2 HC.out
  obtain ⟨A2, c2, rfl, _⟩ := own_shape hv2
  have M2 := (Rd.of_own (L := L.map fun b => orBoth (maskK b now limit)) (f := intCell) (size := 1) (by omega) (fun _ => rfl) hv2).mono (S' := (· < w2.heap.size)) fun b hb => hb.2
  have R2 := (R1.below hb2 fun b hb => hb).mono (S' := (· < w2.heap.size)) fun b hb => Nat.lt_of_lt_of_le hb hb2.size
  have b2 := b1.trans (hb2.mono b1.size)
  rw [HC.out]
  clear hv2 R1 b1 hb2
  go_wp2_with fail
  refine (Likely_any A1 c1 L now limit _ _ (fun b hb => hb) R2).mono ?_
  rintro e w3 ⟨⟨v3, rfl, hv3, _⟩, hb3⟩
  have hv3 := hv3 HC.out
  obtain ⟨A3, c3, rfl, _⟩ := own_shape hv3
  have M3 := (Rd.of_own (L := L.map fun b => orBoth (maskL b now limit)) (f := intCell) (size := 1) (by omega) (fun _ => rfl) hv3).mono (S' := (· < w3.heap.size)) fun b hb => hb.2
  have R3 := (R2.below hb3 fun b hb => hb).mono (S' := (· < w3.heap.size)) fun b hb => Nat.lt_of_lt_of_le hb hb3.size
  have K3 := (M2.below hb3 fun b hb => hb).mono (S' := (· < w3.heap.size)) fun b hb => Nat.lt_of_lt_of_le hb hb3.size
  have b3 := b2.trans (hb3.mono b2.size)
  rw [HC.out]
  have hLn := HL.out
  have RR := hide R3; have KK := hide K3; have MM := hide M3
  clear hv3 R2 b2 hb3 R3 K3 M3 M2
  have HN := hide hLn
  rw [hLn]
  clear hLn
  go_wp2_with fail
  go_loopw [55] (fun i wr => ∃ k : Nat, k ≤ 6 ∧ i = .int .i64 k ∧ Below w3.heap.size w3 wr) (fun i _ => 6 - (intOf i).toNat)
  case atStart => exact ⟨0, Nat.zero_le _, rfl, Below.refl _ _⟩
  case round =>
    obtain ⟨k, hk, rfl, hb⟩ := hrel
    have hz := hb.size
    by_cases hlt : k < 6
    · have hlt' : (k : Int) < 6 := by omega
      obtain ⟨⟨t, m, n⟩, hx⟩ := some_at (L := L) (k := k) (by have := HN.out; omega)
      obtain ⟨gt0, gt1, gm0, gm1, gn0, gn1⟩ := HG.out _ (List.mem_of_getElem? hx)
      simp only at gt0 gt1 gm0 gm1 gn0 gn1
      obtain ⟨bb, oo, rfl, hsb, hcc⟩ := (RR.out.below hb fun b hb => hb).at_ hx
      have c0 := hcc 0 _ rfl
      have c1 := hcc 1 _ rfl
      have c2 := hcc 2 _ rfl
      simp only [Nat.add_zero] at c0 c1 c2
      obtain ⟨b4, o4, rfl, hs4, hc4⟩ := (KK.out.below hb fun b hb => hb).at_ (k := k) (by rw [List.getElem?_map, hx]; rfl)
      obtain ⟨b5, o5, rfl, hs5, hc5⟩ := (MM.out.below hb fun b hb => hb).at_ (k := k) (by rw [List.getElem?_map, hx]; rfl)
      have e4 := hc4 0 _ rfl
      have e5 := hc5 0 _ rfl
      simp only [Nat.add_zero, Nat.mul_one] at e4 e5
      obtain ⟨mv, hmv⟩ : ∃ mv, orBoth (maskK ⟨t, m, n⟩ now limit) = mv := ⟨_, rfl⟩
      obtain ⟨kv, hkv⟩ : ∃ kv, orBoth (maskL ⟨t, m, n⟩ now limit) = kv := ⟨_, rfl⟩
      rw [hmv] at e4
      rw [hkv] at e5
      have SV := fun W => sure_any ⟨t, m, n⟩ now limit W
      have hs := sure_range ⟨t, m, n⟩ now limit
      have hn3 : n = 0 ∨ n = 1 ∨ n = 2 := by omega
      have HSV := hide SV; have Hs := hide hs; have Hmv := hide hmv; have Hkv := hide hkv
      clear hx hcc hc4 hc5 SV hs hmv hkv
      go_wp2_with fail
      refine (HSV.out _).mono ?_
      rintro e w6 ⟨rfl, hb6⟩
      have k6 := (Blk.new wr 30 #[.int .i64 t, .int .i64 m, .int .i64 n]).below hb6 (by simp)
      have e46 : w6.cell? ⟨b4, o4 + k, none⟩ = some (.int .i64 mv) := (hb6.cell (p := ⟨b4, o4 + k, none⟩) (by simp; omega)).trans ((World.cell?_alloc_lt wr _ ⟨b4, o4 + k, none⟩ (by show b4 < _; omega)).trans e4)
      have e56 : w6.cell? ⟨b5, o5 + k, none⟩ = some (.int .i64 kv) := (hb6.cell (p := ⟨b5, o5 + k, none⟩) (by simp; omega)).trans ((World.cell?_alloc_lt wr _ ⟨b5, o5 + k, none⟩ (by show b5 < _; omega)).trans e5)
      have bf := (hb.alloc hz _).trans (hb6.mono (by simp; omega))
      have HBF := hide bf
      clear e4 e5 c0 c1 c2 hb6 bf
      obtain ⟨c0, c1, c2⟩ := k6.c3
      have q11 : bits .and .i64 1 1 = 1 := by decide +kernel
      have q22 : bits .and .i64 2 2 = 2 := by decide +kernel
      have q33 : bits .and .i64 3 3 = 3 := by decide +kernel
      have q13 : bits .and .i64 1 3 = 1 := by decide +kernel
      have q23 : bits .and .i64 2 3 = 2 := by decide +kernel
      generalize hsv : sure ⟨t, m, n⟩ now limit = sv at *
      rcases Hs.out with hs | hs | hs | hs | hs
      · subst hs
        rcases hn3 with rfl | rfl | rfl
        · obtain rfl : mv = 3 := by rw [← Hmv.out]; simp [maskK, hsv, orBoth]
          obtain rfl : kv = 3 := by rw [← Hkv.out]; simp [maskL, hsv, orBoth]
          have Hsv := hide hsv
          clear hsv
          go_wp2_with fail
          dsimp only [List.append]
          refine wp_region_quiet_sig (by kernel_rfl) (by kernel_rfl) (by kernel_rfl) ?_
          repeat (first | go_big_quiet_step (fail) | quiet_step (fail))
          refine wpQuiet_nil ?_
          rintro _ ⟨nq, rfl⟩
          go_wp2_with fail
          go_roundw
          case rel => exact ⟨k + 1, by omega, by go_num, below_drewN HBF.out _⟩
          case measure => simp [intOf]; omega
        · obtain rfl : mv = 3 := by rw [← Hmv.out]; simp [maskK, hsv, orBoth]
          obtain rfl : kv = 1 := by rw [← Hkv.out]; simp [maskL, hsv, orBoth]
          have Hsv := hide hsv
          clear hsv
          go_wp2_with fail
          dsimp only [List.append]
          refine wp_region_quiet_sig (by kernel_rfl) (by kernel_rfl) (by kernel_rfl) ?_
          repeat (first | go_big_quiet_step (fail) | quiet_step (fail))
          refine wpQuiet_nil ?_
          rintro _ ⟨nq, rfl⟩
          go_wp2_with fail
          go_roundw
          case rel => exact ⟨k + 1, by omega, by go_num, below_drewN HBF.out _⟩
          case measure => simp [intOf]; omega
        · obtain rfl : mv = 3 := by rw [← Hmv.out]; simp [maskK, hsv, orBoth]
          obtain rfl : kv = 2 := by rw [← Hkv.out]; simp [maskL, hsv, orBoth]
          have Hsv := hide hsv
          clear hsv
          go_wp2_with fail
          dsimp only [List.append]
          refine wp_region_quiet_sig (by kernel_rfl) (by kernel_rfl) (by kernel_rfl) ?_
          repeat (first | go_big_quiet_step (fail) | quiet_step (fail))
          refine wpQuiet_nil ?_
          rintro _ ⟨nq, rfl⟩
          go_wp2_with fail
          go_roundw
          case rel => exact ⟨k + 1, by omega, by go_num, below_drewN HBF.out _⟩
          case measure => simp [intOf]; omega
      · subst hs
        obtain rfl : mv = 3 := by rw [← Hmv.out]; simp [maskK, hsv, orBoth]
        obtain rfl : kv = 1 := by rw [← Hkv.out]; simp [maskL, hsv, orBoth]
        have Hsv := hide hsv
        clear hsv
        go_wp2_with fail
        dsimp only [List.append]
        refine wp_region_quiet_sig (by kernel_rfl) (by kernel_rfl) (by kernel_rfl) ?_
        repeat (first | go_big_quiet_step (fail) | quiet_step (fail))
        refine wpQuiet_nil ?_
        rintro _ ⟨nq, rfl⟩
        go_wp2_with fail
        go_roundw
        case rel => exact ⟨k + 1, by omega, by go_num, below_drewN HBF.out _⟩
        case measure => simp [intOf]; omega
      · subst hs
        obtain rfl : mv = 3 := by rw [← Hmv.out]; simp [maskK, hsv, orBoth]
        obtain rfl : kv = 2 := by rw [← Hkv.out]; simp [maskL, hsv, orBoth]
        have Hsv := hide hsv
        clear hsv
        go_wp2_with fail
        dsimp only [List.append]
        refine wp_region_quiet_sig (by kernel_rfl) (by kernel_rfl) (by kernel_rfl) ?_
        repeat (first | go_big_quiet_step (fail) | quiet_step (fail))
        refine wpQuiet_nil ?_
        rintro _ ⟨nq, rfl⟩
        go_wp2_with fail
        go_roundw
        case rel => exact ⟨k + 1, by omega, by go_num, below_drewN HBF.out _⟩
        case measure => simp [intOf]; omega
      · subst hs
        obtain rfl : mv = 1 := by rw [← Hmv.out]; simp [maskK, hsv, orBoth]
        obtain rfl : kv = 1 := by rw [← Hkv.out]; simp [maskL, hsv, orBoth]
        have Hsv := hide hsv
        clear hsv
        go_wp2_with fail
        dsimp only [List.append]
        refine wp_region_quiet_sig (by kernel_rfl) (by kernel_rfl) (by kernel_rfl) ?_
        repeat (first | go_big_quiet_step (fail) | quiet_step (fail))
        refine wpQuiet_nil ?_
        rintro _ ⟨nq, rfl⟩
        go_wp2_with fail
        go_roundw
        case rel => exact ⟨k + 1, by omega, by go_num, below_drewN HBF.out _⟩
        case measure => simp [intOf]; omega
      · subst hs
        obtain rfl : mv = 2 := by rw [← Hmv.out]; simp [maskK, hsv, orBoth]
        obtain rfl : kv = 2 := by rw [← Hkv.out]; simp [maskL, hsv, orBoth]
        have Hsv := hide hsv
        clear hsv
        go_wp2_with fail
        dsimp only [List.append]
        refine wp_region_quiet_sig (by kernel_rfl) (by kernel_rfl) (by kernel_rfl) ?_
        repeat (first | go_big_quiet_step (fail) | quiet_step (fail))
        refine wpQuiet_nil ?_
        rintro _ ⟨nq, rfl⟩
        go_wp2_with fail
        go_roundw
        case rel => exact ⟨k + 1, by omega, by go_num, below_drewN HBF.out _⟩
        case measure => simp [intOf]; omega
    · obtain rfl : k = 6 := by omega
      go_wp2_with fail
      refine (awake_any _).mono ?_
      rintro e w12 ⟨rfl, hb12⟩
      go_wp2_with fail
      go_ret
      exact ⟨rfl, (b3.trans (hb.mono b3.size)).trans (hb12.mono (by have := b3.size; omega))⟩
end Go.Proofs.Ytmicckgfpodahaa
