/- BeliefAges' walk: it returns true; conditions: a slice of integers that reads as a list. -/
import Derived.Test.YtmicckgfpodahaaAgesP
import Derived.Deep.DeepCutAuto
set_option linter.unusedVariables false
set_option linter.unusedSimpArgs false
namespace Go.Proofs.Ytmicckgfpodahaa
open Go Go.RowKit
theorem ages_many (A : Option Addr) (m c : Nat) (now limit : Int) (w : World) (hm : ¬ m ≤ 400) : Calls Try.prog 5 #[.slice A m c, .int .i64 now, .int .i64 limit] w fun e w' => e = .returned (.bool true) ∧ Below w.heap.size w w' := by
  have hm' : (decide ((m : Int) ≤ 400)) = false := by simp; omega
  go_enter Try.func5, Try.ntmps5
  go_wp2_with (first | (go_at_call 9; refine (few_any _ _ _ _).mono ?_; rintro e w1 ⟨rfl, rfl⟩) | (go_at_call 10; refine (awake_any _).mono ?_; rintro e w2 ⟨rfl, hb2⟩))
  go_ret
  exact ⟨rfl, hb2⟩
set_option maxRecDepth 100000 in
set_option maxHeartbeats 8000000 in
theorem ages_few (A : Option Addr) (c : Nat) (l : List Int) (now limit : Int) (w : World) (hm : l.length ≤ 400) (h : Rd w (· < w.heap.size) A 1 (fun n => [.int .i64 n]) l) :
    Calls Try.prog 5 #[.slice A l.length c, .int .i64 now, .int .i64 limit] w fun e w' => e = .returned (.bool true) ∧ Below w.heap.size w w' := by
  have hm' : (decide ((l.length : Int) ≤ 400)) = true := by simp; omega
  have D0 := DeckAt.new (c := c) rfl hm h
  have B0 : Below w.heap.size w (w.alloc (.cells #[.slice A l.length c, .int .i64 0, .int .u64 88172645463325252] 64)) := (Below.refl _ _).alloc (Nat.le_refl _) _
  clear h
  go_enter Try.func5, Try.ntmps5
  go_wp2_with (first | (go_at_call 9; refine (few_any _ _ _ _).mono ?_; rintro e w1 ⟨rfl, rfl⟩) | (go_at_call 11; refine (new_any _ _ _ _).mono ?_; rintro e w2 ⟨rfl, rfl⟩))
  refine (beliefs_make _ 5 _ D0 (by omega)).mono ?_
  rintro e w1 ⟨L, v, rfl, hL, hg, hown, d1, o1⟩
  have hc0 := checkE_good L (by omega) hg
  obtain ⟨A1, c1, rfl, hbl⟩ := own_shape hown
  have hgw := d1.lt
  have R1 := (Rd.of_own (by omega) bel_len' hown).mono (S' := fun b => b < w1.heap.size ∧ b ≠ w.heap.size) fun b hb => ⟨hb.2, by have := hb.1; simp at this; omega⟩
  have b1 := Only.below B0 B0.size (Nat.le_refl _) o1
  have HL := hide hL
  have HC := hide hc0
  have HG := hide hg
  clear hown o1 B0 D0 hL hc0 hg hbl
  go_wp2_with fail
  refine (mod_any now 40 _ (by omega) (by omega)).mono ?_
  rintro e _ ⟨τ, rfl, t0, t1, rfl⟩
  go_wp2_with fail
  refine (mod_any limit 20 _ (by omega) (by omega)).mono ?_
  rintro e _ ⟨κ, rfl, l0, l1, rfl⟩
  go_wp2_with fail
  refine (Masks_any A1 c1 L τ κ _ _ (fun b hb => hb.1) R1).mono ?_
  rintro e w2 ⟨⟨v2, rfl, hv2, _⟩, hb2⟩
  have hv2 := hv2 HC.out
  obtain ⟨A2, c2, rfl, _⟩ := own_shape hv2
  have M2 := (Rd.of_own (L := L.map fun b => orBoth (maskK b τ κ)) (f := intCell) (size := 1) (by omega) (fun _ => rfl) hv2).mono (S' := fun b => b < w2.heap.size ∧ b ≠ w.heap.size) fun b hb => ⟨hb.2, by have := hb.1; omega⟩
  have R2 := (R1.below hb2 fun b hb => hb.1).mono (S' := fun b => b < w2.heap.size ∧ b ≠ w.heap.size) fun b hb => ⟨Nat.lt_of_lt_of_le hb.1 hb2.size, hb.2⟩
  have d2 := d1.below hb2
  have b2 := b1.trans (hb2.mono b1.size)
  rw [HC.out]
  clear hv2 R1 b1 hb2 d1
  go_wp2_with fail
  refine (next_any _ _ _ d2 (by omega) (by omega)).mono ?_
  rintro e w3 ⟨x, rfl, lox, hix, -, d3, o3⟩
  have hx3 : x < 30 := hix (by omega)
  have M3 := (M2.only o3 fun b hb => hb).mono (S' := fun b => b < w3.heap.size ∧ b ≠ w.heap.size) fun b hb => ⟨Nat.lt_of_lt_of_le hb.1 o3.size, hb.2⟩
  have R3 := (R2.only o3 fun b hb => hb).mono (S' := fun b => b < w3.heap.size ∧ b ≠ w.heap.size) fun b hb => ⟨Nat.lt_of_lt_of_le hb.1 o3.size, hb.2⟩
  have b3 := Only.below b2 b2.size (Nat.le_refl _) o3
  clear M2 R2 d2 b2 o3 hix d3
  go_wp2_with fail
  refine (Masks_any A1 c1 L (τ + 1 + x) κ _ _ (fun b hb => hb.1) R3).mono ?_
  rintro e w4 ⟨⟨v4, rfl, hv4, _⟩, hb4⟩
  have hv4 := hv4 HC.out
  obtain ⟨A4, c4, rfl, _⟩ := own_shape hv4
  have N4 := (Rd.of_own (L := L.map fun b => orBoth (maskK b (τ + 1 + x) κ)) (f := intCell) (size := 1) (by omega) (fun _ => rfl) hv4).mono (S' := (· < w4.heap.size)) fun b hb => hb.2
  have M4 := (M3.below hb4 fun b hb => hb.1).mono (S' := (· < w4.heap.size)) fun b hb => Nat.lt_of_lt_of_le hb.1 hb4.size
  have R4 := (R3.below hb4 fun b hb => hb.1).mono (S' := (· < w4.heap.size)) fun b hb => Nat.lt_of_lt_of_le hb.1 hb4.size
  have b4 := b3.trans (hb4.mono b3.size)
  rw [HC.out]
  have hLn := HL.out
  have RR := hide R4; have KK := hide M4; have MM := hide N4
  clear hv4 R3 M3 b3 hb4 R4 M4 N4
  have HN := hide hLn
  rw [hLn]
  clear hLn
  go_wp2_with fail
  go_loopw [69] (fun i wr => ∃ k : Nat, k ≤ 5 ∧ i = .int .i64 k ∧ Below w4.heap.size w4 wr) (fun i _ => 5 - (intOf i).toNat)
  case atStart => exact ⟨0, Nat.zero_le _, rfl, Below.refl _ _⟩
  case round =>
    obtain ⟨k, hk, rfl, hb⟩ := hrel
    have hz := hb.size
    by_cases hlt : k < 5
    · have hlt' : (k : Int) < 5 := by omega
      obtain ⟨⟨t, m, n⟩, hx⟩ := some_at (L := L) (k := k) (by have := HN.out; omega)
      have hgd := HG.out _ (List.mem_of_getElem? hx)
      have hag := ages_ok hgd t0 t1 (show τ < τ + 1 + x by omega) (by omega) (κ := κ)
      obtain ⟨bb, oo, rfl, hsb, hcc⟩ := (RR.out.below hb fun b hb => hb).at_ hx
      have c0 := hcc 0 _ rfl
      have c1' := hcc 1 _ rfl
      have c2' := hcc 2 _ rfl
      simp only [Nat.add_zero] at c0 c1' c2'
      obtain ⟨ba, oa, rfl, hsa, hca⟩ := (KK.out.below hb fun b hb => hb).at_ (k := k) (by rw [List.getElem?_map, hx]; rfl)
      obtain ⟨bc, oc, rfl, hsc, hccc⟩ := (MM.out.below hb fun b hb => hb).at_ (k := k) (by rw [List.getElem?_map, hx]; rfl)
      have ea := hca 0 _ rfl
      have ec := hccc 0 _ rfl
      simp only [Nat.add_zero, Nat.mul_one] at ea ec
      have S1 := fun W => sure_any ⟨t, m, n⟩ τ κ W
      have S2 := fun W => sure_any ⟨t, m, n⟩ (τ + 40) κ W
      unfold AgesOk at hag
      simp only at hag
      generalize orBoth (maskK ⟨t, m, n⟩ τ κ) = av at *
      generalize orBoth (maskK ⟨t, m, n⟩ (τ + 1 + x) κ) = cv at *
      generalize sure ⟨t, m, n⟩ τ κ = sv1 at *
      generalize sure ⟨t, m, n⟩ (τ + 40) κ = sv2 at *
      obtain ⟨s, p⟩ := sv1
      obtain ⟨u, q⟩ := sv2
      simp only at hag
      have HA := hide hag; have H1 := hide S1; have H2 := hide S2
      clear hag S1 S2 hx hcc hca hccc hgd
      go_wp2_with fail
      refine (H1.out _).mono ?_
      rintro e w6 ⟨rfl, hb6⟩
      have k0 := (hb6.cell (p := ⟨bb, oo + k * 3, none⟩) (by simp; omega)).trans c0
      have k1 := (hb6.cell (p := ⟨bb, oo + k * 3 + 1, none⟩) (by simp; omega)).trans c1'
      have k2 := (hb6.cell (p := ⟨bb, oo + k * 3 + 2, none⟩) (by simp; omega)).trans c2'
      have z6 := hb6.size
      go_wp2_with fail
      refine (H2.out _).mono ?_
      rintro e w7 ⟨rfl, hb7⟩
      have j1 := (hb7.cell (p := ⟨bb, oo + k * 3 + 1, none⟩) (by simp; omega)).trans k1
      have ja := (hb7.cell (p := ⟨ba, oa + k, none⟩) (by simp; omega)).trans ((hb6.cell (p := ⟨ba, oa + k, none⟩) (by simp; omega)).trans ea)
      have jc := (hb7.cell (p := ⟨bc, oc + k, none⟩) (by simp; omega)).trans ((hb6.cell (p := ⟨bc, oc + k, none⟩) (by simp; omega)).trans ec)
      have bf := (hb.trans (hb6.mono hz)).trans (hb7.mono (by omega))
      have HBF := hide bf
      clear k0 k1 k2 c0 c1' c2' ea ec hb6 hb7 bf H1 H2
      by_cases hS0 : bits .and .i64 m 3 = 0
      · have hS : (bits .and .i64 m 3 != 0) = false := by simpa using hS0
        have HS0 := hide hS0
        clear hS0
        go_upto_region 16 with fail
        go_cut [143] (fun s143 wc => s143 = .bool false ∧ Hid (∃ n, wc = w7.drewN n))
        case first =>
          have hA : (bits .and .i64 cv av != av) = false := by
            rw [bne_eq_false_iff_eq]
            exact Decidable.byContradiction fun h => HA.out.1 h HS0.out
          have hu : ¬ s < u := fun h => HA.out.2.1 h HS0.out
          by_cases e1 : u = 2
          · have f1 : (u == 2) = true := by simpa using e1
            by_cases e2 : p = 0
            · have f2 : (p != 0) = false := by simpa using e2
              clear e1 e2
              as_aux_lemma =>
                refine wp_region_quiet_sig (by kernel_rfl) (by kernel_rfl) (by kernel_rfl) ?_
                repeat (first | go_big_quiet_step (fail) | quiet_step (fail))
                refine wpQuiet_nil ?_
                rintro _ ⟨nq, rfl⟩
                go_wp2_with fail
                go_meet
                exact ⟨rfl, ⟨nq, rfl⟩⟩
            · have f2 : (p != 0) = true := by simpa using e2
              by_cases e3 : s = 2
              · have f3 : (s == 2) = true := by simpa using e3
                have f4 : (p != q) = false := by simpa using HA.out.2.2.1 e1 e2 e3
                clear e1 e2 e3
                as_aux_lemma =>
                  refine wp_region_quiet_sig (by kernel_rfl) (by kernel_rfl) (by kernel_rfl) ?_
                  repeat (first | go_big_quiet_step (fail) | quiet_step (fail))
                  refine wpQuiet_nil ?_
                  rintro _ ⟨nq, rfl⟩
                  go_wp2_with fail
                  go_meet
                  exact ⟨rfl, ⟨nq, rfl⟩⟩
              · have f3 : (s == 2) = false := by simpa using e3
                clear e1 e2 e3
                as_aux_lemma =>
                  refine wp_region_quiet_sig (by kernel_rfl) (by kernel_rfl) (by kernel_rfl) ?_
                  repeat (first | go_big_quiet_step (fail) | quiet_step (fail))
                  refine wpQuiet_nil ?_
                  rintro _ ⟨nq, rfl⟩
                  go_wp2_with fail
                  go_meet
                  exact ⟨rfl, ⟨nq, rfl⟩⟩
          · have f1 : (u == 2) = false := by simpa using e1
            clear e1
            as_aux_lemma =>
              refine wp_region_quiet_sig (by kernel_rfl) (by kernel_rfl) (by kernel_rfl) ?_
              repeat (first | go_big_quiet_step (fail) | quiet_step (fail))
              refine wpQuiet_nil ?_
              rintro _ ⟨nq, rfl⟩
              go_wp2_with fail
              go_meet
              exact ⟨rfl, ⟨nq, rfl⟩⟩
        case rest =>
          obtain ⟨rfl, nd, rfl⟩ := hcut
          go_wp2_with fail
          go_roundw
          case rel => exact ⟨k + 1, by omega, by go_num, below_drewN HBF.out _⟩
          case measure => simp [intOf]; omega
      · have hS : (bits .and .i64 m 3 != 0) = true := by simpa using hS0
        have HS0 := hide hS0
        clear hS0
        go_upto_region 16 with fail
        go_cut [143] (fun s143 wc => s143 = .bool false ∧ Hid (∃ n, wc = w7.drewN n))
        case first =>
          by_cases hA0 : bits .and .i64 cv av = av
          · have hA : (bits .and .i64 cv av != av) = false := by simpa using hA0
            clear hA0
            by_cases hu : s < u
            · by_cases e1 : u = 2
              · have f1 : (u == 2) = true := by simpa using e1
                by_cases e2 : p = 0
                · have f2 : (p != 0) = false := by simpa using e2
                  clear e1 e2
                  as_aux_lemma =>
                    refine wp_region_quiet_sig (by kernel_rfl) (by kernel_rfl) (by kernel_rfl) ?_
                    repeat (first | go_big_quiet_step (fail) | quiet_step (fail))
                    refine wpQuiet_nil ?_
                    rintro _ ⟨nq, rfl⟩
                    go_wp2_with fail
                    go_meet
                    exact ⟨rfl, ⟨nq, rfl⟩⟩
                · have f2 : (p != 0) = true := by simpa using e2
                  by_cases e3 : s = 2
                  · have f3 : (s == 2) = true := by simpa using e3
                    have f4 : (p != q) = false := by simpa using HA.out.2.2.1 e1 e2 e3
                    clear e1 e2 e3
                    as_aux_lemma =>
                      refine wp_region_quiet_sig (by kernel_rfl) (by kernel_rfl) (by kernel_rfl) ?_
                      repeat (first | go_big_quiet_step (fail) | quiet_step (fail))
                      refine wpQuiet_nil ?_
                      rintro _ ⟨nq, rfl⟩
                      go_wp2_with fail
                      go_meet
                      exact ⟨rfl, ⟨nq, rfl⟩⟩
                  · have f3 : (s == 2) = false := by simpa using e3
                    clear e1 e2 e3
                    as_aux_lemma =>
                      refine wp_region_quiet_sig (by kernel_rfl) (by kernel_rfl) (by kernel_rfl) ?_
                      repeat (first | go_big_quiet_step (fail) | quiet_step (fail))
                      refine wpQuiet_nil ?_
                      rintro _ ⟨nq, rfl⟩
                      go_wp2_with fail
                      go_meet
                      exact ⟨rfl, ⟨nq, rfl⟩⟩
              · have f1 : (u == 2) = false := by simpa using e1
                clear e1
                as_aux_lemma =>
                  refine wp_region_quiet_sig (by kernel_rfl) (by kernel_rfl) (by kernel_rfl) ?_
                  repeat (first | go_big_quiet_step (fail) | quiet_step (fail))
                  refine wpQuiet_nil ?_
                  rintro _ ⟨nq, rfl⟩
                  go_wp2_with fail
                  go_meet
                  exact ⟨rfl, ⟨nq, rfl⟩⟩
            · by_cases e1 : u = 2
              · have f1 : (u == 2) = true := by simpa using e1
                by_cases e2 : p = 0
                · have f2 : (p != 0) = false := by simpa using e2
                  clear e1 e2
                  as_aux_lemma =>
                    refine wp_region_quiet_sig (by kernel_rfl) (by kernel_rfl) (by kernel_rfl) ?_
                    repeat (first | go_big_quiet_step (fail) | quiet_step (fail))
                    refine wpQuiet_nil ?_
                    rintro _ ⟨nq, rfl⟩
                    go_wp2_with fail
                    go_meet
                    exact ⟨rfl, ⟨nq, rfl⟩⟩
                · have f2 : (p != 0) = true := by simpa using e2
                  by_cases e3 : s = 2
                  · have f3 : (s == 2) = true := by simpa using e3
                    have f4 : (p != q) = false := by simpa using HA.out.2.2.1 e1 e2 e3
                    clear e1 e2 e3
                    as_aux_lemma =>
                      refine wp_region_quiet_sig (by kernel_rfl) (by kernel_rfl) (by kernel_rfl) ?_
                      repeat (first | go_big_quiet_step (fail) | quiet_step (fail))
                      refine wpQuiet_nil ?_
                      rintro _ ⟨nq, rfl⟩
                      go_wp2_with fail
                      go_meet
                      exact ⟨rfl, ⟨nq, rfl⟩⟩
                  · have f3 : (s == 2) = false := by simpa using e3
                    clear e1 e2 e3
                    as_aux_lemma =>
                      refine wp_region_quiet_sig (by kernel_rfl) (by kernel_rfl) (by kernel_rfl) ?_
                      repeat (first | go_big_quiet_step (fail) | quiet_step (fail))
                      refine wpQuiet_nil ?_
                      rintro _ ⟨nq, rfl⟩
                      go_wp2_with fail
                      go_meet
                      exact ⟨rfl, ⟨nq, rfl⟩⟩
              · have f1 : (u == 2) = false := by simpa using e1
                clear e1
                as_aux_lemma =>
                  refine wp_region_quiet_sig (by kernel_rfl) (by kernel_rfl) (by kernel_rfl) ?_
                  repeat (first | go_big_quiet_step (fail) | quiet_step (fail))
                  refine wpQuiet_nil ?_
                  rintro _ ⟨nq, rfl⟩
                  go_wp2_with fail
                  go_meet
                  exact ⟨rfl, ⟨nq, rfl⟩⟩
          · have hA : (bits .and .i64 cv av != av) = true := by simpa using hA0
            clear hA0
            by_cases hu : s < u
            · by_cases e1 : u = 2
              · have f1 : (u == 2) = true := by simpa using e1
                by_cases e2 : p = 0
                · have f2 : (p != 0) = false := by simpa using e2
                  clear e1 e2
                  as_aux_lemma =>
                    refine wp_region_quiet_sig (by kernel_rfl) (by kernel_rfl) (by kernel_rfl) ?_
                    repeat (first | go_big_quiet_step (fail) | quiet_step (fail))
                    refine wpQuiet_nil ?_
                    rintro _ ⟨nq, rfl⟩
                    go_wp2_with fail
                    go_meet
                    exact ⟨rfl, ⟨nq, rfl⟩⟩
                · have f2 : (p != 0) = true := by simpa using e2
                  by_cases e3 : s = 2
                  · have f3 : (s == 2) = true := by simpa using e3
                    have f4 : (p != q) = false := by simpa using HA.out.2.2.1 e1 e2 e3
                    clear e1 e2 e3
                    as_aux_lemma =>
                      refine wp_region_quiet_sig (by kernel_rfl) (by kernel_rfl) (by kernel_rfl) ?_
                      repeat (first | go_big_quiet_step (fail) | quiet_step (fail))
                      refine wpQuiet_nil ?_
                      rintro _ ⟨nq, rfl⟩
                      go_wp2_with fail
                      go_meet
                      exact ⟨rfl, ⟨nq, rfl⟩⟩
                  · have f3 : (s == 2) = false := by simpa using e3
                    clear e1 e2 e3
                    as_aux_lemma =>
                      refine wp_region_quiet_sig (by kernel_rfl) (by kernel_rfl) (by kernel_rfl) ?_
                      repeat (first | go_big_quiet_step (fail) | quiet_step (fail))
                      refine wpQuiet_nil ?_
                      rintro _ ⟨nq, rfl⟩
                      go_wp2_with fail
                      go_meet
                      exact ⟨rfl, ⟨nq, rfl⟩⟩
              · have f1 : (u == 2) = false := by simpa using e1
                clear e1
                as_aux_lemma =>
                  refine wp_region_quiet_sig (by kernel_rfl) (by kernel_rfl) (by kernel_rfl) ?_
                  repeat (first | go_big_quiet_step (fail) | quiet_step (fail))
                  refine wpQuiet_nil ?_
                  rintro _ ⟨nq, rfl⟩
                  go_wp2_with fail
                  go_meet
                  exact ⟨rfl, ⟨nq, rfl⟩⟩
            · by_cases e1 : u = 2
              · have f1 : (u == 2) = true := by simpa using e1
                by_cases e2 : p = 0
                · have f2 : (p != 0) = false := by simpa using e2
                  clear e1 e2
                  as_aux_lemma =>
                    refine wp_region_quiet_sig (by kernel_rfl) (by kernel_rfl) (by kernel_rfl) ?_
                    repeat (first | go_big_quiet_step (fail) | quiet_step (fail))
                    refine wpQuiet_nil ?_
                    rintro _ ⟨nq, rfl⟩
                    go_wp2_with fail
                    go_meet
                    exact ⟨rfl, ⟨nq, rfl⟩⟩
                · have f2 : (p != 0) = true := by simpa using e2
                  by_cases e3 : s = 2
                  · have f3 : (s == 2) = true := by simpa using e3
                    have f4 : (p != q) = false := by simpa using HA.out.2.2.1 e1 e2 e3
                    clear e1 e2 e3
                    as_aux_lemma =>
                      refine wp_region_quiet_sig (by kernel_rfl) (by kernel_rfl) (by kernel_rfl) ?_
                      repeat (first | go_big_quiet_step (fail) | quiet_step (fail))
                      refine wpQuiet_nil ?_
                      rintro _ ⟨nq, rfl⟩
                      go_wp2_with fail
                      go_meet
                      exact ⟨rfl, ⟨nq, rfl⟩⟩
                  · have f3 : (s == 2) = false := by simpa using e3
                    clear e1 e2 e3
                    as_aux_lemma =>
                      refine wp_region_quiet_sig (by kernel_rfl) (by kernel_rfl) (by kernel_rfl) ?_
                      repeat (first | go_big_quiet_step (fail) | quiet_step (fail))
                      refine wpQuiet_nil ?_
                      rintro _ ⟨nq, rfl⟩
                      go_wp2_with fail
                      go_meet
                      exact ⟨rfl, ⟨nq, rfl⟩⟩
              · have f1 : (u == 2) = false := by simpa using e1
                clear e1
                as_aux_lemma =>
                  refine wp_region_quiet_sig (by kernel_rfl) (by kernel_rfl) (by kernel_rfl) ?_
                  repeat (first | go_big_quiet_step (fail) | quiet_step (fail))
                  refine wpQuiet_nil ?_
                  rintro _ ⟨nq, rfl⟩
                  go_wp2_with fail
                  go_meet
                  exact ⟨rfl, ⟨nq, rfl⟩⟩
        case rest =>
          obtain ⟨rfl, nd, rfl⟩ := hcut
          by_cases hT0 : bits .and .i64 m 12 = 0
          · have hT : (bits .and .i64 m 12 == 0) = true := by simpa using hT0
            have he := HA.out.2.2.2 HS0.out hT0
            injection he with he1 he2
            have g1 : (s != u) = false := by simpa using he1
            have g2 : (p != q) = false := by simpa using he2
            clear hT0 he1 he2
            go_wp2_with fail
            go_roundw
            case rel => exact ⟨k + 1, by omega, by go_num, below_drewN HBF.out _⟩
            case measure => simp [intOf]; omega
          · have hT : (bits .and .i64 m 12 == 0) = false := by simpa using hT0
            clear hT0
            go_wp2_with fail
            go_roundw
            case rel => exact ⟨k + 1, by omega, by go_num, below_drewN HBF.out _⟩
            case measure => simp [intOf]; omega
    · obtain rfl : k = 5 := by omega
      go_wp2_with fail
      refine (awake_any _).mono ?_
      rintro e w12 ⟨rfl, hb12⟩
      go_wp2_with fail
      go_ret
      exact ⟨rfl, (b4.trans (hb.mono b4.size)).trans (hb12.mono (by have := b4.size; omega))⟩
end Go.Proofs.Ytmicckgfpodahaa
