/- BeliefAnswers' walk: it returns true; conditions: slices read as lists, integers are Go integers. -/
import Derived.Test.YtmicckgfpodahaaAnsV
import Derived.Test.YtmicckgfpodahaaAnsC
import Derived.Test.YtmicckgfpodahaaAnsN
import Derived.Test.YtmicckgfpodahaaAnsM
import Derived.Test.YtmicckgfpodahaaAwake
import Derived.Test.YtmicckgfpodahaaMk3
set_option linter.unusedVariables false
set_option linter.unusedSimpArgs false
namespace Go.Proofs.Ytmicckgfpodahaa
open Go Go.RowKit
set_option maxRecDepth 100000 in
set_option maxHeartbeats 16000000 in
theorem answers_few (A1 A2 A3 A4 : Option Addr) (c1 c2 c3 c4 : Nat) (l norm : List Int) (raw : List Bel) (reps : List Rep) (n now limit : Int) (w : World) (hm1 : l.length ≤ 400) (hm3 : raw.length ≤ 70) (hm4 : reps.length ≤ 40) (hm2 : norm.length ≤ 80)
    (h1 : Rd w (· < w.heap.size) A1 1 (fun n => [.int .i64 n]) l) (h2 : Rd w (· < w.heap.size) A2 1 (fun n => [.int .i64 n]) norm) (h3 : Rd w (· < w.heap.size) A3 3 Bel.cells raw) (h4 : Rd w (· < w.heap.size) A4 5 Rep.cells reps)
    (hA3 : A3 = none → c3 = 0) (hI : ∀ b ∈ raw, I64 b.m) (hnow : I64 now) (hlim : I64 limit) :
    Calls Try.prog 8 #[.slice A1 l.length c1, .slice A2 norm.length c2, .slice A3 raw.length c3, .slice A4 reps.length c4, .int .i64 n, .int .i64 now, .int .i64 limit] w fun e w' => e = .returned (.bool true) ∧ Below w.heap.size w w' := by
  have g1 : decide ((l.length : Int) ≤ 400) = true := by simp; omega
  have g3 : ¬ (70 : Int) < (raw.length : Int) := by omega
  have g4 : ¬ (40 : Int) < (reps.length : Int) := by omega
  have g2 : ¬ (80 : Int) < (norm.length : Int) := by omega
  have D0 := DeckAt.new (c := c1) rfl hm1 h1
  have B0 : Below w.heap.size w (w.alloc (.cells #[.slice A1 l.length c1, .int .i64 0, .int .u64 88172645463325252] 64)) := (Below.refl _ _).alloc (Nat.le_refl _) _
  clear h1
  obtain ⟨i0, hi, hz0, hz1, hz2⟩ := info_parts infoRep
  go_enter Try.func8, Try.ntmps8
  go_wp2_with (first | (go_at_call 9; refine (few_any _ _ _ _).mono ?_; rintro e w1 ⟨rfl, rfl⟩) | (go_at_call 11; refine (new_any _ _ _ _).mono ?_; rintro e w2 ⟨rfl, rfl⟩))
  clear g1 g2 g3 g4
  refine (beliefs_make _ 5 _ D0 (by omega)).mono ?_
  rintro e w1 ⟨L5, v5, rfl, hL5, hG5, hown5, d1, o1⟩
  obtain ⟨A5, c5, rfl, hbl5⟩ := own_shape hown5
  have hA5 : A5 = none → c5 = 0 := fun e => by
    subst e
    obtain ⟨_, _, e2, _⟩ := Rd.of_own (by omega) bel_len hown5 (by omega)
    cases e2
  have R5 := (Rd.of_own (by omega) bel_len hown5).mono (S' := fun b => b < w1.heap.size ∧ b ≠ w.heap.size) fun b hb => ⟨hb.2, by have := hb.1; simp at this; omega⟩
  have b1 := Only.below B0 B0.size (Nat.le_refl _) o1
  have hgw := d1.lt
  have z1 := b1.size
  have HL5 := hide hL5
  clear o1 B0 D0 hown5 hbl5 hL5
  go_wp2_with fail
  refine (new4x_any n w1).mono ?_
  rintro e w2 ⟨va, rfl, ⟨Aa, ca, rfl, Ra⟩, hb2⟩
  have z2 := hb2.size
  go_wp2_with fail
  refine (rnew4x_any n w2).mono ?_
  rintro e w3 ⟨vc, rfl, ⟨Ac, cc, rfl, Rc⟩, hb3⟩
  have z3 := hb3.size
  have SM := same_res (w0 := w) (w1 := w) (c := ca) (d := cc) (by have := newL_len n; omega) ((Ra.below hb3 fun b hb => hb.2).mono (S' := (· < w3.heap.size)) fun b hb => by omega) (Rc.mono (S' := (· < w3.heap.size)) fun b hb => hb.2)
  have HSM := hide SM
  have b3 := (b1.trans (hb2.mono z1)).trans (hb3.mono (by omega))
  have d3 := (d1.below hb2).below hb3
  have R53 := ((R5.below hb2 fun b hb => hb.1).below hb3 fun b hb => by omega).mono (S' := fun b => b < w3.heap.size ∧ b ≠ w.heap.size) fun b hb => ⟨by omega, hb.2⟩
  clear SM Ra Rc hb2 hb3 b1 d1 R5
  go_wp2_with fail
  refine HSM.out.mono ?_
  rintro e w4 ⟨rfl, hb4⟩
  have z4 := hb4.size
  have b4 := b3.trans (hb4.mono (by omega))
  have d4 := d3.below hb4
  have R54 := (R53.below hb4 fun b hb => hb.1).mono (S' := fun b => b < w4.heap.size ∧ b ≠ w.heap.size) fun b hb => ⟨by omega, hb.2⟩
  have R34 := (h3.below b4 fun b hb => hb).mono (S' := fun b => b < w4.heap.size ∧ b ≠ w.heap.size) fun b hb => ⟨by omega, by omega⟩
  have R24 := (h2.below b4 fun b hb => hb).mono (S' := fun b => b < w4.heap.size ∧ b ≠ w.heap.size) fun b hb => ⟨by omega, by omega⟩
  have R44 := (h4.below b4 fun b hb => hb).mono (S' := fun b => b < w4.heap.size ∧ b ≠ w.heap.size) fun b hb => ⟨by omega, by omega⟩
  clear hb4 HSM b3 d3 R53 h2 h3 h4
  have HEL : Hid (∀ k, k < 2 → ∃ A c L, (#[.slice A5 L5.length c5, .slice A3 raw.length c3] : Array Value)[k]? = some (.slice A L.length c) ∧ (A = none → c = 0) ∧ (∀ b ∈ L, I64 b.m) ∧ L.length ≤ 70 ∧ Rd w4 (fun b => b < w4.heap.size ∧ b ≠ w.heap.size) A 3 Bel.cells L) := hide fun k hk => by
    obtain rfl | rfl : k = 0 ∨ k = 1 := by omega
    · exact ⟨A5, c5, L5, rfl, hA5, fun b hb => by have := hG5 b hb; unfold GoodBel at this; unfold I64; omega, by have := HL5.out; omega, R54⟩
    · exact ⟨A3, c3, raw, rfl, hA3, hI, hm3, R34⟩
  have HR4 := hide R44
  have HR2 := hide R24
  have hgw4 := d4.lt
  clear R54 R34 R44 R24 hA3 hA5 hI hG5 HL5 z1 z2 z3 z4
  go_wp2_with fail
  go_loopw [102] (fun i wr => ∃ k : Nat, i = .int .i64 k ∧ k ≤ 2 ∧ DeckAt wr w.heap.size ∧ Only w.heap.size w4 wr ∧ Blk wr w4.heap.size 37 #[.slice A5 L5.length c5, .slice A3 raw.length c3]) (fun i _ => 2 - (intOf i).toNat)
  case atStart => exact ⟨0, rfl, by omega, d4.alloc _, (Only.refl _ _).alloc _, Blk.new _ _ _⟩
  case round =>
    obtain ⟨k, rfl, hk, dk, on, KB⟩ := hrel
    have zr := on.size
    clear d4
    by_cases hlt : k < 2
    · have hlt' : (k : Int) < 2 := by omega
      obtain ⟨A, c, L, he, hA, hIL, hLl, RX⟩ := HEL.out k hlt
      have ce := (KB.cell k).trans he
      clear he
      go_wp2_with fail
      refine (reports_make _ 6 22 5 _ dk (by omega) (by omega) (by omega) (by omega) (by omega) (by omega)).mono ?_
      rintro e w5 ⟨R0, v0, rfl, hR0, -, hown0, d5, o5⟩
      have z5 := o5.size
      have O5 := on.trans o5
      have R5 := (HR4.out.only O5 fun b hb => hb)
      clear ce dk
      go_wp2_with (at_builtin; refine wpList_append_any _ rfl (.tmp 107) (.tmp 108) 39 rfl wr.heap.size 33 i0 _ 5 40 Try.underlying39 hi hz0 hz1 hz2 rfl (by omega) v0 R0.length (R0.flatMap Rep.cells) rfl hown0 A4 reps.length c4 (reps.flatMap Rep.cells) rfl (flat_len rep_len reps) (fun h0 => R5.flat (by omega) rep_len h0) (flat_one rep_one reps) (by simp only [maxLen]; omega) (by omega) z5 ?_; intro v6 w6 hown6 hg6 hat6)
      have d6 : DeckAt w6 w.heap.size := d5.grown hg6 (fun k hk => by have := (hown0.lt k hk).1; omega)
      have O6 : Only w.heap.size w4 w6 := O5.grown hg6 (fun k hk => by have := (hown0.lt k hk).1; omega)
      have K6 : Blk w6 w4.heap.size 37 #[.slice A5 L5.length c5, .slice A3 raw.length c3] := Blk.grown (Only.blk o5 KB (by omega)) hg6 (fun e => by have h1 := (hown0.lt _ e.symm).1; have h2 := KB.lt; omega)
      rw [← List.length_append, ← List.flatMap_append] at hown6
      obtain ⟨R, hR⟩ : ∃ R, R0 ++ reps = R := ⟨_, rfl⟩
      have hRl : R.length ≤ 45 := by rw [← hR, List.length_append]; omega
      rw [hR] at hown6
      obtain ⟨A6, c6, rfl, -⟩ := own_shape hown6
      have HRL := hide ((Rd.of_own (by omega) rep_len hown6).mono (S' := (· < w6.heap.size)) fun b hb => hb.2)
      have z6 := O6.size
      have HRX := hide RX
      have HX := hide ((RX.only O6 fun b hb => hb).mono (S' := (· < w6.heap.size)) fun b hb => by omega)
      have HK := hide K6
      have HO := hide O6
      have HD := hide d6
      clear hown6 hg6 hat6 hown0 d5 o5 O5 R5 KB on K6 O6 d6 RX hR hR0
      go_wp2_with fail
      refine (all_any A A6 c c6 L R w6 _ (fun b hb => hb) HX.out hA HRL.out (by omega)).mono ?_
      rintro e w7 ⟨vp, rfl, ⟨Ap, cp, rfl, Rp⟩, hb7⟩
      have z7 := hb7.size
      go_wp2_with fail
      refine (rall_any A A6 c c6 L R w7 (· < w6.heap.size) (fun b hb => by omega) (HX.out.below hb7 fun b hb => hb) hIL (HRL.out.below hb7 fun b hb => hb) (by omega)).mono ?_
      rintro e w8 ⟨vq, rfl, ⟨Aq, cq, rfl, Rq⟩, hb8⟩
      have z8 := hb8.size
      have hb68 := hb7.trans (hb8.mono z7)
      go_wp2_with fail
      refine (check_any A c L w8 (· < w6.heap.size) (fun b hb => by omega) (HX.out.below hb68 fun b hb => hb)).mono ?_
      rintro e w9 ⟨rfl, hb9⟩
      have z9 := hb9.size
      have hb69 := hb68.trans (hb9.mono (by omega))
      have rc := rcheck_any A c L w9 (· < w6.heap.size) (fun b hb => by omega) (HX.out.below hb69 fun b hb => hb)
      rw [rcheck_eq L hIL] at rc
      have HRC := hide rc
      clear rc
      go_wp2_with fail
      refine HRC.out.mono ?_
      rintro e w10 ⟨rfl, hb10⟩
      have z10 := hb10.size
      have hb610 := hb69.trans (hb10.mono (by omega))
      have SM := same_res (w := w10) (w0 := w) (w1 := w) (c := cp) (d := cq) (by have := allL_len L R; omega) ((((Rp.below hb8 fun b hb => hb.2).below hb9 fun b hb => by omega).below hb10 fun b hb => by omega).mono (S' := (· < w10.heap.size)) fun b hb => by omega) (((Rq.below hb9 fun b hb => hb.2).below hb10 fun b hb => by omega).mono (S' := (· < w10.heap.size)) fun b hb => by omega)
      have HSM := hide SM
      clear SM Rp Rq hb7 hb8 hb9 hb10 hb68 hb69 HRC
      go_wp2_with fail
      refine HSM.out.mono ?_
      rintro e w11 ⟨rfl, hb11⟩
      have z11 := hb11.size
      have hb611 := hb610.trans (hb11.mono (by omega))
      have HX11 := hide ((HX.out.below hb611 fun b hb => hb).mono (S' := (· < w11.heap.size)) fun b hb => by omega)
      have HL11 := hide ((HRL.out.below hb611 fun b hb => hb).mono (S' := (· < w11.heap.size)) fun b hb => by omega)
      have HO11 := hide (HO.out.trans (Only.of_below _ hb611))
      have HD11 := hide (HD.out.below hb611)
      have zO := HO11.out.size
      have HK11 := hide (HK.out.below hb611 HK.out.lt)
      clear hb610 hb11 hb611 HSM HX HRL HO HD HK z5 z7 z8 z9 z10
      go_wp2_with fail
      go_loopw [140] (fun i wr2 => ∃ j : Nat, i = .int .i64 j ∧ j ≤ R.length ∧ Below w11.heap.size w11 wr2) (fun i _ => R.length - (intOf i).toNat)
      case atStart => exact ⟨0, rfl, Nat.zero_le _, Below.refl _ _⟩
      case round =>
        obtain ⟨j, rfl, hj, hb⟩ := hrel
        have z12 := hb.size
        by_cases hlt2 : j < R.length
        · have hlt2' : (j : Int) < (R.length : Int) := by omega
          obtain ⟨⟨dd, p, s, t, bb⟩, hx⟩ := some_at hlt2
          obtain ⟨b, o, rfl, hsb, hcc⟩ := (HL11.out.below hb fun b hb => hb).at_ hx
          have k0 := hcc 0 _ rfl
          have k1 := hcc 1 _ rfl
          have k2 := hcc 2 _ rfl
          have k3 := hcc 3 _ rfl
          have k4 := hcc 4 _ rfl
          simp only [Nat.add_zero] at k0 k1 k2 k3 k4
          have X12 := (HX11.out.below hb fun b hb => hb)
          clear hx hcc
          go_wp2_with fail
          refine (apply_any A c L ⟨dd, p, s, t, bb⟩ _ (· < w11.heap.size) (fun b hb => by simp; omega) (X12.box (fun b hb => by omega) _) hA).mono ?_
          rintro e w12 ⟨vu, rfl, ⟨Au, cu, rfl, Ru⟩, hb12⟩
          have kb := (Blk.new wr 33 #[.int .i64 dd, .int .i64 p, .int .i64 s, .int .i64 t, .bool bb]).below hb12 (by simp)
          have b12 := (hb.alloc z12 (.cells #[.int .i64 dd, .int .i64 p, .int .i64 s, .int .i64 t, .bool bb] 33)).trans (hb12.mono (by simp; omega))
          have z13 := b12.size
          clear k0 k1 k2 k3 k4
          obtain ⟨p0, p1, p2, p3, p4⟩ := kb.c5
          have hz12 := hb12.size
          simp at hz12
          go_wp2_with fail
          refine (rapply_any A c L ⟨dd, p, s, t, bb⟩ w12 (· < w11.heap.size) (fun b hb => by omega) (HX11.out.below b12 fun b hb => hb) hIL).mono ?_
          rintro e w13 ⟨vv, rfl, ⟨Av, cv, rfl, Rv⟩, hb13⟩
          have z14 := hb13.size
          have SM := same_res (w := w13) (w0 := w) (w1 := w) (c := cu) (d := cv) (by have := applyL_len L ⟨dd, p, s, t, bb⟩; omega) ((Ru.below hb13 fun b hb => hb.2).mono (S' := (· < w13.heap.size)) fun b hb => by omega) (Rv.mono (S' := (· < w13.heap.size)) fun b hb => by omega)
          have HSM := hide SM
          have b13 := b12.trans (hb13.mono z13)
          clear SM Ru Rv hb13 b12 p0 p1 p2 p3 p4 kb
          go_wp2_with fail
          refine HSM.out.mono ?_
          rintro e w14 ⟨rfl, hb14⟩
          have b14 := b13.trans (hb14.mono b13.size)
          clear HSM hb14 b13
          go_wp2_with fail
          go_roundw
          case rel => exact ⟨j + 1, by go_num, by omega, b14⟩
          case measure => simp [intOf]; omega
        · have HB12 := hide hb
          have HK12 := hide (HK11.out.below hb HK11.out.lt)
          have HR212 := hide ((HR2.out.only (HO11.out.trans (Only.of_below _ hb)) fun b hb => hb).mono (S' := (· < wr.heap.size)) fun b hb => by omega)
          have HX12 := hide ((HX11.out.below hb fun b hb => hb).mono (S' := (· < wr.heap.size)) fun b hb => by omega)
          clear hb
          rename World => wa
          go_wp2_with fail
          go_loopw [171] (fun i wr3 => ∃ j : Nat, i = .int .i64 j ∧ j ≤ 3 ∧ Below wa.heap.size wa wr3 ∧ Blk wr3 wa.heap.size 3 #[.int .i64 0, .int .i64 1, .int .i64 2, .int .i64 1, .int .i64 0] ∧ Blk wr3 (wa.heap.size + 1) 3 #[.int .i64 1, .int .i64 3, .int .i64 0, .int .i64 0, .int .i64 0] ∧
            Blk wr3 (wa.heap.size + 2) 22 #[.slice A2 norm.length c2, .slice (some ⟨wa.heap.size, 0, none⟩) 5 5, .slice (some ⟨wa.heap.size + 1, 0, none⟩) 5 5]) (fun i _ => 3 - (intOf i).toNat)
          case atStart =>
            exact ⟨0, rfl, by omega, (((Below.refl _ _).alloc (Nat.le_refl _) _).alloc (by simp) _).alloc (by simp <;> omega) _, ((Blk.new _ _ _).alloc _).alloc _, (Blk.newAt _ _ _ (by simp)).alloc _, Blk.newAt _ _ _ (by simp)⟩
          case round =>
            obtain ⟨j2, rfl, hj2, hb, kA, kB, kC⟩ := hrel
            have z20 := hb.size
            by_cases hlt3 : j2 < 3
            · have hlt3' : (j2 : Int) < 3 := by omega
              have hel : ∃ B d Z, (#[.slice A2 norm.length c2, .slice (some ⟨wa.heap.size, 0, none⟩) 5 5, .slice (some ⟨wa.heap.size + 1, 0, none⟩) 5 5] : Array Value)[j2]? = some (.slice B Z.length d) ∧ Rd wr (· < wr.heap.size) B 1 (fun n => [.int .i64 n]) Z := by
                obtain rfl | rfl | rfl : j2 = 0 ∨ j2 = 1 ∨ j2 = 2 := by omega
                · exact ⟨A2, c2, norm, rfl, (HR212.out.below hb fun b hb => hb).mono fun b hb => by omega⟩
                · exact ⟨_, _, [0, 1, 2, 1, 0], rfl, rd_ints _ kA kA.lt⟩
                · exact ⟨_, _, [1, 3, 0, 0, 0], rfl, rd_ints _ kB kB.lt⟩
              obtain ⟨B, d, Z, hz, RZ⟩ := hel
              have ce := (kC.cell j2).trans hz
              have X20 := (HX12.out.below hb fun b hb => hb).mono (S' := (· < wr.heap.size)) fun b hb => by omega
              have HX20 := hide X20
              have HZ20 := hide RZ
              clear hz X20 RZ
              go_wp2_with fail
              refine (normal_any A B c d L Z wr _ (fun b hb => hb) HX20.out hA HZ20.out).mono ?_
              rintro e w21 ⟨vu, rfl, ⟨Au, cu, rfl, Ru⟩, hb21⟩
              have z21 := hb21.size
              clear ce
              go_wp2_with fail
              refine (rnormal_any A B c d L Z w21 (· < wr.heap.size) (fun b hb => by omega) (HX20.out.below hb21 fun b hb => hb) hIL (HZ20.out.below hb21 fun b hb => hb)).mono ?_
              rintro e w22 ⟨vv, rfl, ⟨Av, cv, rfl, Rv⟩, hb22⟩
              have z22 := hb22.size
              have SM := same_res (w := w22) (w0 := w) (w1 := w) (c := cu) (d := cv) (by have := normL_len L Z; omega) ((Ru.below hb22 fun b hb => hb.2).mono (S' := (· < w22.heap.size)) fun b hb => by omega) (Rv.mono (S' := (· < w22.heap.size)) fun b hb => by omega)
              have HSM := hide SM
              have b22 := hb21.trans (hb22.mono z21)
              clear SM Ru Rv hb21 hb22
              go_wp2_with fail
              refine HSM.out.mono ?_
              rintro e w23 ⟨rfl, hb23⟩
              have b23 := b22.trans (hb23.mono (by omega))
              clear HSM hb23 b22
              go_wp2_with fail
              go_roundw
              case rel => exact ⟨j2 + 1, by go_num, by omega, hb.trans (b23.mono (by omega)), kA.below b23 kA.lt, kB.below b23 kB.lt, kC.below b23 kC.lt⟩
              case measure => simp [intOf]; omega
            · have bAll := HB12.out.trans (hb.mono (by omega))
              have hO20 := HO11.out.trans (Only.of_below _ bAll)
              have hD20 := HD11.out.below bAll
              have hK20 := HK11.out.below bAll HK11.out.lt
              have HB20 := hide bAll
              have HO20 := hide hO20
              have HK20 := hide hK20
              clear bAll hO20 hK20 hb kA kB kC HB12 HK12 HR212 HX12 HK11 HO11 HD11 HX11 HL11 HB20
              rename World => wb
              go_wp2_with fail
              refine (next_any w.heap.size 30 wb hD20 (by omega) (by omega)).mono ?_
              rintro e w24 ⟨x, rfl, lox, hix, -, d24, o24⟩
              have hix2 := hix (by omega)
              have z24 := o24.size
              clear hix
              go_wp2_with fail
              refine (next_any w.heap.size 20 w24 d24 (by omega) (by omega)).mono ?_
              rintro e w25 ⟨y, rfl, loy, hiy, -, d25, o25⟩
              have hiy2 := hiy (by omega)
              have z25 := o25.size
              have hO25 := (HO20.out.trans o24).trans o25
              have zz := hO25.size
              have HX25 := hide ((HRX.out.only hO25 fun b hb => hb).mono (S' := (· < w25.heap.size)) fun b hb => by omega)
              have HO25 := hide hO25
              have HK25 := hide ((o25.blk (o24.blk HK20.out (by omega)) (by omega)))
              have HD25 := hide d25
              have HEP : Hid (∀ j, j < 2 → ∃ τ κ : Int, (#[.int .i64 now, .int .i64 limit, .int .i64 x, .int .i64 y] : Array Value)[j * 2]? = some (.int .i64 τ) ∧ (#[.int .i64 now, .int .i64 limit, .int .i64 x, .int .i64 y] : Array Value)[j * 2 + 1]? = some (.int .i64 κ) ∧ I64 τ ∧ I64 κ) := hide fun j hj => by
                obtain rfl | rfl : j = 0 ∨ j = 1 := by omega
                · exact ⟨now, limit, rfl, rfl, hnow, hlim⟩
                · exact ⟨x, y, rfl, rfl, by unfold I64; omega, by unfold I64; omega⟩
              clear hiy d24 o24 d25 o25 hO25 HO20 HK20 hD20
              go_wp2_with fail
              go_loopw [207] (fun i wr4 => ∃ j : Nat, i = .int .i64 j ∧ j ≤ 2 ∧ Below w25.heap.size w25 wr4 ∧ Blk wr4 w25.heap.size 58 #[.int .i64 now, .int .i64 limit, .int .i64 x, .int .i64 y]) (fun i _ => 2 - (intOf i).toNat)
              case atStart => exact ⟨0, rfl, by omega, (Below.refl _ _).alloc (Nat.le_refl _) _, Blk.new _ _ _⟩
              case round =>
                obtain ⟨j4, rfl, hj4, hb, kP⟩ := hrel
                have z26 := hb.size
                by_cases hlt4 : j4 < 2
                · have hlt4' : (j4 : Int) < 2 := by omega
                  obtain ⟨τ, κ, e0, e1, hτ, hκ⟩ := HEP.out j4 hlt4
                  have ce0 := (kP.cell (j4 * 2)).trans e0
                  have ce1 := (kP.cell (j4 * 2 + 1)).trans e1
                  have X26 := (HX25.out.below hb fun b hb => hb).mono (S' := (· < wr.heap.size)) fun b hb => by omega
                  have HX26 := hide X26
                  clear e0 e1 X26
                  rename World => wc
                  go_wp2_with fail
                  refine (Masks_any A c L τ κ _ (· < wc.heap.size) (fun b hb => by simp; omega) (HX26.out.box (fun b hb => hb) _)).mono ?_
                  intro e w26 hpost
                  obtain ⟨vm, rfl, ⟨Am, cm, rfl, Rm⟩, hb26⟩ := masks_ml hpost
                  have kb26 := (Blk.new wc 58 #[.int .i64 τ, .int .i64 κ]).below hb26 (by simp)
                  have z27 := hb26.size
                  simp at z27
                  have bc26 := ((Below.refl wc.heap.size wc).alloc (Nat.le_refl _) (.cells #[.int .i64 τ, .int .i64 κ] 58)).trans (hb26.mono (by simp))
                  clear ce0 ce1 hpost
                  obtain ⟨p0, p1⟩ := kb26.c2
                  go_wp2_with fail
                  refine (rmasks_any A c L τ κ w26 (· < wc.heap.size) (fun b hb => by omega) (HX26.out.below bc26 fun b hb => hb) hIL hτ hκ).mono ?_
                  intro e w27 hpost
                  obtain ⟨vm2, rfl, ⟨Am2, cm2, rfl, Rm2⟩, hb27⟩ := masks_ml hpost
                  have z28 := hb27.size
                  have kb27 := kb26.below hb27 kb26.lt
                  have bc27 := bc26.trans (hb27.mono (by omega))
                  clear p0 p1 hpost
                  obtain ⟨p0, p1⟩ := kb27.c2
                  go_wp2_with fail
                  refine (Likely_any A c L τ κ w27 (· < wc.heap.size) (fun b hb => by omega) (HX26.out.below bc27 fun b hb => hb)).mono ?_
                  intro e w28 hpost
                  obtain ⟨vl, rfl, ⟨Al, cl, rfl, Rl⟩, hb28⟩ := masks_ml hpost
                  have z29 := hb28.size
                  have kb28 := kb27.below hb28 kb27.lt
                  have bc28 := bc27.trans (hb28.mono (by omega))
                  clear p0 p1 hpost
                  obtain ⟨p0, p1⟩ := kb28.c2
                  go_wp2_with fail
                  refine (rlikely_any A c L τ κ w28 (· < wc.heap.size) (fun b hb => by omega) (HX26.out.below bc28 fun b hb => hb) hIL hτ hκ).mono ?_
                  intro e w29 hpost
                  obtain ⟨vl2, rfl, ⟨Al2, cl2, rfl, Rl2⟩, hb29⟩ := masks_ml hpost
                  have z30 := hb29.size
                  have kb29 := kb28.below hb29 kb28.lt
                  have bc29 := bc28.trans (hb29.mono (by omega))
                  have I1 := ints_res (w := w29) (c := cm) (d := cm2) (by have := ml_len L (fun b => maskK b τ κ); omega) ((((Rm.below hb27 fun b hb => hb.2).below hb28 fun b hb => by omega).below hb29 fun b hb => by omega).mono (S' := (· < w29.heap.size)) fun b hb => by omega) (((Rm2.below hb28 fun b hb => hb.2).below hb29 fun b hb => by omega).mono (S' := (· < w29.heap.size)) fun b hb => by omega)
                  have HI1 := hide I1
                  have HRl := hide ((Rl.below hb29 fun b hb => hb.2).mono (S' := (· < w29.heap.size)) fun b hb => by omega)
                  have HRl2 := hide (Rl2.mono (S' := (· < w29.heap.size)) fun b hb => by omega)
                  clear p0 p1 hpost I1 Rm Rm2 Rl Rl2 hb26 hb27 hb28 hb29 bc26 bc27 bc28 kb26 kb27 kb28
                  go_wp2_with fail
                  refine HI1.out.mono ?_
                  rintro e w30 ⟨rfl, hb30⟩
                  have z31 := hb30.size
                  have I2 := ints_res (w := w30) (c := cl) (d := cl2) (by have := ml_len L (fun b => maskL b τ κ); omega) ((HRl.out.below hb30 fun b hb => hb).mono (S' := (· < w30.heap.size)) fun b hb => by omega) ((HRl2.out.below hb30 fun b hb => hb).mono (S' := (· < w30.heap.size)) fun b hb => by omega)
                  have HI2 := hide I2
                  have kb30 := kb29.below hb30 kb29.lt
                  have bc30 := bc29.trans (hb30.mono (by omega))
                  clear I2 HI1 HRl HRl2 hb30 bc29 kb29
                  go_wp2_with fail
                  refine HI2.out.mono ?_
                  rintro e w31 ⟨rfl, hb31⟩
                  have z32 := hb31.size
                  have kb31 := kb30.below hb31 kb30.lt
                  have bc31 := bc30.trans (hb31.mono (by omega))
                  have HX31 := hide ((HX26.out.below bc31 fun b hb => hb).mono (S' := (· < w31.heap.size)) fun b hb => by omega)
                  have HB31 := hide bc31
                  have HKB := hide kb31
                  have HBP := hide hb
                  have HKP := hide kP
                  clear HI2 hb31 bc30 kb30 kb31 bc31 hb kP HX26
                  go_wp2_with fail
                  go_loopw [269] (fun i wr5 => ∃ q : Nat, i = .int .i64 q ∧ q ≤ L.length ∧ Below w31.heap.size w31 wr5) (fun i _ => L.length - (intOf i).toNat)
                  case atStart => exact ⟨0, rfl, Nat.zero_le _, Below.refl _ _⟩
                  case round =>
                    obtain ⟨q, rfl, hq, hb⟩ := hrel
                    have z33 := hb.size
                    by_cases hlt5 : q < L.length
                    · have hlt5' : (q : Int) < (L.length : Int) := by omega
                      obtain ⟨⟨t, m, nn⟩, hx⟩ := some_at hlt5
                      obtain ⟨b, o, rfl, hsb, hcc⟩ := (HX31.out.below hb fun b hb => hb).at_ hx
                      have k0 := hcc 0 _ rfl
                      have k1 := hcc 1 _ rfl
                      have k2 := hcc 2 _ rfl
                      simp only [Nat.add_zero] at k0 k1 k2
                      have hIx := hIL _ (List.mem_of_getElem? hx)
                      have HIx := hide hIx
                      have kbr := HKB.out.below hb HKB.out.lt
                      obtain ⟨p0, p1⟩ := kbr.c2
                      have kbl := HKB.out.lt
                      have kbl2 := kbr.lt
                      clear hx hcc hIx
                      go_wp2_with fail
                      refine (sure_any ⟨t, m, nn⟩ τ κ _).mono ?_
                      rintro e w32 ⟨rfl, hb32⟩
                      have kx := (Blk.new wr 30 #[.int .i64 t, .int .i64 m, .int .i64 nn]).below hb32 (by simp)
                      have kb32 := (kbr.alloc (.cells #[.int .i64 t, .int .i64 m, .int .i64 nn] 30)).below hb32 (by simp; omega)
                      have b32 := (hb.alloc z33 (.cells #[.int .i64 t, .int .i64 m, .int .i64 nn] 30)).trans (hb32.mono (by simp; omega))
                      clear k0 k1 k2 p0 p1
                      obtain ⟨k0, k1, k2⟩ := kx.c3
                      obtain ⟨p0, p1⟩ := kb32.c2
                      go_wp2_with fail
                      refine (rsure_any ⟨t, m, nn⟩ τ κ w32 HIx.out hτ hκ).mono ?_
                      rintro e w33 ⟨rfl, hb33⟩
                      have b33 := b32.trans (hb33.mono b32.size)
                      clear k0 k1 k2 p0 p1 kx kb32 kbr b32 hb32 hb33
                      go_wp2_with fail
                      go_roundw
                      case rel => exact ⟨q + 1, by go_num, by omega, b33⟩
                      case measure => simp [intOf]; omega
                    · have bAll := HBP.out.trans ((HB31.out.trans (hb.mono (by omega))).mono z26)
                      have kAll := (HKP.out.below (HB31.out.trans (hb.mono (by omega))) HKP.out.lt)
                      clear hb
                      go_wp2_with fail
                      go_roundw
                      case rel => exact ⟨j4 + 1, by go_num, by omega, bAll, kAll⟩
                      case measure => simp [intOf]; omega
                · have d27 := HD25.out.below hb
                  have o27 := HO25.out.trans (Only.of_below _ hb)
                  have k27 := HK25.out.below hb HK25.out.lt
                  clear hb kP
                  go_wp2_with fail
                  go_roundw
                  case rel => exact ⟨k + 1, by go_num, by omega, d27, o27, k27⟩
                  case measure => simp [intOf]; omega
    · have bE := Only.below b4 (by omega) (Nat.le_refl _) on
      clear KB on dk
      go_wp2_with fail
      refine (awake_any _).mono ?_
      rintro e w40 ⟨rfl, hb40⟩
      go_wp2_with fail
      go_ret
      exact ⟨rfl, bE.trans (hb40.mono bE.size)⟩
end Go.Proofs.Ytmicckgfpodahaa
