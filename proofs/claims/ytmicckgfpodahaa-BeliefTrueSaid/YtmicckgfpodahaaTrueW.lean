/- BeliefTrue's walk; conditions: a slice of integers that reads as a list. -/
import Derived.Test.YtmicckgfpodahaaTrue
import Derived.Deep.DeepCutAuto
set_option linter.unusedVariables false
set_option linter.unusedSimpArgs false
namespace Go.Proofs.Ytmicckgfpodahaa
open Go Go.RowKit
set_option maxHeartbeats 1000000 in
theorem true_many (A : Option Addr) (m c : Nat) (w : World) (hm : ¬ m ≤ 400) : Calls Try.prog 3 #[.slice A m c] w fun e w' => e = .returned (.bool true) ∧ Below w.heap.size w w' := by
  have hm' : (decide ((m : Int) ≤ 400)) = false := by simp; omega
  go_enter Try.func3, Try.ntmps3
  go_wp2_with (first | (go_at_call 9; refine (few_any _ _ _ _).mono ?_; rintro e w1 ⟨rfl, rfl⟩) | (go_at_call 10; refine (awake_any _).mono ?_; rintro e w2 ⟨rfl, hb2⟩))
  go_ret
  exact ⟨rfl, hb2⟩
def Truth (T : Nat → Int) (n : Nat) : Prop := ∀ j, j < n → T j = 1 ∨ T j = 2
def tcells (T : Nat → Int) : Array Value := #[.int .i64 (T 0), .int .i64 (T 1), .int .i64 (T 2), .int .i64 (T 3), .int .i64 (T 4), .int .i64 (T 5), .int .i64 (T 6), .int .i64 (T 7), .int .i64 (T 8), .int .i64 (T 9), .int .i64 (T 10), .int .i64 (T 11)]
theorem tcells_at (T : Nat → Int) (j : Nat) (h : j < 12) : (tcells T)[j]? = some (.int .i64 (T j)) := by
  have : j = 0 ∨ j = 1 ∨ j = 2 ∨ j = 3 ∨ j = 4 ∨ j = 5 ∨ j = 6 ∨ j = 7 ∨ j = 8 ∨ j = 9 ∨ j = 10 ∨ j = 11 := by omega
  rcases this with rfl | rfl | rfl | rfl | rfl | rfl | rfl | rfl | rfl | rfl | rfl | rfl <;> rfl
theorem tcells_set (T : Nat → Int) (j : Nat) (v : Int) (h : j < 12) : (tcells T).setIfInBounds j (.int .i64 v) = tcells (fun i => if i = j then v else T i) := by
  have : j = 0 ∨ j = 1 ∨ j = 2 ∨ j = 3 ∨ j = 4 ∨ j = 5 ∨ j = 6 ∨ j = 7 ∨ j = 8 ∨ j = 9 ∨ j = 10 ∨ j = 11 := by omega
  rcases this with rfl | rfl | rfl | rfl | rfl | rfl | rfl | rfl | rfl | rfl | rfl | rfl <;> rfl
set_option maxHeartbeats 2000000 in
theorem true_few (A : Option Addr) (c : Nat) (l : List Int) (w : World) (hm : l.length ≤ 400) (h : Rd w (· < w.heap.size) A 1 (fun n => [.int .i64 n]) l) :
    Calls Try.prog 3 #[.slice A l.length c] w fun e w' => e = .returned (.bool true) ∧ Below w.heap.size w w' := by
  have hm' : (decide ((l.length : Int) ≤ 400)) = true := by simp; omega
  have D0 := DeckAt.new (c := c) rfl hm h
  have B0 : Below w.heap.size w (w.alloc (.cells #[.slice A l.length c, .int .i64 0, .int .u64 88172645463325252] 64)) := (Below.refl _ _).alloc (Nat.le_refl _) _
  clear h
  go_enter Try.func3, Try.ntmps3
  go_wp2_with (first | (go_at_call 9; refine (few_any _ _ _ _).mono ?_; rintro e w1 ⟨rfl, rfl⟩) | (go_at_call 11; refine (new_any _ _ _ _).mono ?_; rintro e w2 ⟨rfl, rfl⟩))
  have K0 := Blk.newAt (n := w.heap.size + 1) (w.alloc (.cells #[.slice A l.length c, .int .i64 0, .int .u64 88172645463325252] 64)) 27 (tcells (fun _ => 0)) (by simp)
  have B1 := B0.alloc B0.size (.cells (tcells (fun _ => 0)) 27)
  have D1 := D0.alloc (.cells (tcells (fun _ => 0)) 27)
  clear D0 B0
  go_loopw [5, 20] (fun pos i wr => ∃ (k : Nat) (p : Int) (T : Nat → Int), k ≤ 12 ∧ i = .int .i64 k ∧ pos = .int .i64 p ∧ Hid (p = 1 ∨ p = 2) ∧ Hid (Truth T k) ∧ Blk wr (w.heap.size + 1) 27 (tcells T) ∧ DeckAt wr w.heap.size ∧ Below w.heap.size w wr) (fun _ i _ => 12 - (intOf i).toNat)
  case atStart => exact ⟨0, 1, fun _ => 0, by omega, rfl, rfl, .inl rfl, fun j hj => by omega, K0, D1, B1⟩
  case round =>
    obtain ⟨k, p, T, hk, rfl, rfl, hp, hT, K, hd, hb⟩ := hrel
    have hz := hb.size
    by_cases hlt : k < 12
    · have hlt' : (k : Int) < 12 := by omega
      go_wp2_with fail
      refine (one_any _ _ _ hd (by omega) (by omega)).mono ?_
      rintro e w1 ⟨v, rfl, d1, o1⟩
      have K1 := o1.blk K (by omega)
      have b1 := Only.below hb hz (Nat.le_refl _) o1
      have c1 : w1.cell? ⟨w.heap.size + 1, k, none⟩ = some (.int .i64 (T k)) := (K1.cell k).trans (tcells_at T k hlt)
      have f1 := K1.frozen k
      have hp3 : 1 ≤ p ∧ p ≤ 2 := by have := hp.out; omega
      have fin : ∀ p' : Int, 1 ≤ p' ∧ p' ≤ 2 → Truth (fun i => if i = k then p' else T i) (k + 1) ∧ Blk (w1.setCell ⟨w.heap.size + 1, k, none⟩ (.int .i64 p')) (w.heap.size + 1) 27 (tcells (fun i => if i = k then p' else T i)) ∧
          DeckAt (w1.setCell ⟨w.heap.size + 1, k, none⟩ (.int .i64 p')) w.heap.size ∧ Below w.heap.size w (w1.setCell ⟨w.heap.size + 1, k, none⟩ (.int .i64 p')) := fun p' hp' => by
        refine ⟨fun j hj => ?_, ?_, d1.far (by simp) _, b1.setCell (by simp) _⟩
        · by_cases e : j = k
          · simp only [e, if_true]; omega
          · simp only [e, if_false]; exact hT.out j (by omega)
        · have := K1.set_ k (.int .i64 p')
          rwa [tcells_set T k p' hlt] at this
      have Fin := hide fin
      clear fin hd K d1 K1 b1 hb o1
      cases v
      · go_wp2_with fail
        go_roundw
        case rel => exact ⟨k + 1, p, _, by omega, by go_num, rfl, (by have := hp3; exact hide (by omega)), (Fin.out p hp3).1, (Fin.out p hp3).2.1, (Fin.out p hp3).2.2.1, (Fin.out p hp3).2.2.2⟩
        case measure => simp [intOf]; omega
      · go_wp2_with fail
        go_roundw
        case rel => exact ⟨k + 1, 3 - p, _, by omega, by go_num, rfl, (by have := hp3; exact hide (by omega)), (Fin.out (3 - p) (by omega)).1, (Fin.out (3 - p) (by omega)).2.1, (Fin.out (3 - p) (by omega)).2.2.1, (Fin.out (3 - p) (by omega)).2.2.2⟩
        case measure => simp [intOf]; omega
    · obtain rfl : k = 12 := by omega
      go_wp2_with fail
      refine (next_any _ _ _ (hd.alloc _) (by omega) (by omega)).mono ?_
      rintro e w1 ⟨v, rfl, lo1, hi1, -, d1, o1⟩
      have hgt := K.lt
      have K1 := o1.blk (K.alloc _) (by omega)
      have kb1 := o1.blk (Blk.new wr 30 #[.int .i64 0, .int .i64 0, .int .i64 0]) (by omega)
      have b1 := Only.below (hb.alloc hz (.cells #[.int .i64 0, .int .i64 0, .int .i64 0] 30)) (by simp; omega) (Nat.le_refl _) o1
      have hi2 := hi1 (by omega)
      have hT2 : Truth T 12 := hT.out
      have HT := hide hT2
      clear K hd hb hi1 o1 B1 D1 K0 hp hT hT2
      go_wp2_with fail
      obtain ⟨wo, rfl⟩ : ∃ wo : World, wo = wr := ⟨_, rfl⟩
      go_loopw [8, 9] (fun la kk wq => ∃ (b : Bel) (lat : Int) (j : Nat), kk = .int .i64 j ∧ j ≤ 13 ∧ la = .int .i64 lat ∧ Hid (Inv T b lat) ∧ Blk wq wo.heap.size 30 #[.int .i64 b.t, .int .i64 b.m, .int .i64 b.n] ∧ Blk wq (w.heap.size + 1) 27 (tcells T) ∧ DeckAt wq w.heap.size ∧ Below w.heap.size w wq) (fun _ kk _ => (intOf kk).toNat)
      case atStart =>
        obtain ⟨j, rfl⟩ := Int.eq_ofNat_of_zero_le lo1
        exact ⟨⟨0, 0, 0⟩, -1, j, rfl, by omega, rfl, .inl ⟨rfl, rfl⟩, kb1, K1, d1, b1⟩
      case round =>
        obtain ⟨b, lat, j, rfl, hj, rfl, hI, kb2, K2, d2, b2⟩ := hrel
        clear kb1 K1 d1 b1
        by_cases hj0 : 0 < j
        · have hj1 : (1 : Int) ≤ (j : Int) := by omega
          go_wp2_with fail
          refine (next_any _ _ _ d2 (by omega) (by omega)).mono ?_
          rintro e w3 ⟨t', rfl, lo3, hi3, -, d3, o3⟩
          obtain ⟨t, rfl⟩ := Int.eq_ofNat_of_zero_le lo3
          have ht : t < 12 := by have := hi3 (by omega); omega
          have kb3 := o3.blk kb2 (by omega)
          have K3 := o3.blk K2 (by omega)
          have b3 := Only.below b2 b2.size (Nat.le_refl _) o3
          have c3 : w3.cell? ⟨w.heap.size + 1, t, none⟩ = some (.int .i64 (T t)) := (K3.cell t).trans (tcells_at T t ht)
          have hi3' : (t : Int) < 12 := by omega
          have hz3 := K3.lt
          have hz4 := kb3.lt
          clear hi3 lo3 d2 b2 o3 kb2 K2
          go_wp2_with fail
          go_cut [11] (fun s11 wc => ∃ (hr : Nat) (q : Int), s11 = .pointer (some ⟨hr, 0, none⟩) ∧ 0 ≤ q ∧ q ≤ 1 ∧ Blk wc hr 33 #[.int .i64 0, .int .i64 (T t), .int .i64 (1 + q), .int .i64 t, .bool false] ∧
            Blk wc wo.heap.size 30 #[.int .i64 b.t, .int .i64 b.m, .int .i64 b.n] ∧ Blk wc (w.heap.size + 1) 27 (tcells T) ∧ DeckAt wc w.heap.size ∧ Below w.heap.size w wc ∧ wo.heap.size < hr)
          case first =>
            go_region_with (go_at_call 13; refine (next_any _ _ _ (by first | exact DeckAt.drew d3 | exact DeckAt.drew (d3.alloc _)) (by omega) (by omega)).mono ?_; rintro e w5 ⟨q, rfl, lo5, hi5, -, d5, o5⟩; have hq1 : q ≤ 1 := (by have := hi5 (by omega); omega); have hw5 : IntKind.i64.wrap (1 + q) = 1 + q := IntWalk.i64_in _ (by omega); have O3 : Only w.heap.size w3 w5 := (by first | exact ((Only.refl _ w3).drew).trans o5 | exact (((Only.refl _ w3).alloc _).drew).trans o5); have hz5 := O3.size; have hz6 : w.heap.size + 1 < w5.heap.size := (by omega); have c5 := (Blk.cell (O3.blk K3 (by omega)) t).trans (tcells_at T t ht); (try (have r5 := o5.blk (Blk.drew (Blk.newAt (n := w3.heap.size) w3 _ _ rfl)) (by omega); obtain ⟨x0, x1, x2, x3, x4⟩ := r5.c5; obtain ⟨y0, y1, y2, y3, y4⟩ := r5.f5)))
            all_goals
              have kb5 := O3.blk kb3 (by omega)
              have K5 := O3.blk K3 (by omega)
              have b5 := Only.below b3 b3.size (Nat.le_refl _) O3
              go_wp2_with fail
              go_meet
              first
                | (have r6 : Blk _ w3.heap.size 33 #[.int .i64 0, .int .i64 (T t), .int .i64 (1 + q), .int .i64 t, .bool false] := ((((r5.set_ 0 (.int .i64 0)).set_ 1 (.int .i64 (T t))).set_ 2 (.int .i64 (1 + q))).set_ 3 (.int .i64 t)).set_ 4 (.bool false)
                   have kb6 := ((((kb5.far (p := ⟨w3.heap.size, 0, none⟩) (by simp; omega) (.int .i64 0)).far (p := ⟨w3.heap.size, 1, none⟩) (by simp; omega) (.int .i64 (T t))).far (p := ⟨w3.heap.size, 2, none⟩) (by simp; omega) (.int .i64 (1 + q))).far (p := ⟨w3.heap.size, 3, none⟩) (by simp; omega) (.int .i64 t)).far (p := ⟨w3.heap.size, 4, none⟩) (by simp; omega) (.bool false)
                   have K6 := ((((K5.far (p := ⟨w3.heap.size, 0, none⟩) (by simp; omega) (.int .i64 0)).far (p := ⟨w3.heap.size, 1, none⟩) (by simp; omega) (.int .i64 (T t))).far (p := ⟨w3.heap.size, 2, none⟩) (by simp; omega) (.int .i64 (1 + q))).far (p := ⟨w3.heap.size, 3, none⟩) (by simp; omega) (.int .i64 t)).far (p := ⟨w3.heap.size, 4, none⟩) (by simp; omega) (.bool false)
                   have d6 := ((((d5.far (p := ⟨w3.heap.size, 0, none⟩) (by simp; omega) (.int .i64 0)).far (p := ⟨w3.heap.size, 1, none⟩) (by simp; omega) (.int .i64 (T t))).far (p := ⟨w3.heap.size, 2, none⟩) (by simp; omega) (.int .i64 (1 + q))).far (p := ⟨w3.heap.size, 3, none⟩) (by simp; omega) (.int .i64 t)).far (p := ⟨w3.heap.size, 4, none⟩) (by simp; omega) (.bool false)
                   have b6 := ((((b5.setCell (p := ⟨w3.heap.size, 0, none⟩) (by simp; omega) (.int .i64 0)).setCell (p := ⟨w3.heap.size, 1, none⟩) (by simp; omega) (.int .i64 (T t))).setCell (p := ⟨w3.heap.size, 2, none⟩) (by simp; omega) (.int .i64 (1 + q))).setCell (p := ⟨w3.heap.size, 3, none⟩) (by simp; omega) (.int .i64 t)).setCell (p := ⟨w3.heap.size, 4, none⟩) (by simp; omega) (.bool false)
                   exact ⟨w3.heap.size, q, rfl, lo5, hq1, r6, kb6, K6, d6, b6, by omega⟩)
                | exact ⟨w5.heap.size, q, rfl, lo5, hq1, Blk.new w5 _ _, kb5.alloc _, K5.alloc _, d5.alloc _, b5.alloc (by omega) _, by omega⟩
          case rest =>
            obtain ⟨hr, q, rfl, lq, hq, r5, kb5, K5, d5, b5, hlt5⟩ := hcut
            have hz5 := b5.size
            have hgr : w.heap.size < hr := by omega
            go_wp2_with fail
            refine (one_any _ _ _ d5 (by omega) (by omega)).mono ?_
            rintro e w6 ⟨v6, rfl, d6, o6⟩
            have r6 := o6.blk r5 (by omega)
            have kb6 := o6.blk kb5 (by omega)
            have K6 := o6.blk K5 (by omega)
            have b6 := Only.below b5 b5.size (Nat.le_refl _) o6
            clear r5 kb5 K5 d5 b5 o6 hz5
            go_upto_if 49 with fail
            go_cut [] (fun wc => ∃ (p' s' : Int) (bb : Bool), Hid ((p' = 1 ∨ p' = 2) ∧ ((p' = T t ∧ (s' = 1 ∨ s' = 2) ∧ bb = false) ∨ (s' = 1 ∧ bb = true))) ∧ Blk wc hr 33 #[.int .i64 0, .int .i64 p', .int .i64 s', .int .i64 t, .bool bb] ∧
              Blk wc wo.heap.size 30 #[.int .i64 b.t, .int .i64 b.m, .int .i64 b.n] ∧ Blk wc (w.heap.size + 1) 27 (tcells T) ∧ DeckAt wc w.heap.size ∧ Below w.heap.size w wc)
            case first =>
              cases v6
              · go_wp2_with fail
                go_meet
                exact ⟨T t, 1 + q, false, hide ⟨HT.out t ht, .inl ⟨rfl, by omega, rfl⟩⟩, r6, kb6, K6, d6, b6⟩
              · obtain ⟨x0, x1, x2, x3, x4⟩ := r6.c5
                obtain ⟨y0, y1, y2, y3, y4⟩ := r6.f5
                go_wp2_with fail
                refine (next_any _ _ _ d6 (by omega) (by omega)).mono ?_
                rintro e w7 ⟨x, rfl, lo7, hi7, -, d7, o7⟩
                have hx1 : x ≤ 1 := by have := hi7 (by omega); omega
                have hw7 : IntKind.i64.wrap (1 + x) = 1 + x := IntWalk.i64_in _ (by omega)
                have r7 := o7.blk r6 (by omega)
                have kb7 := o7.blk kb6 (by omega)
                have K7 := o7.blk K6 (by omega)
                have b7 := Only.below b6 b6.size (Nat.le_refl _) o7
                clear x0 x1 x2 x3 x4 y0 y1 y2 y3 y4 r6 kb6 K6 d6 b6 o7
                obtain ⟨x0, x1, x2, x3, x4⟩ := r7.c5
                obtain ⟨y0, y1, y2, y3, y4⟩ := r7.f5
                go_wp2_with fail
                go_meet
                have r6 : Blk _ hr 33 #[.int .i64 0, .int .i64 (1 + x), .int .i64 1, .int .i64 t, .bool true] := ((((r7.set_ 0 (.int .i64 0)).set_ 1 (.int .i64 (1 + x))).set_ 2 (.int .i64 1)).set_ 3 (.int .i64 t)).set_ 4 (.bool true)
                have kb6 := ((((kb7.far (p := ⟨hr, 0, none⟩) (by simp; omega) (.int .i64 0)).far (p := ⟨hr, 1, none⟩) (by simp; omega) (.int .i64 (1 + x))).far (p := ⟨hr, 2, none⟩) (by simp; omega) (.int .i64 1)).far (p := ⟨hr, 3, none⟩) (by simp; omega) (.int .i64 t)).far (p := ⟨hr, 4, none⟩) (by simp; omega) (.bool true)
                have K6 := ((((K7.far (p := ⟨hr, 0, none⟩) (by simp; omega) (.int .i64 0)).far (p := ⟨hr, 1, none⟩) (by simp; omega) (.int .i64 (1 + x))).far (p := ⟨hr, 2, none⟩) (by simp; omega) (.int .i64 1)).far (p := ⟨hr, 3, none⟩) (by simp; omega) (.int .i64 t)).far (p := ⟨hr, 4, none⟩) (by simp; omega) (.bool true)
                have d6 := ((((d7.far (p := ⟨hr, 0, none⟩) hgr (.int .i64 0)).far (p := ⟨hr, 1, none⟩) hgr (.int .i64 (1 + x))).far (p := ⟨hr, 2, none⟩) hgr (.int .i64 1)).far (p := ⟨hr, 3, none⟩) hgr (.int .i64 t)).far (p := ⟨hr, 4, none⟩) hgr (.bool true)
                have b6 := ((((b7.setCell (p := ⟨hr, 0, none⟩) (by simp; omega) (.int .i64 0)).setCell (p := ⟨hr, 1, none⟩) (by simp; omega) (.int .i64 (1 + x))).setCell (p := ⟨hr, 2, none⟩) (by simp; omega) (.int .i64 1)).setCell (p := ⟨hr, 3, none⟩) (by simp; omega) (.int .i64 t)).setCell (p := ⟨hr, 4, none⟩) (by simp; omega) (.bool true)
                exact ⟨1 + x, 1, true, hide ⟨by omega, .inr ⟨rfl, rfl⟩⟩, r6, kb6, K6, d6, b6⟩
            case rest =>
              clear r6 kb6 K6 d6 b6
              obtain ⟨p', s', bb, hok, r6, kb6, K6, d6, b6⟩ := hcut
              obtain ⟨j', m', hj', hm', hlat, hok'⟩ := inv_step hI.out ht hok.out.1 (HT.out t ht) hok.out.2
              have M := fun W => merge_any b ⟨0, p', s', t, bb⟩ W
              rw [hm'] at M
              have HM := hide M
              have HK := hide hok'
              clear M hm' hok hI hok'
              obtain ⟨x0, x1, x2, x3, x4⟩ := r6.c5
              obtain ⟨y0, y1, y2⟩ := kb6.c3
              go_wp2_with fail
              refine (HM.out _).mono ?_
              rintro e w8 ⟨rfl, hb8⟩
              have hz6 := hb8.size
              have kb8 := kb6.below hb8 kb6.lt
              have K8 := K6.below hb8 K6.lt
              have d8 := d6.below hb8
              have b8 := b6.trans (hb8.mono b6.size)
              have z8 := b8.size
              clear x0 x1 x2 x3 x4 y0 y1 y2 r6 kb6 K6 d6 b6 hb8 HM
              obtain ⟨y0, y1, y2⟩ := kb8.f3
              obtain ⟨x0, x1, x2⟩ := kb8.c3
              go_upto_region 23 with fail
              have KB8 : Blk _ wo.heap.size 30 #[.int .i64 j', .int .i64 m', .int .i64 0] := ((kb8.set_ 0 (.int .i64 j')).set_ 1 (.int .i64 m')).set_ 2 (.int .i64 0)
              have K9 := ((K8.far (p := ⟨wo.heap.size, 0, none⟩) (by simp; omega) (.int .i64 j')).far (p := ⟨wo.heap.size, 1, none⟩) (by simp; omega) (.int .i64 m')).far (p := ⟨wo.heap.size, 2, none⟩) (by simp; omega) (.int .i64 0)
              have d9 := ((d8.far (p := ⟨wo.heap.size, 0, none⟩) (by simp; omega) (.int .i64 j')).far (p := ⟨wo.heap.size, 1, none⟩) (by simp; omega) (.int .i64 m')).far (p := ⟨wo.heap.size, 2, none⟩) (by simp; omega) (.int .i64 0)
              have b9 := ((b8.setCell (p := ⟨wo.heap.size, 0, none⟩) (by simp; omega) (.int .i64 j')).setCell (p := ⟨wo.heap.size, 1, none⟩) (by simp; omega) (.int .i64 m')).setCell (p := ⟨wo.heap.size, 2, none⟩) (by simp; omega) (.int .i64 0)
              go_cut [8] (fun s8 wc => s8 = .int .i64 j' ∧ Blk wc wo.heap.size 30 #[.int .i64 j', .int .i64 m', .int .i64 0] ∧ Blk wc (w.heap.size + 1) 27 (tcells T) ∧ DeckAt wc w.heap.size ∧ Below w.heap.size w wc)
              case first =>
                go_wp2_with fail
                all_goals
                  go_meet
                  exact ⟨by congr 1; omega, KB8, K9, d9, b9⟩
              case rest =>
                clear KB8 K9 d9 b9 kb8 K8 d8 b8 x0 x1 x2 y0 y1 y2
                obtain ⟨rfl, kb9, K9, d9, b9⟩ := hcut
                have hz9 := b9.size
                obtain ⟨x0, x1, x2⟩ := kb9.c3
                have tok1 : True := trivial
                go_upto_region 24 with fail
                go_cut [12, 13] (fun s12 s13 wc => ∃ now limit : Int, s12 = .int .i64 (sure ⟨j', m', 0⟩ now limit).1 ∧ s13 = .int .i64 (sure ⟨j', m', 0⟩ now limit).2 ∧ Blk wc wo.heap.size 30 #[.int .i64 j', .int .i64 m', .int .i64 0] ∧ Blk wc (w.heap.size + 1) 27 (tcells T) ∧ DeckAt wc w.heap.size ∧ Below w.heap.size w wc)
                case first =>
                  go_region_with (first
                    | (go_at_call 13; have _t := tok1; refine (next_any _ _ _ (DeckAt.drew d9) (by omega) (by omega)).mono ?_; rintro e w10 ⟨now, rfl, -, -, -, d10, o10⟩; clear tok1; have kb10 := o10.blk (Blk.drew kb9) (by omega); have K10 := o10.blk (Blk.drew K9) (by omega); have b10 := Only.below (Below.drew b9) b9.size (Nat.le_refl _) o10; clear x0 x1 x2; obtain ⟨x0, x1, x2⟩ := kb10.c3)
                    | (go_at_call 13; refine (next_any _ _ _ d10 (by omega) (by omega)).mono ?_; rintro e w11 ⟨limit, rfl, -, -, -, d11, o11⟩; have kb11 := o11.blk kb10 (by omega); have K11 := o11.blk K10 (by omega); have b11 := Only.below b10 b10.size (Nat.le_refl _) o11; clear x0 x1 x2; obtain ⟨x0, x1, x2⟩ := kb11.c3)
                    | (go_at_call 15; refine (sure_any ⟨j', m', 0⟩ now limit _).mono ?_; rintro e w12 ⟨rfl, hb12⟩))
                  all_goals
                    go_wp2_with fail
                    go_meet
                    exact ⟨now, limit, rfl, rfl, kb11.below hb12 kb11.lt, K11.below hb12 K11.lt, d11.below hb12, b11.trans (hb12.mono b11.size)⟩
                case rest =>
                  clear kb9 K9 d9 b9 x0 x1 x2
                  obtain ⟨now, limit, rfl, rfl, kb9, K9, d9, b9⟩ := hcut
                  obtain ⟨x0, x1, x2⟩ := kb9.c3
                  have cT := (K9.cell j').trans (tcells_at T j' hj')
                  have hjj : (j' : Int) < 12 := by omega
                  have hS := ok_sure (now := now) (limit := limit) HK.out (show 0 ≤ (j' : Int) by omega) (by omega)
                  generalize sure ⟨j', m', 0⟩ now limit = sv at *
                  obtain ⟨sv1, sv2⟩ := sv
                  simp only at hS
                  by_cases hs2 : sv1 = 2
                  · obtain rfl := hS hs2
                    subst hs2
                    go_wp2_with fail
                    go_roundw
                    case rel => exact ⟨⟨j', m', 0⟩, j', j - 1, by congr 1; omega, by omega, rfl, .inr ⟨j', m', hj', rfl, rfl, HK.out⟩, kb9, K9, d9, b9⟩
                    case measure => simp [intOf]; omega
                  · have hs3 : (sv1 == 2) = false := by simpa using hs2
                    clear hS
                    go_wp2_with fail
                    go_roundw
                    case rel => exact ⟨⟨j', m', 0⟩, j', j - 1, by congr 1; omega, by omega, rfl, .inr ⟨j', m', hj', rfl, rfl, HK.out⟩, kb9, K9, d9, b9⟩
                    case measure => simp [intOf]; omega
        · go_wp2_with (first | (go_at_call 10; refine (awake_any _).mono ?_; rintro e w4 ⟨rfl, hb4⟩))
          go_ret
          exact ⟨rfl, b2.trans (hb4.mono b2.size)⟩
end Go.Proofs.Ytmicckgfpodahaa
