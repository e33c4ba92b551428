/- BeliefStorms' walk: it returns true; conditions: a slice of integers that reads as a list. -/
import Derived.Test.YtmicckgfpodahaaTrue
import Derived.Deep.DeepCutAuto
set_option linter.unusedVariables false
set_option linter.unusedSimpArgs false
namespace Go.Proofs.Ytmicckgfpodahaa
open Go Go.RowKit
theorem storm_many (A : Option Addr) (m c : Nat) (k : Int) (w : World) (hm : ¬ m ≤ 400) : Calls Try.prog 4 #[.slice A m c, .int .u8 k] w fun e w' => e = .returned (.bool true) ∧ Below w.heap.size w w' := by
  have hm' : (decide ((m : Int) ≤ 400)) = false := by simp; omega
  go_enter Try.func4, Try.ntmps4
  go_wp2_with (first | (go_at_call 9; refine (few_any _ _ _ _).mono ?_; rintro e w1 ⟨rfl, rfl⟩) | (go_at_call 10; refine (awake_any _).mono ?_; rintro e w2 ⟨rfl, hb2⟩))
  go_ret
  exact ⟨rfl, hb2⟩
def Doubt (p s : Int) (bb : Bool) : Prop := (s = 4 ∧ p = 0 ∧ bb = false) ∨ (s = 3 ∧ (p = 1 ∨ p = 2) ∧ bb = false) ∨ (s = 1 ∧ (p = 1 ∨ p = 2) ∧ bb = true)
theorem timeB_of {t : Int} (h0 : 0 ≤ t) (h1 : t ≤ 16777216) : timeB t = true := by simp [timeB, h0, h1]
theorem andNot_small {m : Int} (h0 : 0 ≤ m) (h1 : m ≤ 1023) : bits .andNot .i64 m 1023 = 0 := by
  obtain ⟨a, rfl⟩ := Int.eq_ofNat_of_zero_le h0
  have ha : a < 1024 := by omega
  have e : ((a : Nat) : Int) = (((⟨a, ha⟩ : Fin 1024).val : Nat) : Int) := rfl
  rw [e]
  generalize (⟨a, ha⟩ : Fin 1024) = f
  revert f
  decide +kernel
theorem valid_good {t m n : Int} (h0 : 0 ≤ t) (h1 : t ≤ 16777216) (h2 : 0 ≤ m) (h3 : m ≤ 1023) (h4 : 0 ≤ n) (h5 : n ≤ 2) : validE t m n = 0 := by
  unfold validE
  rw [timeB_of h0 h1, andNot_small h2 h3]
  simp
  omega
theorem storm_merge {t m n τ p s : Int} {bb : Bool} (h0 : 0 ≤ t) (h1 : t < τ) (h2 : 0 ≤ m) (h3 : m ≤ 1023) (h4 : 0 ≤ n) (h5 : n ≤ 2) (h6 : τ ≤ 100) (hd : Doubt p s bb) :
    ∃ k : Int, merge ⟨t, m, n⟩ ⟨0, p, s, τ, bb⟩ = ⟨τ, k, n⟩ ∧ 0 < k ∧ k ≤ 1023 ∧ bits .and .i64 k 960 ≠ 0 := by
  have hv : reportE 0 p s τ bb 64 = 0 := by
    have ht := timeB_of (t := τ) (by omega) (by omega)
    rcases hd with ⟨rfl, rfl, rfl⟩ | ⟨rfl, rfl | rfl, rfl⟩ | ⟨rfl, rfl | rfl, rfl⟩ <;> simp [reportE, ht]
  have hm : merge ⟨t, m, n⟩ ⟨0, p, s, τ, bb⟩ = ⟨τ, markI p s bb, n⟩ := by
    have hvb : validE t m n = 0 := valid_good h0 (by omega) h2 h3 h4 h5
    unfold merge
    rw [if_pos ⟨hvb, hv⟩, if_pos (.inr h1)]
  refine ⟨_, hm, ?_⟩
  rcases hd with ⟨rfl, rfl, rfl⟩ | ⟨rfl, rfl | rfl, rfl⟩ | ⟨rfl, rfl | rfl, rfl⟩ <;> decide +kernel
theorem old_merge {τ k n : Int} {r : Rep} (h1 : 0 ≤ τ) (h2 : 0 < k) (hr : r.t < τ) : merge ⟨τ, k, n⟩ r = ⟨τ, k, n⟩ := by
  unfold merge
  split
  · rw [if_neg (by rintro (h | h) <;> simp at h <;> omega), if_neg (by simp; omega)]
  · rfl
theorem later_merge {τ k n : Int} (h1 : 0 ≤ τ) (h6 : τ ≤ 100) (h2 : 0 < k) (h3 : k ≤ 1023) (h4 : 0 ≤ n) (h5 : n ≤ 2) : merge ⟨τ, k, n⟩ ⟨0, 2, 2, τ + 1, false⟩ = ⟨τ + 1, 2, n⟩ := by
  have ht := timeB_of (t := τ + 1) (by omega) (by omega)
  have hvb : validE τ k n = 0 := valid_good h1 (by omega) (by omega) h3 h4 h5
  unfold merge
  rw [if_pos ⟨hvb, by simp [reportE, ht]⟩, if_pos (.inr (by simp; omega))]
  rfl
theorem doubt_sure {τ k n now limit : Int} (hb : bits .and .i64 k 960 ≠ 0) : sure ⟨τ, k, n⟩ now limit = (0, 0) := by
  unfold sure
  rw [if_neg (fun h => hb h.2)]
theorem seen_sure {t n now limit : Int} (h1 : 0 ≤ t) (h6 : t ≤ 1000) (h4 : 0 ≤ n) (h5 : n ≤ 2) : sure ⟨t, 2, n⟩ now limit = (2, 2) := by
  have hvb : validE t 2 n = 0 := valid_good h1 (by omega) (by omega) (by omega) h4 h5
  rw [sure_m ⟨t, 2, n⟩ now limit hvb]
  show sureM 2 (freshB now t limit) = (2, 2)
  generalize freshB now t limit = f
  cases f <;> decide +kernel
set_option maxRecDepth 100000 in
set_option maxHeartbeats 2000000 in
theorem storm_few (A : Option Addr) (c : Nat) (l : List Int) (k : Int) (w : World) (hm : l.length ≤ 400) (h : Rd w (· < w.heap.size) A 1 (fun n => [.int .i64 n]) l) (hk0 : 0 ≤ k) (hk1 : k ≤ 255) :
    Calls Try.prog 4 #[.slice A l.length c, .int .u8 k] w fun e w' => e = .returned (.bool true) ∧ Below w.heap.size w w' := by
  have hm' : (decide ((l.length : Int) ≤ 400)) = true := by simp; omega
  have D0 := DeckAt.new (c := c) rfl hm h
  have B0 : Below w.heap.size w (w.alloc (.cells #[.slice A l.length c, .int .i64 0, .int .u64 88172645463325252] 64)) := (Below.refl _ _).alloc (Nat.le_refl _) _
  clear h
  go_enter Try.func4, Try.ntmps4
  go_wp2_with (first | (go_at_call 9; refine (few_any _ _ _ _).mono ?_; rintro e w1 ⟨rfl, rfl⟩) | (go_at_call 11; refine (new_any _ _ _ _).mono ?_; rintro e w2 ⟨rfl, rfl⟩))
  refine (beliefs_make _ 1 _ D0 (by omega)).mono ?_
  rintro e w1 ⟨L, v, rfl, hL, hg, hown, d1, o1⟩
  obtain ⟨A1, c1, rfl, _⟩ := own_shape hown
  obtain ⟨⟨t, m, n⟩, hx⟩ := some_at (L := L) (k := 0) (by omega)
  obtain ⟨gt0, gt1, gm0, gm1, gn0, gn1⟩ := hg _ (List.mem_of_getElem? hx)
  simp only at gt0 gt1 gm0 gm1 gn0 gn1
  obtain ⟨b0, o0, rfl, hs0, hc0⟩ := (Rd.of_own (by omega) bel_len' hown).at_ hx
  have x0 := hc0 0 _ rfl
  have x1 := hc0 1 _ rfl
  have x2 := hc0 2 _ rfl
  simp only [Nat.zero_mul, Nat.add_zero] at x0 x1 x2
  have b1 := Only.below B0 B0.size (Nat.le_refl _) o1
  have HL := hide hL
  have hL1 : (0 : Int) < (L.length : Int) := by omega
  clear hc0 hx hg hown o1 B0 D0 hL
  go_wp2_with fail
  have KB := Blk.new w1 30 #[.int .i64 t, .int .i64 m, .int .i64 n]
  have d2 := d1.alloc (.cells #[.int .i64 t, .int .i64 m, .int .i64 n] 30)
  have b2 := b1.alloc b1.size (.cells #[.int .i64 t, .int .i64 m, .int .i64 n] 30)
  have hgw := d1.lt
  clear x0 x1 x2 d1 b1
  obtain ⟨x0, x1, x2⟩ := KB.c3
  go_cut [7] (fun s7 wc => ∃ τ : Int, s7 = .int .i64 τ ∧ t < τ ∧ τ ≤ 40 ∧ Blk wc w1.heap.size 30 #[.int .i64 t, .int .i64 m, .int .i64 n] ∧ DeckAt wc w.heap.size ∧ Below w.heap.size w wc)
  case first =>
    have hwt : IntKind.i64.wrap (t + 1) = t + 1 := IntWalk.i64_in _ (by omega)
    go_region_with (go_at_call 13; refine (next_any _ _ _ (DeckAt.drew d2) (by omega) (by omega)).mono ?_; rintro e w3 ⟨x, rfl, lox, hix, -, d3, o3⟩; have hx2 : x < 10 := hix (by omega); have hwx : IntKind.i64.wrap (t + 1 + x) = t + 1 + x := IntWalk.i64_in _ (by omega); have k3 := o3.blk (Blk.drew KB) (by omega); clear x0 x1 x2; obtain ⟨x0, x1, x2⟩ := k3.c3)
    all_goals
      go_wp2_with fail
      go_meet
      exact ⟨t + 1 + x, rfl, by omega, by omega, k3, d3, Only.below (Below.drew b2) b2.size (Nat.le_refl _) o3⟩
  case rest =>
    clear KB d2 b2 x0 x1 x2
    obtain ⟨τ, rfl, ht1, ht2, k3, d3, b3⟩ := hcut
    go_upto_region 6 with fail
    go_cut [8] (fun s8 wc => ∃ (hr : Nat) (p s : Int) (bb : Bool), s8 = .pointer (some ⟨hr, 0, none⟩) ∧ Hid (Doubt p s bb) ∧ Blk wc hr 33 #[.int .i64 0, .int .i64 p, .int .i64 s, .int .i64 τ, .bool bb] ∧ Blk wc w1.heap.size 30 #[.int .i64 t, .int .i64 m, .int .i64 n] ∧ DeckAt wc w.heap.size ∧ Below w.heap.size w wc ∧ w1.heap.size < hr)
    case first =>
      go_wp2_with fail
      refine (next_any _ _ _ d3 (by omega) (by omega)).mono ?_
      rintro e w4 ⟨x, rfl, lox, hix, -, d4, o4⟩
      have hx1 : x ≤ 1 := by have := hix (by omega); omega
      have hw4 : IntKind.i64.wrap (1 + x) = 1 + x := IntWalk.i64_in _ (by omega)
      go_wp2_with fail
      refine (next_any _ _ _ d4 (by omega) (by omega)).mono ?_
      rintro e w5 ⟨y, rfl, loy, hiy, -, d5, o5⟩
      have hy1 : y ≤ 1 := by have := hiy (by omega); omega
      have hw5 : IntKind.i64.wrap (1 + y) = 1 + y := IntWalk.i64_in _ (by omega)
      have k5 := o5.blk (o4.blk k3 (by omega)) (by omega)
      have b5 := Only.below (Only.below b3 b3.size (Nat.le_refl _) o4) (by have := b3.size; have := o4.size; omega) (Nat.le_refl _) o5
      have hz5 := k5.lt
      clear k3 d3 b3 d4 o4 o5 hix hiy
      have hk3 : k % 3 = 0 ∨ k % 3 = 1 ∨ k % 3 = 2 := by omega
      rcases hk3 with hk3 | hk3 | hk3
      · go_wp2_with fail
        go_meet
        exact ⟨w5.heap.size + 1, 0, 4, false, rfl, hide (.inl ⟨rfl, rfl, rfl⟩), Blk.newAt _ _ _ (by simp), (k5.alloc _).alloc _, (d5.alloc _).alloc _, (b5.alloc b5.size _).alloc (by have := b5.size; simp; omega) _, by omega⟩
      · go_wp2_with fail
        go_meet
        exact ⟨w5.heap.size + 1, 1 + x, 3, false, rfl, hide (.inr (.inl ⟨rfl, by omega, rfl⟩)), Blk.newAt _ _ _ (by simp), (k5.alloc _).alloc _, (d5.alloc _).alloc _, (b5.alloc b5.size _).alloc (by have := b5.size; simp; omega) _, by omega⟩
      · go_wp2_with fail
        go_meet
        exact ⟨w5.heap.size + 1, 1 + y, 1, true, rfl, hide (.inr (.inr ⟨rfl, by omega, rfl⟩)), Blk.newAt _ _ _ (by simp), (k5.alloc _).alloc _, (d5.alloc _).alloc _, (b5.alloc b5.size _).alloc (by have := b5.size; simp; omega) _, by omega⟩
    case rest =>
      clear k3 d3 b3
      obtain ⟨hr, p, s, bb, rfl, hd, r3, k3, d3, b3, hlt3⟩ := hcut
      obtain ⟨kk, hmg, hk0', hk1', hk2'⟩ := storm_merge gt0 ht1 gm0 gm1 gn0 gn1 (by omega) hd.out
      have M1 := fun W => merge_any ⟨t, m, n⟩ ⟨0, p, s, τ, bb⟩ W
      rw [hmg] at M1
      have M3 := fun W => merge_any ⟨τ, kk, n⟩ ⟨0, 2, 2, τ + 1, false⟩ W
      rw [later_merge (by omega) (by omega) hk0' hk1' gn0 gn1] at M3
      have S1 := fun W => sure_any ⟨τ, kk, n⟩ τ 5 W
      rw [doubt_sure hk2'] at S1
      have S2 := fun W => sure_any ⟨τ + 1, 2, n⟩ (τ + 90) 5 W
      rw [seen_sure (by omega) (by omega) gn0 gn1] at S2
      have H1 := hide M1; have H3 := hide M3; have H4 := hide S1; have H5 := hide S2; have HK := hide hk2'
      clear M1 M3 S1 S2 hmg hk2' hd
      obtain ⟨x0, x1, x2, x3, x4⟩ := r3.c5
      obtain ⟨y0, y1, y2⟩ := k3.c3
      go_wp2_with fail
      refine (H1.out _).mono ?_
      rintro e w6 ⟨rfl, hb6⟩
      have kb6 := k3.below hb6 k3.lt
      have d6 := (d3.below hb6).alloc (.cells #[.int .i64 τ, .int .i64 kk, .int .i64 n] 30)
      have b6 := b3.trans (hb6.mono b3.size)
      have z6 := b6.size
      have kc6 := Blk.new w6 30 #[.int .i64 τ, .int .i64 kk, .int .i64 n]
      have b6' := b6.alloc z6 (.cells #[.int .i64 τ, .int .i64 kk, .int .i64 n] 30)
      have hl6 := kb6.lt
      have kb6 := kb6.alloc (.cells #[.int .i64 τ, .int .i64 kk, .int .i64 n] 30)
      clear x0 x1 x2 x3 x4 y0 y1 y2 r3 k3 d3 b3 hb6 H1 b6
      go_wp2_with fail
      refine (report_make _ 1 τ _ d6 (by omega) (by omega) (by omega) (by omega)).mono ?_
      rintro e w7 ⟨r, rfl, ⟨_, _, hr0, hr1, _⟩, d7, o7⟩
      have hrt : r.t < τ := hr1 (by omega)
      have M2 := fun W => merge_any ⟨τ, kk, n⟩ r W
      rw [old_merge (by omega) hk0' hrt] at M2
      have H2 := hide M2
      have kb7 := (o7.blk kb6 (by omega)).alloc (.cells #[.int .i64 r.d, .int .i64 r.p, .int .i64 r.s, .int .i64 r.t, .bool r.b] 33)
      have kc7 := o7.blk kc6 (by omega)
      have hl7 := kc7.lt
      have kc7 := kc7.alloc (.cells #[.int .i64 r.d, .int .i64 r.p, .int .i64 r.s, .int .i64 r.t, .bool r.b] 33)
      have ko7 := Blk.new w7 33 #[.int .i64 r.d, .int .i64 r.p, .int .i64 r.s, .int .i64 r.t, .bool r.b]
      have b7 := (Only.below b6' (by simp; omega) (Nat.le_refl _) o7).alloc (by have := o7.size; simp at this; omega) (.cells #[.int .i64 r.d, .int .i64 r.p, .int .i64 r.s, .int .i64 r.t, .bool r.b] 33)
      clear M2 kb6 kc6 d6 b6' o7 d7
      obtain ⟨x0, x1, x2, x3, x4⟩ := ko7.c5
      obtain ⟨y0, y1, y2⟩ := kc7.c3
      go_wp2_with fail
      refine (H2.out _).mono ?_
      rintro e w8 ⟨rfl, hb8⟩
      have kb8 := (kb7.below hb8 kb7.lt).alloc (.cells #[.int .i64 τ, .int .i64 kk, .int .i64 n] 30)
      have kc8 := kc7.below hb8 kc7.lt
      have hl8 := kc8.lt
      have kc8 := kc8.alloc (.cells #[.int .i64 τ, .int .i64 kk, .int .i64 n] 30)
      have ke8 := Blk.new w8 30 #[.int .i64 τ, .int .i64 kk, .int .i64 n]
      have b8 := b7.trans (hb8.mono b7.size)
      have b8 := b8.alloc b8.size (.cells #[.int .i64 τ, .int .i64 kk, .int .i64 n] 30)
      clear x0 x1 x2 x3 x4 y0 y1 y2 kb7 kc7 ko7 b7 hb8 H2
      obtain ⟨y0, y1, y2⟩ := ke8.c3
      go_wp2_with fail
      refine (H3.out _).mono ?_
      rintro e w9 ⟨rfl, hb9⟩
      have kb9 := (kb8.below hb9 kb8.lt).alloc (.cells #[.int .i64 (τ + 1), .int .i64 2, .int .i64 n] 30)
      have kc9 := (kc8.below hb9 kc8.lt).alloc (.cells #[.int .i64 (τ + 1), .int .i64 2, .int .i64 n] 30)
      have ke9 := ke8.below hb9 ke8.lt
      have hl9 := ke9.lt
      have ke9 := ke9.alloc (.cells #[.int .i64 (τ + 1), .int .i64 2, .int .i64 n] 30)
      have kf9 := Blk.new w9 30 #[.int .i64 (τ + 1), .int .i64 2, .int .i64 n]
      have b9 := b8.trans (hb9.mono b8.size)
      have b9 := b9.alloc b9.size (.cells #[.int .i64 (τ + 1), .int .i64 2, .int .i64 n] 30)
      clear y0 y1 y2 kb8 kc8 ke8 b8 hb9 H3
      obtain ⟨y0, y1, y2⟩ := kc9.c3
      go_wp2_with fail
      refine (H4.out _).mono ?_
      rintro e w10 ⟨rfl, hb10⟩
      have kb10 := kb9.below hb10 kb9.lt
      have kc10 := kc9.below hb10 kc9.lt
      have ke10 := ke9.below hb10 ke9.lt
      have kf10 := kf9.below hb10 kf9.lt
      have b10 := b9.trans (hb10.mono b9.size)
      clear y0 y1 y2 kb9 kc9 ke9 kf9 b9 hb10 H4
      obtain ⟨y0, y1, y2⟩ := kf10.c3
      go_wp2_with fail
      refine (H5.out _).mono ?_
      rintro e w11 ⟨rfl, hb11⟩
      have b11 := b10.trans (hb11.mono b10.size)
      obtain ⟨p0, p1, p2⟩ := (kb10.below hb11 kb10.lt).c3
      obtain ⟨p3, p4, p5⟩ := (kc10.below hb11 kc10.lt).c3
      obtain ⟨p6, p7, p8⟩ := (ke10.below hb11 ke10.lt).c3
      obtain ⟨p9, p10, p11⟩ := (kf10.below hb11 kf10.lt).c3
      have hq := eqlBel
      clear y0 y1 y2 kb10 kc10 ke10 kf10 b10 hb11 H5
      go_wp2_with fail
      refine (awake_any _).mono ?_
      rintro e w12 ⟨rfl, hb12⟩
      go_wp2_with fail
      go_ret
      exact ⟨rfl, b11.trans (hb12.mono b11.size)⟩
end Go.Proofs.Ytmicckgfpodahaa
