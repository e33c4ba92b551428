/- The maker of beliefs of the package permitofficemake: it makes some valid beliefs; conditions: a deck, and a small number. -/
import Derived.Test.YtmicckgfpodahaaMk2
set_option linter.unusedVariables false
set_option linter.unusedSimpArgs false
namespace Go.Proofs.Ytmicckgfpodahaa
open Go Go.RowKit
def GoodBel (b : Bel) : Prop := 0 ≤ b.t ∧ b.t < 20 ∧ 0 ≤ b.m ∧ b.m ≤ 1023 ∧ 0 ≤ b.n ∧ b.n ≤ 2
theorem or_small (m k : Int) (h0 : 0 ≤ m) (h1 : m ≤ 1023) (h2 : 0 ≤ k) (h3 : k ≤ 1023) : 0 ≤ bits .or .i64 m k ∧ bits .or .i64 m k ≤ 1023 := by
  obtain ⟨a, rfl⟩ := Int.eq_ofNat_of_zero_le h0
  obtain ⟨b, rfl⟩ := Int.eq_ofNat_of_zero_le h2
  have hx : a ||| b < 2 ^ 10 := Nat.or_lt_two_pow (by omega) (by omega)
  have e : bits .or .i64 (a : Int) (b : Int) = ((a ||| b : Nat) : Int) := by
    show IntKind.i64.wrap ((BitVec.ofInt 64 (a : Int) ||| BitVec.ofInt 64 (b : Int)).toNat : Int) = _
    rw [BitVec.toNat_or, BitVec.ofInt_natCast, BitVec.ofInt_natCast, BitVec.toNat_ofNat, BitVec.toNat_ofNat, Nat.mod_eq_of_lt (by omega), Nat.mod_eq_of_lt (by omega), IntKind.wrap_i64]
    omega
  rw [e]
  omega
theorem pow_small (x : Int) (h0 : 0 ≤ x) (h1 : x < 10) : 0 ≤ wrap64 (2 ^ min x.toNat 64) ∧ wrap64 (2 ^ min x.toNat 64) ≤ 1023 := by
  have h : x = 0 ∨ x = 1 ∨ x = 2 ∨ x = 3 ∨ x = 4 ∨ x = 5 ∨ x = 6 ∨ x = 7 ∨ x = 8 ∨ x = 9 := by omega
  rcases h with rfl | rfl | rfl | rfl | rfl | rfl | rfl | rfl | rfl | rfl <;> decide +kernel
def BelsPost (g : Nat) (n : Nat) (w : World) (e : Ending) (w' : World) : Prop :=
  ∃ (L : List Bel) (v : Value), e = .returned v ∧ L.length = n ∧ (∀ b ∈ L, GoodBel b) ∧ w'.ownsRow w.heap.size 30 3 v L.length (L.flatMap Bel.cells) ∧ DeckAt w' g ∧ Only g w w'
set_option maxHeartbeats 2000000 in
theorem beliefs_make (g : Nat) (n : Nat) (w : World) (hd : DeckAt w g) (hn : n ≤ 100) :
    Calls Try.prog 16 #[.pointer (some ⟨g, 0, none⟩), .int .i64 n] w (BelsPost g n w) := by
  have hg := hd.lt
  obtain ⟨i0, hi, hz0, hz1, hz2⟩ := info_parts infoBel
  go_enter Try.func16, Try.ntmps16
  go_wp2_with fail
  go_loopw [5, 6, 7, 8] (fun v i _ _ wr => ∃ (L : List Bel), i = .int .i64 L.length ∧ L.length ≤ n ∧ Hid (∀ b ∈ L, GoodBel b) ∧ wr.ownsRow w.heap.size 30 3 v L.length (L.flatMap Bel.cells) ∧ DeckAt wr g ∧ Only g w wr) (fun _ i _ _ _ => n - (intOf i).toNat)
  case atStart => exact ⟨[], rfl, Nat.zero_le _, hide (by simp), World.ownsRow_nil _ _ _ _, hd, Only.refl _ _⟩
  case round =>
    obtain ⟨L, rfl, hl, hL, hown, hdk, hon⟩ := hrel
    by_cases hlt : L.length < n
    · have hlt' : (L.length : Int) < (n : Int) := by omega
      go_wp2_with fail
      refine (next_any g _ _ hdk (by omega) (by omega)).mono ?_
      rintro e w1 ⟨t, rfl, lot, hit, -, dk1, on1⟩
      go_wp2_with fail
      refine (next_any g _ _ dk1 (by omega) (by omega)).mono ?_
      rintro e w2 ⟨nn, rfl, lon, hin, -, dk2, on2⟩
      go_wp2_with fail
      refine (next_any g _ _ (dk2.alloc _) (by omega) (by omega)).mono ?_
      rintro e w3 ⟨kk, rfl, lok, hik, -, dk3, on3⟩
      have own3 := own_only ((own_only (own_only hown on1 hg) on2 hg).alloc (.cells #[.int .i64 t, .int .i64 0, .int .i64 nn] 30)) on3 hg
      have hO3 := ((((hon.trans on1).trans on2).alloc (.cells #[.int .i64 t, .int .i64 0, .int .i64 nn] 30)).trans on3)
      have hsz := hon.size
      have hsz1 := on1.size
      have hsz2 := on2.size
      have K3 := on3.blk (Blk.new w2 30 #[.int .i64 t, .int .i64 0, .int .i64 nn]) (by omega)
      go_wp2_with fail
      have hne : u5.ownBlock ≠ some w2.heap.size := fun e => by have := ((own_only (own_only hown on1 hg) on2 hg).lt _ e).2; omega
      have hw2 : w.heap.size ≤ w2.heap.size := by omega
      have hik2 := hik (by omega)
      have hit2 := hit (by omega)
      have hin2 := hin (by omega)
      have hgw2 : g < w2.heap.size := by omega
      clear hown hdk hon on1 on2 on3 dk1 dk2 hsz hsz1 hsz2 hit hin hik
      go_loopw [8] (fun k wr2 => ∃ (j : Nat) (m : Int), k = .int .i64 j ∧ j ≤ 3 ∧ 0 ≤ m ∧ m ≤ 1023 ∧ Blk wr2 w2.heap.size 30 #[.int .i64 t, .int .i64 m, .int .i64 nn] ∧ DeckAt wr2 g ∧ Only g w wr2 ∧ wr2.ownsRow w.heap.size 30 3 u5 L.length (L.flatMap Bel.cells) ∧ w2.heap.size < wr2.heap.size) (fun k _ => (intOf k).toNat)
      case atStart =>
        obtain ⟨j, rfl⟩ := Int.eq_ofNat_of_zero_le lok
        exact ⟨j, 0, rfl, by omega, by omega, by omega, K3, dk3, hO3, own3, K3.lt⟩
      case round =>
        obtain ⟨j, m, rfl, hj, hm0, hm1, K4, dk4, hO4, own4, hsz4⟩ := hrel
        have hf := K4.frozen 1
        obtain ⟨p0, p1, p2⟩ := K4.c3
        by_cases hj0 : 0 < j
        · have hj1 : (1 : Int) ≤ (j : Int) := by omega
          go_wp2_with fail
          go_region_with (go_at_call 13; refine (next_any g _ _ (DeckAt.drew dk4) (by omega) (by omega)).mono ?_; rintro e w5 ⟨x, rfl, lox, hix, -, dk5, on5⟩; have hix2 := hix (by omega); have K5 := on5.blk (Blk.drew K4) (by omega); obtain ⟨r0, r1, r2⟩ := K5.c3; have hf5 := K5.frozen 1)
          all_goals go_wp2_with fail
          all_goals have hp := pow_small x lox hix2
          all_goals have ho := or_small m _ hm0 hm1 hp.1 hp.2
          all_goals refine ⟨⟨j - 1, _, by congr 1; omega, by omega, ho.1, ho.2, K5.set_ 1 _, dk5.far hgw2 _, ((hO4.drew).trans on5).setCell (.inr hw2) _, own_set (own_only (World.ownsRow.drew own4) on5 hg) hne _, by have := on5.size; simp at this ⊢; omega⟩, by simp [intOf]; omega⟩
        · have hb := (((own4.alloc (.cells #[.int .i64 t, .int .i64 m, .int .i64 nn] 30))))
          have hsz5 := hO4.size
          go_wp2_with (at_builtin; refine wpList_append_any _ rfl (.tmp 33) (.tmp 35) _ rfl w.heap.size 30 i0 _ 3 24 Try.underlying37 hi hz0 hz1 hz2 rfl (by omega) _ L.length (L.flatMap Bel.cells) rfl hb (some ⟨wr.heap.size, 0, none⟩) 1 1 (Bel.cells ⟨t, m, nn⟩) rfl rfl (fun _ => ⟨_, rfl, one_new _ _ _ _ rfl⟩) (bel_one' _) (by simp only [maxLen]; omega) (by omega) (by simp; omega) ?_; intro v3 w6 hown3 hg3 hat3)
          have hb3 : DeckAt w6 g := (dk4.alloc _).grown hg3 (fun k hk => by have := (own4.lt k hk).1; omega)
          have hO3' : Only g w w6 := (hO4.alloc _).grown hg3 (fun k hk => (own4.lt k hk).1)
          rw [flat_snoc] at hown3
          go_wp2_with fail
          go_roundw
          case rel =>
            refine ⟨L ++ [⟨t, m, nn⟩], by simp, by simp; omega, hide ?_, by simpa using hown3, hb3, hO3'⟩
            intro q hq
            rcases List.mem_append.1 hq with h | h
            · exact hL.out q h
            · rw [List.mem_singleton.1 h]; exact ⟨lot, hit2, hm0, hm1, lon, show nn ≤ 2 by omega⟩
          case measure => simp [intOf]; omega
    · go_wp2_with fail
      go_ret
      exact ⟨L, _, rfl, by omega, hL.out, hown, hdk, hon⟩
end Go.Proofs.Ytmicckgfpodahaa
