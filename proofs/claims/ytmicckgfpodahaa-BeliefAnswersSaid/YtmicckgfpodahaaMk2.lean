/- The makers of reports and beliefs of the package permitofficemake, by contracts: each makes some valid values; conditions: a deck, and sizes. -/
import Derived.Test.YtmicckgfpodahaaLists2
import Derived.Deep.RegionWith
set_option linter.unusedVariables false
set_option linter.unusedSimpArgs false
namespace Go.Proofs.Ytmicckgfpodahaa
open Go Go.RowKit
theorem own_only {g base size n : Nat} {e : TypeId} {v : Value} {xs : List Value} {w w' : World} (h : w.ownsRow base e size v n xs) (hk : Only g w w') (hg : g < base) : w'.ownsRow base e size v n xs :=
  h.kept hk (.inr (by intro e2; have := (h.lt g e2).1; omega))
theorem own_set {base size n : Nat} {e : TypeId} {v : Value} {xs : List Value} {w : World} (h : w.ownsRow base e size v n xs) {p : Addr} (hp : v.ownBlock ≠ some p.block) (u : Value) : (w.setCell p u).ownsRow base e size v n xs :=
  h.kept (row := some p.block) ⟨rfl, rfl, rfl, by simp [World.setCell], fun k _ hn => Below.heap_setCell w p u k (by rintro rfl; exact hn rfl)⟩ (.inr hp)
def GoodRep (devices times : Int) (r : Rep) : Prop := 0 ≤ r.d ∧ (1 ≤ devices → r.d < devices) ∧ 0 ≤ r.t ∧ (1 ≤ times → r.t < times) ∧ ((r.s = 4 ∧ r.p = 0 ∧ r.b = false) ∨ (1 ≤ r.s ∧ r.s ≤ 3 ∧ 1 ≤ r.p ∧ r.p ≤ 2))
def RepPost (g : Nat) (devices times : Int) (w : World) (e : Ending) (w' : World) : Prop :=
  ∃ r : Rep, e = .returned (.agg #[.int .i64 r.d, .int .i64 r.p, .int .i64 r.s, .int .i64 r.t, .bool r.b]) ∧ GoodRep devices times r ∧ DeckAt w' g ∧ Only g w w'
set_option maxHeartbeats 1000000 in
theorem report_make (g : Nat) (devices times : Int) (w : World) (hd : DeckAt w g) (h1 : -9223372036854775808 ≤ devices) (h2 : devices ≤ 9223372036854775807) (h3 : -9223372036854775808 ≤ times) (h4 : times ≤ 9223372036854775807) :
    Calls Try.prog 17 #[.pointer (some ⟨g, 0, none⟩), .int .i64 devices, .int .i64 times] w (RepPost g devices times w) := by
  have hg := hd.lt
  go_enter Try.func17, Try.ntmps17
  go_wp2_with fail
  refine (next_any g _ _ (hd.alloc _) (by omega) (by omega)).mono ?_
  rintro e w1 ⟨x, rfl, lox, hix, -, dkx, onx⟩
  go_wp2_with fail
  refine (next_any g _ _ dkx (by omega) (by omega)).mono ?_
  rintro e w2 ⟨y, rfl, loy, hiy, -, dky, ony⟩
  go_wp2_with fail
  refine (next_any g _ _ dky (by omega) (by omega)).mono ?_
  rintro e w3 ⟨z, rfl, loz, hiz, -, dkz, onz⟩
  go_wp2_with fail
  refine (next_any g _ _ dkz (by omega) (by omega)).mono ?_
  rintro e w4 ⟨u, rfl, lou, hiu, -, dku, onu⟩
  go_wp2_with fail
  refine (one_any g _ _ dku (by omega) (by omega)).mono ?_
  rintro e w5 ⟨b, rfl, db, ob⟩
  have hiy2 := hiy (by omega)
  have hiz2 := hiz (by omega)
  have K := onx.blk (Blk.new w _ _) (by omega)
  have K := onu.blk (onz.blk (ony.blk K (by omega)) (by omega)) (by omega)
  have K := ob.blk K (by omega)
  have hsz : w.heap.size < w5.heap.size := K.lt
  have HO : Only g w w5 := ((((((Only.refl g w).alloc _).trans onx).trans ony).trans onz).trans onu).trans ob
  obtain ⟨p0, p1, p2, p3, p4⟩ := K.c5
  obtain ⟨q0, q1, q2, q3, q4⟩ := K.f5
  have K := hide K
  have HD := db
  clear hiy hiz onx ony onz onu ob dkx dky dkz dku
  by_cases hz : z = 3
  · subst hz
    go_wp2_with fail
    have KF : Blk _ w.heap.size 33 #[.int .i64 x, .int .i64 0, .int .i64 4, .int .i64 u, .bool false] :=
      (((((K.out.set_ 0 (.int .i64 x)).set_ 1 (.int .i64 0)).set_ 2 (.int .i64 4)).set_ 3 (.int .i64 u)).set_ 4 (.bool false)).alloc (.cells #[.int .i64 x, .int .i64 0, .int .i64 4, .int .i64 u, .bool false] 33)
    obtain ⟨r0, r1, r2, r3, r4⟩ := KF.c5
    refine bodyPost_ret (v := .agg #[.int .i64 x, .int .i64 0, .int .i64 4, .int .i64 u, .bool false]) (by simp [results, Try.results17, go_sem, r0, r1, r2, r3, r4]) rfl ⟨⟨x, 0, 4, u, false⟩, rfl, ⟨lox, hix, lou, hiu, .inl ⟨rfl, rfl, rfl⟩⟩, ?_, ?_⟩
    · exact ((((((HD.far hg _).far hg _).far hg _).far hg _).far hg _).alloc _)
    · exact ((((((HO.setCell (.inr (Nat.le_refl _)) _).setCell (.inr (Nat.le_refl _)) _).setCell (.inr (Nat.le_refl _)) _).setCell (.inr (Nat.le_refl _)) _).setCell (.inr (Nat.le_refl _)) _).alloc _)
  · have hz' : (1 + z == 4) = false := by rw [beq_eq_false_iff_ne]; omega
    go_wp2_with fail
    have KF : Blk _ w.heap.size 33 #[.int .i64 x, .int .i64 (1 + y), .int .i64 (1 + z), .int .i64 u, .bool b] :=
      (((((K.out.set_ 0 (.int .i64 x)).set_ 1 (.int .i64 (1 + y))).set_ 2 (.int .i64 (1 + z))).set_ 3 (.int .i64 u)).set_ 4 (.bool b)).alloc (.cells #[.int .i64 x, .int .i64 (1 + y), .int .i64 (1 + z), .int .i64 u, .bool b] 33)
    obtain ⟨r0, r1, r2, r3, r4⟩ := KF.c5
    refine bodyPost_ret (v := .agg #[.int .i64 x, .int .i64 (1 + y), .int .i64 (1 + z), .int .i64 u, .bool b]) (by simp [results, Try.results17, go_sem, r0, r1, r2, r3, r4]) rfl ⟨⟨x, 1 + y, 1 + z, u, b⟩, rfl, ⟨lox, hix, lou, hiu, .inr ⟨by simp; omega, by simp; omega, by simp; omega, by simp; omega⟩⟩, ?_, ?_⟩
    · exact ((((((HD.far hg _).far hg _).far hg _).far hg _).far hg _).alloc _)
    · exact ((((((HO.setCell (.inr (Nat.le_refl _)) _).setCell (.inr (Nat.le_refl _)) _).setCell (.inr (Nat.le_refl _)) _).setCell (.inr (Nat.le_refl _)) _).setCell (.inr (Nat.le_refl _)) _).alloc _)
theorem infoRep : (Try.prog.info? 33).map (fun i => (i.zero, i.size, i.bytes)) = some (some (.agg #[.int .i64 0, .int .i64 0, .int .i64 0, .int .i64 0, .bool false]), 5, 40) := by kernel_rfl
theorem rep_len (x : Rep) : x.cells.length = 5 := rfl
theorem rep_one (x : Rep) : ∀ u ∈ x.cells, u.oneCell' = true := by
  intro u hu
  simp [Rep.cells] at hu
  rcases hu with rfl | rfl | rfl | rfl | rfl <;> rfl
theorem flat_snoc {α : Type} (f : α → List Value) (L : List α) (x : α) : L.flatMap f ++ f x = (L ++ [x]).flatMap f := by simp
def RepsPost (g : Nat) (devices times most : Int) (w : World) (e : Ending) (w' : World) : Prop :=
  ∃ (L : List Rep) (v : Value), e = .returned v ∧ (L.length : Int) ≤ most ∧ (∀ r ∈ L, GoodRep devices times r) ∧ w'.ownsRow w.heap.size 33 5 v L.length (L.flatMap Rep.cells) ∧ DeckAt w' g ∧ Only g w w'
set_option maxHeartbeats 1000000 in
theorem reports_make (g : Nat) (devices times most : Int) (w : World) (hd : DeckAt w g) (h1 : -9223372036854775808 ≤ devices) (h2 : devices ≤ 9223372036854775807) (h3 : -9223372036854775808 ≤ times) (h4 : times ≤ 9223372036854775807)
    (h5 : 0 ≤ most) (h6 : most ≤ 1000) :
    Calls Try.prog 20 #[.pointer (some ⟨g, 0, none⟩), .int .i64 devices, .int .i64 times, .int .i64 most] w (RepsPost g devices times most w) := by
  have hg := hd.lt
  obtain ⟨i0, hi, hz0, hz1, hz2⟩ := info_parts infoRep
  go_enter Try.func20, Try.ntmps20
  go_wp2_with fail
  refine (next_any g _ _ hd (by omega) (by omega)).mono ?_
  rintro e w1 ⟨x, rfl, lox, hix, -, dkx, onx⟩
  have hix2 := hix (by omega)
  clear hix
  go_wp2_with fail
  go_loopw [9, 10] (fun v k wr => ∃ (j : Nat) (L : List Rep), k = .int .i64 j ∧ (j : Int) + L.length ≤ most ∧ Hid (∀ r ∈ L, GoodRep devices times r) ∧ wr.ownsRow w.heap.size 33 5 v L.length (L.flatMap Rep.cells) ∧ DeckAt wr g ∧ Only g w wr) (fun _ k _ => (intOf k).toNat)
  case atStart => 
    obtain ⟨j, rfl⟩ := Int.eq_ofNat_of_zero_le lox
    exact ⟨j, [], rfl, by simp; omega, hide (by simp), World.ownsRow_nil _ _ _ _, dkx, onx⟩
  case round =>
    obtain ⟨j, L, rfl, hj, hL, hown, hdk, hon⟩ := hrel
    by_cases hlt : 0 < j
    · have hj1 : (1 : Int) ≤ (j : Int) := by omega
      go_wp2_with fail
      refine (report_make g _ _ _ hdk (by omega) (by omega) (by omega) (by omega)).mono ?_
      rintro e w2 ⟨r, rfl, hr, dk2, on2⟩
      have hown2 := own_only hown on2 hg
      have hsz2 := on2.size
      have hsz1 := hon.size
      have Hr := hide hr
      clear hr hown
      go_wp2_with (at_builtin; refine wpList_append_any _ rfl (.tmp 19) (.tmp 24) _ rfl w.heap.size 33 i0 _ 5 40 Try.underlying39 hi hz0 hz1 hz2 rfl (by omega) _ L.length (L.flatMap Rep.cells) rfl (hown2.alloc _) (some ⟨w2.heap.size, 0, none⟩) 1 1 r.cells rfl rfl (fun _ => ⟨_, rfl, one_new _ _ _ _ rfl⟩) (rep_one r) (by simp only [maxLen]; omega) (by omega) (by simp; omega) ?_; intro v3 w3 hown3 hg3 hat3)
      have hb3 : DeckAt w3 g := (dk2.alloc _).grown hg3 (fun k hk => by have := (hown2.lt k hk).1; omega)
      have hO3 : Only g w w3 := ((hon.trans on2).alloc _).grown hg3 (fun k hk => (hown2.lt k hk).1)
      rw [flat_snoc] at hown3
      go_wp2_with fail
      go_roundw
      case rel =>
        refine ⟨j - 1, L ++ [r], by congr 1; omega, by simp; omega, hide ?_, by simpa using hown3, hb3, hO3⟩
        intro q hq
        rcases List.mem_append.1 hq with h | h
        · exact hL.out q h
        · rw [List.mem_singleton.1 h]; exact Hr.out
      case measure => simp [intOf]; omega
    · go_wp2_with fail
      go_ret
      exact ⟨L, _, rfl, by omega, hL.out, hown, hdk, hon⟩
end Go.Proofs.Ytmicckgfpodahaa
