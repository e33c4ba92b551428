/- The deck of numbers of the package permitofficemake, by contracts: each draw is some number of its range; conditions: a deck that stands whole in a block of its own, its list elsewhere. -/
import Derived.Test.YtblopmoapfcfhaaDoorChecked
import Derived.Test.YtblopmoapfcfhaaDoorLib
import Derived.WalkLawsBesides
import Derived.WalkSpells
import Derived.Deep.QuietTactic
import Derived.BigQuiet
import Derived.Outline
set_option linter.unusedVariables false
set_option linter.unusedSimpArgs false
namespace Go.Proofs.YtblopmoapfcfhaaDoor
open Go Go.RowKit
def DeckAt (w : World) (g : Nat) : Prop := ∃ (A : Option Addr) (m c at_ : Nat) (s : Int) (l : List Int), Blk w g 44 #[.slice A m c, .int .i64 at_, .int .u64 s] ∧
  0 ≤ s ∧ s < 18446744073709551616 ∧ m ≤ 400 ∧ at_ ≤ m ∧ l.length = m ∧ Rd w (· < g) A 1 (fun n => [.int .i64 n]) l
theorem DeckAt.lt {w : World} {g : Nat} (h : DeckAt w g) : g < w.heap.size := by
  obtain ⟨A, m, c, at_, s, l, hb, _⟩ := h
  exact hb.lt
theorem cell_lt {w : World} {b o : Nat} {u : Value} (h : w.cell? ⟨b, o, none⟩ = some u) : b < w.heap.size := by
  unfold World.cell? at h
  rcases Nat.lt_or_ge b w.heap.size with hl | hl
  · exact hl
  · rw [Array.getElem?_eq_none hl] at h; cases h
theorem DeckAt.keep {w w' : World} {g : Nat} (h : DeckAt w g) (hk : ∀ k, k < w.heap.size → w'.heap[k]? = w.heap[k]?) : DeckAt w' g := by
  obtain ⟨A, m, c, at_, s, l, hb, h1, h2, h3, h4, h5, h6⟩ := h
  refine ⟨A, m, c, at_, s, l, (hk g hb.lt).trans hb, h1, h2, h3, h4, h5, fun hl => ?_⟩
  obtain ⟨b, o, e, hS, hc⟩ := h6 hl
  refine ⟨b, o, e, hS, fun k j x u hx hu => ?_⟩
  have := hc k j x u hx hu
  exact (World.cell?_of_block (hk b (cell_lt this))).trans this
theorem DeckAt.below {w w' : World} {g : Nat} (h : DeckAt w g) (hb : Below w.heap.size w w') : DeckAt w' g := h.keep fun k hk => hb.block k hk
theorem DeckAt.alloc {w : World} {g : Nat} (h : DeckAt w g) (o : Obj) : DeckAt (w.alloc o) g := h.keep fun k hk => Below.heap_alloc w o k hk
theorem DeckAt.drewN {w : World} {g : Nat} (h : DeckAt w g) (n : Nat) : DeckAt (w.drewN n) g := h
theorem DeckAt.drew {w : World} {g : Nat} (h : DeckAt w g) : DeckAt w.drew g := h
theorem DeckAt.far {w : World} {g : Nat} (h : DeckAt w g) {p : Addr} (hp : g < p.block) (u : Value) : DeckAt (w.setCell p u) g := by
  obtain ⟨A, m, c, at_, s, l, hb, h1, h2, h3, h4, h5, h6⟩ := h
  exact ⟨A, m, c, at_, s, l, hb.far (by omega) u, h1, h2, h3, h4, h5, h6.keep fun q hq => World.cell?_setCell_other w p q u (by rintro rfl; omega)⟩
theorem DeckAt.grown {w w' : World} {g : Nat} {row : Option Nat} (h : DeckAt w g) (hg : w.grownBy w' row) (hr : ∀ k, row = some k → g < k) : DeckAt w' g := by
  have h0 := h.lt
  obtain ⟨A, m, c, at_, s, l, hb, h1, h2, h3, h4, h5, h6⟩ := h
  exact ⟨A, m, c, at_, s, l, hb.grown hg (by intro e; have := hr g e.symm; omega), h1, h2, h3, h4, h5, h6.keep fun q hq => World.cell?_of_block (hg.block q.block (by omega) (by intro e; have := hr _ e.symm; omega))⟩
theorem DeckAt.new {w : World} {A : Option Addr} {m c : Nat} {l : List Int} (hl : l.length = m) (hm : m ≤ 400) (h : Rd w (· < w.heap.size) A 1 (fun n => [.int .i64 n]) l) :
    DeckAt (w.alloc (.cells #[.slice A m c, .int .i64 0, .int .u64 88172645463325252] 44)) w.heap.size :=
  ⟨A, m, c, 0, _, l, Blk.new w _ _, by omega, by omega, hm, Nat.zero_le _, hl, h.keep fun p hp => World.cell?_alloc_lt w _ p hp⟩
theorem few_any (A : Option Addr) (m c : Nat) (w : World) : Calls Tryd.prog 8 #[.slice A m c] w fun e w' => e = .returned (.bool (decide ((m : Int) ≤ 400))) ∧ w = w' := by
  go_enter Tryd.func8, Tryd.ntmps8
  go_wp2
  go_ret
  exact ⟨rfl, rfl⟩
theorem new_any (A : Option Addr) (m c : Nat) (w : World) : Calls Tryd.prog 10 #[.slice A m c] w fun e w' => e = .returned (.pointer (some ⟨w.heap.size, 0, none⟩)) ∧
    w.alloc (.cells #[.slice A m c, .int .i64 0, .int .u64 88172645463325252] 44) = w' := by
  go_enter Tryd.func10, Tryd.ntmps10
  go_wp2
  go_ret
  exact ⟨rfl, rfl⟩
theorem deck_end {w : World} {g : Nat} {A : Option Addr} {m c at_ : Nat} {s s' : Int} {l : List Int} (at' : Nat) (hb : Blk w g 44 #[.slice A m c, .int .i64 at_, .int .u64 s])
    (h1 : 0 ≤ s') (h2 : s' < 18446744073709551616) (h3 : m ≤ 400) (h4 : at' ≤ m) (h5 : l.length = m) (h6 : Rd w (· < g) A 1 (fun n => [.int .i64 n]) l) :
    DeckAt ((w.setCell ⟨g, 1, none⟩ (.int .i64 at')).setCell ⟨g, 2, none⟩ (.int .u64 s')) g ∧ Only g w ((w.setCell ⟨g, 1, none⟩ (.int .i64 at')).setCell ⟨g, 2, none⟩ (.int .u64 s')) := by
  refine ⟨⟨A, m, c, at', s', l, ?_, h1, h2, h3, h4, h5, ?_⟩, ((Only.refl g w).setCell (.inl rfl) _).setCell (.inl rfl) _⟩
  · have := (hb.set_ 1 (.int .i64 at')).set_ 2 (.int .u64 s')
    simpa using this
  · exact h6.keep fun q hq => by rw [World.cell?_setCell_other, World.cell?_setCell_other] <;> (rintro rfl; simp at hq)
theorem deck_end0 {w : World} {g : Nat} {A : Option Addr} {m c at_ : Nat} {s s' : Int} {l : List Int} (hb : Blk w g 44 #[.slice A m c, .int .i64 at_, .int .u64 s])
    (h1 : 0 ≤ s') (h2 : s' < 18446744073709551616) (h3 : m ≤ 400) (h4 : at_ ≤ m) (h5 : l.length = m) (h6 : Rd w (· < g) A 1 (fun n => [.int .i64 n]) l) :
    DeckAt (w.setCell ⟨g, 2, none⟩ (.int .u64 s')) g ∧ Only g w (w.setCell ⟨g, 2, none⟩ (.int .u64 s')) := by
  refine ⟨⟨A, m, c, at_, s', l, ?_, h1, h2, h3, h4, h5, ?_⟩, (Only.refl g w).setCell (.inl rfl) _⟩
  · have := hb.set_ 2 (.int .u64 s')
    simpa using this
  · exact h6.keep fun q hq => by rw [World.cell?_setCell_other] ; rintro rfl; simp at hq
theorem u64_range (z : Int) : 0 ≤ IntKind.u64.wrap z ∧ IntKind.u64.wrap z < 18446744073709551616 := by
  rw [IntKind.wrap_u64]; omega
theorem draw_range (X n : Int) (h0 : 0 ≤ X) (h1 : X < 18446744073709551616) (hn : 1 ≤ n) (hn2 : n ≤ 9223372036854775807) :
    0 ≤ wrap64 ((X / 8589934592).tmod n) ∧ wrap64 ((X / 8589934592).tmod n) < n := by
  have e0 : 0 ≤ X / 8589934592 := by omega
  have e1 : (X / 8589934592).tmod n = X / 8589934592 % n := Int.tmod_eq_emod_of_nonneg e0
  rw [e1]
  have e2 := Int.emod_nonneg (X / 8589934592) (show n ≠ 0 by omega)
  have e3 := Int.emod_lt_of_pos (X / 8589934592) (show 0 < n by omega)
  rw [IntWalk.wrap64_in _ ⟨by omega, by omega⟩]
  exact ⟨e2, e3⟩
def NextPost (g : Nat) (n : Int) (w : World) (e : Ending) (w' : World) : Prop := ∃ v : Int, e = .returned (.int .i64 v) ∧ 0 ≤ v ∧ (1 ≤ n → v < n) ∧ (n < 1 → v = 0) ∧ DeckAt w' g ∧ Only g w w'
set_option maxHeartbeats 400000 in
theorem next_yy (g : Nat) (n : Int) (w : World) (A : Option Addr) (m c at_ : Nat) (s : Int) (l : List Int) (HB : Hid (Blk w g 44 #[.slice A m c, .int .i64 at_, .int .u64 s]))
    (hs1 : 0 ≤ s) (hs2 : s < 18446744073709551616) (hm : m ≤ 400) (hat : at_ ≤ m) (hl : l.length = m) (HR : Hid (Rd w (· < g) A 1 (fun n => [.int .i64 n]) l)) (h1 : -9223372036854775808 ≤ n) (h2 : n ≤ 9223372036854775807) (hc : at_ < m) (hn : n < 1) :
    Calls Tryd.prog 11 #[.pointer (some ⟨g, 0, none⟩), .int .i64 n] w (NextPost g n w) := by
  have c0 := HB.out.cell 0; have c1 := HB.out.cell 1; have c2 := HB.out.cell 2
  have f1 := HB.out.frozen 1; have f2 := HB.out.frozen 2
  simp at c0 c1 c2
  obtain ⟨b, o, rfl, hS, hcell⟩ := HR.out (by omega)
  obtain ⟨x, hx⟩ := some_at (L := l) (k := at_) (by omega)
  have cx := hcell at_ 0 x _ hx rfl
  simp only [Nat.mul_one, Nat.add_zero] at cx
  clear hcell hx
  go_enter Tryd.func11, Tryd.ntmps11
  go_wp2
  go_quiet (fail)
  go_wp2
  go_quiet (fail)
  go_wp2
  go_ret
  have hu := u64_range (IntKind.u64.wrap (IntKind.u64.wrap (s * 6364136223846793005) + IntKind.u64.wrap x) + 1442695040888963407)
  have E := fun k => deck_end (at_ + 1) (HB.out.drewN k) hu.1 hu.2 hm (by omega) hl HR.out
  exact ⟨_, rfl, by omega, by omega, by omega, (E _).1, ((Only.refl _ _).drewN _).trans (E _).2⟩
set_option maxHeartbeats 400000 in
theorem next_yn (g : Nat) (n : Int) (w : World) (A : Option Addr) (m c at_ : Nat) (s : Int) (l : List Int) (HB : Hid (Blk w g 44 #[.slice A m c, .int .i64 at_, .int .u64 s]))
    (hs1 : 0 ≤ s) (hs2 : s < 18446744073709551616) (hm : m ≤ 400) (hat : at_ ≤ m) (hl : l.length = m) (HR : Hid (Rd w (· < g) A 1 (fun n => [.int .i64 n]) l)) (h1 : -9223372036854775808 ≤ n) (h2 : n ≤ 9223372036854775807) (hc : at_ < m) (hn : ¬ n < 1) :
    Calls Tryd.prog 11 #[.pointer (some ⟨g, 0, none⟩), .int .i64 n] w (NextPost g n w) := by
  have c0 := HB.out.cell 0; have c1 := HB.out.cell 1; have c2 := HB.out.cell 2
  have f1 := HB.out.frozen 1; have f2 := HB.out.frozen 2
  simp at c0 c1 c2
  obtain ⟨b, o, rfl, hS, hcell⟩ := HR.out (by omega)
  obtain ⟨x, hx⟩ := some_at (L := l) (k := at_) (by omega)
  have cx := hcell at_ 0 x _ hx rfl
  simp only [Nat.mul_one, Nat.add_zero] at cx
  clear hcell hx
  go_enter Tryd.func11, Tryd.ntmps11
  go_wp2
  go_quiet (fail)
  go_wp2
  go_quiet (fail)
  go_wp2
  go_ret
  have hu := u64_range (IntKind.u64.wrap (IntKind.u64.wrap (s * 6364136223846793005) + IntKind.u64.wrap x) + 1442695040888963407)
  have E := fun k => deck_end (at_ + 1) (HB.out.drewN k) hu.1 hu.2 hm (by omega) hl HR.out
  have R := draw_range _ n hu.1 hu.2 (by omega) h2
  exact ⟨_, rfl, R.1, fun _ => R.2, by omega, (E _).1, ((Only.refl _ _).drewN _).trans (E _).2⟩
set_option maxHeartbeats 400000 in
theorem next_ny (g : Nat) (n : Int) (w : World) (A : Option Addr) (m c at_ : Nat) (s : Int) (l : List Int) (HB : Hid (Blk w g 44 #[.slice A m c, .int .i64 at_, .int .u64 s]))
    (hs1 : 0 ≤ s) (hs2 : s < 18446744073709551616) (hm : m ≤ 400) (hat : at_ ≤ m) (hl : l.length = m) (HR : Hid (Rd w (· < g) A 1 (fun n => [.int .i64 n]) l)) (h1 : -9223372036854775808 ≤ n) (h2 : n ≤ 9223372036854775807) (hc : ¬ at_ < m) (hn : n < 1) :
    Calls Tryd.prog 11 #[.pointer (some ⟨g, 0, none⟩), .int .i64 n] w (NextPost g n w) := by
  have c0 := HB.out.cell 0; have c1 := HB.out.cell 1; have c2 := HB.out.cell 2
  have f1 := HB.out.frozen 1; have f2 := HB.out.frozen 2
  simp at c0 c1 c2
  go_enter Tryd.func11, Tryd.ntmps11
  go_wp2
  go_quiet (fail)
  go_wp2
  go_ret
  have hu := u64_range (IntKind.u64.wrap (IntKind.u64.wrap (s * 6364136223846793005)) + 1442695040888963407)
  have E := fun k => deck_end0 (HB.out.drewN k) hu.1 hu.2 hm hat hl HR.out
  exact ⟨_, rfl, by omega, by omega, by omega, (E _).1, ((Only.refl _ _).drewN _).trans (E _).2⟩
set_option maxHeartbeats 400000 in
theorem next_nn (g : Nat) (n : Int) (w : World) (A : Option Addr) (m c at_ : Nat) (s : Int) (l : List Int) (HB : Hid (Blk w g 44 #[.slice A m c, .int .i64 at_, .int .u64 s]))
    (hs1 : 0 ≤ s) (hs2 : s < 18446744073709551616) (hm : m ≤ 400) (hat : at_ ≤ m) (hl : l.length = m) (HR : Hid (Rd w (· < g) A 1 (fun n => [.int .i64 n]) l)) (h1 : -9223372036854775808 ≤ n) (h2 : n ≤ 9223372036854775807) (hc : ¬ at_ < m) (hn : ¬ n < 1) :
    Calls Tryd.prog 11 #[.pointer (some ⟨g, 0, none⟩), .int .i64 n] w (NextPost g n w) := by
  have c0 := HB.out.cell 0; have c1 := HB.out.cell 1; have c2 := HB.out.cell 2
  have f1 := HB.out.frozen 1; have f2 := HB.out.frozen 2
  simp at c0 c1 c2
  go_enter Tryd.func11, Tryd.ntmps11
  go_wp2
  go_quiet (fail)
  go_wp2
  go_ret
  have hu := u64_range (IntKind.u64.wrap (IntKind.u64.wrap (s * 6364136223846793005)) + 1442695040888963407)
  have E := fun k => deck_end0 (HB.out.drewN k) hu.1 hu.2 hm hat hl HR.out
  have R := draw_range _ n hu.1 hu.2 (by omega) h2
  exact ⟨_, rfl, R.1, fun _ => R.2, by omega, (E _).1, ((Only.refl _ _).drewN _).trans (E _).2⟩
theorem next_any (g : Nat) (n : Int) (w : World) (h : DeckAt w g) (h1 : -9223372036854775808 ≤ n) (h2 : n ≤ 9223372036854775807) :
    Calls Tryd.prog 11 #[.pointer (some ⟨g, 0, none⟩), .int .i64 n] w (NextPost g n w) := by
  obtain ⟨A, m, c, at_, s, l, hb, hs1, hs2, hm, hat, hl, hr⟩ := h
  by_cases hc : at_ < m <;> by_cases hn : n < 1
  · exact next_yy g n w A m c at_ s l hb hs1 hs2 hm hat hl hr h1 h2 hc hn
  · exact next_yn g n w A m c at_ s l hb hs1 hs2 hm hat hl hr h1 h2 hc hn
  · exact next_ny g n w A m c at_ s l hb hs1 hs2 hm hat hl hr h1 h2 hc hn
  · exact next_nn g n w A m c at_ s l hb hs1 hs2 hm hat hl hr h1 h2 hc hn
end Go.Proofs.YtblopmoapfcfhaaDoor
