/- belief.Masks, belief.Likely and their references: each returns what a plain function says, in new memory; conditions: a slice reads as a list of at most some thousand beliefs. -/
import Derived.Test.YtmicckgfpodahaaLists
import Derived.Test.YtmicckgfpodahaaLists2
import Derived.Test.YtmicckgfpodahaaSure
set_option linter.unusedVariables false
set_option linter.unusedSimpArgs false
namespace Go.Proofs.Ytmicckgfpodahaa
open Go Go.RowKit
def maskK (b : Bel) (now limit : Int) : Int := if (sure b now limit).1 = 2 then (sure b now limit).2 else 0
def maskL (b : Bel) (now limit : Int) : Int := if (sure b now limit).1 = 0 then b.n else (sure b now limit).2
def orBoth (m : Int) : Int := if m = 0 then 3 else m
theorem mfn_any (t m n s p : Int) (w : World) : Calls Try.prog 42 #[.agg #[.int .i64 t, .int .i64 m, .int .i64 n], .int .i64 s, .int .i64 p] w fun e w' => e = .returned (.int .i64 (if s = 2 then p else 0)) ∧ Below w.heap.size w w' := by
  by_cases h : s = 2
  · subst h
    go_enter Try.func42, Try.ntmps42
    go_wp2
    go_ret
    exact ⟨rfl, (Below.refl _ _).alloc (Nat.le_refl _) _⟩
  · have h' : (s == 2) = false := by simpa using h
    rw [if_neg h]
    have H := hide h
    clear h
    go_enter Try.func42, Try.ntmps42
    go_wp2
    go_ret
    exact ⟨rfl, (Below.refl _ _).alloc (Nat.le_refl _) _⟩
theorem lfn_any (t m n s p : Int) (w : World) : Calls Try.prog 44 #[.agg #[.int .i64 t, .int .i64 m, .int .i64 n], .int .i64 s, .int .i64 p] w fun e w' => e = .returned (.int .i64 (if s = 0 then n else p)) ∧ Below w.heap.size w w' := by
  by_cases h : s = 0
  · subst h
    go_enter Try.func44, Try.ntmps44
    go_wp2
    go_ret
    exact ⟨rfl, (Below.refl _ _).alloc (Nat.le_refl _) _⟩
  · have h' : (s == 0) = false := by simpa using h
    rw [if_neg h]
    have H := hide h
    clear h
    go_enter Try.func44, Try.ntmps44
    go_wp2
    go_ret
    exact ⟨rfl, (Below.refl _ _).alloc (Nat.le_refl _) _⟩
theorem infoInt : (Try.prog.info? 3).map (fun i => (i.zero, i.size, i.bytes)) = some (some (.int .i64 0), 1, 8) := by kernel_rfl
/-- A row that is known whole is owned. -/
theorem own_of_blk {w : World} {base g size n : Nat} {e : TypeId} {cur : Array Value} {xs : List Value} (hb : base ≤ g) (hk : Blk w g e cur) (hm : n ≤ maxLen) (hs : cur.size = n * size) (hx : cur.toList = xs) : w.ownsRow base e size (.slice (some ⟨g, 0, none⟩) n n) n xs := by
  subst hx
  exact ⟨by simpa using hs, .inr ⟨g, n, cur, rfl, hb, hk, Nat.le_refl _, hm, hs, by rw [List.take_of_length_le]; simp [hs]⟩⟩
def MasksPost (L : List Bel) (f : Bel → Int) (w : World) (e : Ending) (w' : World) : Prop :=
  (∃ v, e = .returned (.tuple #[v, .int .i64 (checkE L)]) ∧ (checkE L = 0 → w'.ownsRow w.heap.size 3 1 v L.length ((L.map fun b => orBoth (f b)).flatMap intCell)) ∧ (checkE L ≠ 0 → v = .slice none 0 0)) ∧ Below w.heap.size w w'
theorem map_cells (l : List Int) : l.flatMap intCell = l.map (Value.int .i64) := by
  induction l with
  | nil => rfl
  | cons x l ih => simp [intCell, ih]
set_option maxHeartbeats 2000000 in
theorem masksK (A : Option Addr) (c : Nat) (L : List Bel) (now limit : Int) (w : World) (S : Nat → Prop) (hS : ∀ b, S b → b < w.heap.size) (h : Rd w S A 3 Bel.cells L) :
    Calls Try.prog 41 #[.slice A L.length c, .int .i64 now, .int .i64 limit, .func (.func 42) #[] #[]] w (MasksPost L (fun b => maskK b now limit) w) := by
  obtain ⟨i0, hi, hz0, hz1, hz2⟩ := info_parts infoInt
  by_cases hc0 : checkE L = 0
  · have hl : L.length ≤ 64 := by
      unfold checkE at hc0
      split at hc0
      · omega
      · omega
    have HC := hide hc0
    have hce := fun W hS' hR => check_any A c L W S hS' hR
    rw [hc0] at hce
    have HCE := hide hce
    clear hc0 hce
    go_enter Try.func41, Try.ntmps41
    go_wp2_with fail
    refine (HCE.out _ hS h).mono ?_
    rintro e w1 ⟨rfl, hb1⟩
    have z1 := hb1.size
    go_wp2_with (at_make; refine wpList_make_full _ rfl _ _ 22 rfl w1.heap.size 3 i0 (.int .i64 0) 1 Try.underlying22 hi hz0 hz1 _ _ _ _ L.length rfl rfl rfl rfl (by rw [hz2]; omega) (by simp only [maxLen]; omega) (Nat.le_refl _) ?_; intro w2 hown2 hg2)
    obtain ⟨_, hown2⟩ := hown2
    rcases hown2 with ⟨hv, _⟩ | ⟨g, cap, cur, hv, _, hk2, _, _, hcs, _⟩
    · cases hv
    have hg : g = w1.heap.size := by injection hv with hA; injection hA with hA; injection hA with hA; exact hA.symm
    have hcap : cap = L.length := by injection hv with _ _ h3; exact h3.symm
    subst hg
    subst hcap
    have K2 : Blk w2 w1.heap.size 3 cur := hk2
    have B2 : Below w.heap.size w w2 := hb1.grown hg2 z1 (fun k hk => by cases hk)
    have hs2 : cur.size = L.length := by simpa using hcs
    have HS2 := hide hs2
    clear hk2 hcs hs2 hv hb1 hg2
    go_loopw [26] (fun i wr => ∃ (k : Nat) (cur : Array Value), i = .int .i64 k ∧ k ≤ L.length ∧ Blk wr w1.heap.size 3 cur ∧ Hid (cur.size = L.length) ∧ Hid (∀ j b, j < k → L[j]? = some b → cur[j]? = some (.int .i64 (orBoth (maskK b now limit)))) ∧ Below w.heap.size w wr) (fun i _ => L.length - (intOf i).toNat)
    case atStart => exact ⟨0, cur, rfl, Nat.zero_le _, K2, HS2, hide (fun j b hj => by omega), B2⟩
    case round =>
      obtain ⟨k, cur, rfl, hk, K, hs, hd, hb⟩ := hrel
      clear K2 B2 HS2
      have z2 := hb.size
      have hKl := K.lt
      by_cases hlt : k < L.length
      · have hlt' : (k : Int) < (L.length : Int) := by omega
        obtain ⟨⟨t, m, n⟩, hx⟩ := some_at hlt
        obtain ⟨b, o, rfl, hsb, hcc⟩ := (h.below hb hS).at_ hx
        have c0 := hcc 0 _ rfl
        have c1 := hcc 1 _ rfl
        have c2 := hcc 2 _ rfl
        simp only [Nat.add_zero] at c0 c1 c2
        have Hx := hide hx
        have MF : ∀ W : World, Calls Try.prog 42 #[.agg #[.int .i64 t, .int .i64 m, .int .i64 n], .int .i64 (sure ⟨t, m, n⟩ now limit).1, .int .i64 (sure ⟨t, m, n⟩ now limit).2] W fun e w' => e = .returned (.int .i64 (maskK ⟨t, m, n⟩ now limit)) ∧ Below W.heap.size W w' := fun W => mfn_any t m n _ _ W
        obtain ⟨q, hq⟩ : ∃ q, maskK ⟨t, m, n⟩ now limit = q := ⟨_, rfl⟩
        rw [hq] at MF
        have HQ := hide hq
        have HMF := hide MF
        clear hx hcc h hq MF
        go_wp2_with fail
        refine (sure_any ⟨t, m, n⟩ now limit _).mono ?_
        rintro e w4 ⟨rfl, hb4⟩
        have kb4 := (Blk.new wr 30 #[.int .i64 t, .int .i64 m, .int .i64 n]).below hb4 (by simp)
        have K4 := (K.alloc _).below hb4 (by simp; omega)
        have b4 := (hb.alloc z2 _).trans (hb4.mono (by simp; omega))
        have z4 := b4.size
        clear c0 c1 c2
        obtain ⟨c0, c1, c2⟩ := kb4.c3
        go_wp2_with fail
        refine (HMF.out _).mono ?_
        rintro e w5 ⟨rfl, hb5⟩
        have K5 := K4.below hb5 K4.lt
        have b5 := b4.trans (hb5.mono b4.size)
        have hcz : k < cur.size := by have := hs.out; omega
        have e5 : w5.cell? ⟨w1.heap.size, k, none⟩ = some cur[k] := (K5.cell k).trans (Array.getElem?_eq_getElem hcz)
        have f5 := K5.frozen k
        have done : ∀ u, u = orBoth q → Blk (w5.setCell ⟨w1.heap.size, k, none⟩ (.int .i64 u)) w1.heap.size 3 (cur.setIfInBounds k (.int .i64 u)) ∧ (cur.setIfInBounds k (.int .i64 u)).size = L.length ∧
            (∀ j b, j < k + 1 → L[j]? = some b → (cur.setIfInBounds k (.int .i64 u))[j]? = some (.int .i64 (orBoth (maskK b now limit)))) ∧ Below w.heap.size w (w5.setCell ⟨w1.heap.size, k, none⟩ (.int .i64 u)) := fun u hu => by
          refine ⟨K5.set_ k _, by simpa using hs.out, fun j b hj hxj => ?_, b5.setCell (by simp; omega) _⟩
          by_cases e : j = k
          · subst e
            have hbb : b = ⟨t, m, n⟩ := Option.some.inj (hxj.symm.trans Hx.out)
            subst hbb
            rw [HQ.out, Array.getElem?_setIfInBounds_self_of_lt hcz, hu]
          · rw [Array.getElem?_setIfInBounds_ne (fun h => e h.symm)]
            exact hd.out j b (by omega) hxj
        have done0 : q = 0 → Blk ((w5.setCell ⟨w1.heap.size, k, none⟩ (.int .i64 0)).setCell ⟨w1.heap.size, k, none⟩ (.int .i64 3)) w1.heap.size 3 ((cur.setIfInBounds k (.int .i64 0)).setIfInBounds k (.int .i64 3)) ∧ ((cur.setIfInBounds k (.int .i64 0)).setIfInBounds k (.int .i64 3)).size = L.length ∧
            (∀ j b, j < k + 1 → L[j]? = some b → ((cur.setIfInBounds k (.int .i64 0)).setIfInBounds k (.int .i64 3))[j]? = some (.int .i64 (orBoth (maskK b now limit)))) ∧ Below w.heap.size w ((w5.setCell ⟨w1.heap.size, k, none⟩ (.int .i64 0)).setCell ⟨w1.heap.size, k, none⟩ (.int .i64 3)) := fun hq0 => by
          refine ⟨(K5.set_ k _).set_ k _, by simpa using hs.out, fun j b hj hxj => ?_, (b5.setCell (by simp; omega) _).setCell (by simp; omega) _⟩
          by_cases e : j = k
          · subst e
            have hbb : b = ⟨t, m, n⟩ := Option.some.inj (hxj.symm.trans Hx.out)
            subst hbb
            rw [HQ.out, Array.getElem?_setIfInBounds_self_of_lt (by simpa using hcz), hq0]
            rfl
          · rw [Array.getElem?_setIfInBounds_ne (fun h => e h.symm), Array.getElem?_setIfInBounds_ne (fun h => e h.symm)]
            exact hd.out j b (by omega) hxj
        have HD0 := hide done0
        have HD := hide done
        clear done done0 c0 c1 c2 kb4 K4 b4 hb4 hb5 K b5 K5 hd hs HMF
        by_cases hq0 : q = 0
        · subst hq0
          go_wp2_with fail
          go_roundw
          case rel =>
            have D := HD0.out (by first | trivial | rfl)
            exact ⟨k + 1, _, by go_num, by omega, D.1, D.2.1, D.2.2.1, D.2.2.2⟩
          case measure => simp [intOf]; omega
        · have hq1 : (q == 0) = false := by simpa using hq0
          have HQ0 := hide hq0
          clear hq0
          go_wp2_with fail
          go_roundw
          case rel =>
            have D := HD.out q (by unfold orBoth; rw [if_neg HQ0.out])
            exact ⟨k + 1, _, by go_num, by omega, D.1, D.2.1, D.2.2.1, D.2.2.2⟩
          case measure => simp [intOf]; omega
      · go_wp2_with fail
        go_ret2
        refine ⟨⟨_, by rw [HC.out]; rfl, fun _ => own_of_blk z1 K (by simp only [maxLen]; omega) (by simpa using hs.out) ?_, fun h0 => absurd HC.out h0⟩, hb⟩
        apply List.ext_getElem?
        intro j
        rw [map_cells, List.getElem?_map, List.getElem?_map]
        by_cases hj : j < L.length
        · obtain ⟨b, hxj⟩ := some_at hj
          rw [hxj, Array.getElem?_toList, hd.out j b (by omega) hxj]
          rfl
        · rw [List.getElem?_eq_none (by rw [Array.length_toList, hs.out]; omega), List.getElem?_eq_none (by omega)]
          rfl
  · have hc1 : (checkE L != 0) = true := by simpa using hc0
    have HC := hide hc0
    clear hc0
    go_enter Try.func41, Try.ntmps41
    go_wp2_with fail
    refine (check_any A c L _ S hS h).mono ?_
    rintro e w1 ⟨rfl, hb1⟩
    go_wp2_with fail
    go_ret2
    exact ⟨⟨_, rfl, fun h0 => absurd h0 HC.out, fun _ => rfl⟩, hb1⟩
set_option maxHeartbeats 2000000 in
theorem masksL (A : Option Addr) (c : Nat) (L : List Bel) (now limit : Int) (w : World) (S : Nat → Prop) (hS : ∀ b, S b → b < w.heap.size) (h : Rd w S A 3 Bel.cells L) :
    Calls Try.prog 41 #[.slice A L.length c, .int .i64 now, .int .i64 limit, .func (.func 44) #[] #[]] w (MasksPost L (fun b => maskL b now limit) w) := by
  obtain ⟨i0, hi, hz0, hz1, hz2⟩ := info_parts infoInt
  by_cases hc0 : checkE L = 0
  · have hl : L.length ≤ 64 := by
      unfold checkE at hc0
      split at hc0
      · omega
      · omega
    have HC := hide hc0
    have hce := fun W hS' hR => check_any A c L W S hS' hR
    rw [hc0] at hce
    have HCE := hide hce
    clear hc0 hce
    go_enter Try.func41, Try.ntmps41
    go_wp2_with fail
    refine (HCE.out _ hS h).mono ?_
    rintro e w1 ⟨rfl, hb1⟩
    have z1 := hb1.size
    go_wp2_with (at_make; refine wpList_make_full _ rfl _ _ 22 rfl w1.heap.size 3 i0 (.int .i64 0) 1 Try.underlying22 hi hz0 hz1 _ _ _ _ L.length rfl rfl rfl rfl (by rw [hz2]; omega) (by simp only [maxLen]; omega) (Nat.le_refl _) ?_; intro w2 hown2 hg2)
    obtain ⟨_, hown2⟩ := hown2
    rcases hown2 with ⟨hv, _⟩ | ⟨g, cap, cur, hv, _, hk2, _, _, hcs, _⟩
    · cases hv
    have hg : g = w1.heap.size := by injection hv with hA; injection hA with hA; injection hA with hA; exact hA.symm
    have hcap : cap = L.length := by injection hv with _ _ h3; exact h3.symm
    subst hg
    subst hcap
    have K2 : Blk w2 w1.heap.size 3 cur := hk2
    have B2 : Below w.heap.size w w2 := hb1.grown hg2 z1 (fun k hk => by cases hk)
    have hs2 : cur.size = L.length := by simpa using hcs
    have HS2 := hide hs2
    clear hk2 hcs hs2 hv hb1 hg2
    go_loopw [26] (fun i wr => ∃ (k : Nat) (cur : Array Value), i = .int .i64 k ∧ k ≤ L.length ∧ Blk wr w1.heap.size 3 cur ∧ Hid (cur.size = L.length) ∧ Hid (∀ j b, j < k → L[j]? = some b → cur[j]? = some (.int .i64 (orBoth (maskL b now limit)))) ∧ Below w.heap.size w wr) (fun i _ => L.length - (intOf i).toNat)
    case atStart => exact ⟨0, cur, rfl, Nat.zero_le _, K2, HS2, hide (fun j b hj => by omega), B2⟩
    case round =>
      obtain ⟨k, cur, rfl, hk, K, hs, hd, hb⟩ := hrel
      clear K2 B2 HS2
      have z2 := hb.size
      have hKl := K.lt
      by_cases hlt : k < L.length
      · have hlt' : (k : Int) < (L.length : Int) := by omega
        obtain ⟨⟨t, m, n⟩, hx⟩ := some_at hlt
        obtain ⟨b, o, rfl, hsb, hcc⟩ := (h.below hb hS).at_ hx
        have c0 := hcc 0 _ rfl
        have c1 := hcc 1 _ rfl
        have c2 := hcc 2 _ rfl
        simp only [Nat.add_zero] at c0 c1 c2
        have Hx := hide hx
        have MF : ∀ W : World, Calls Try.prog 44 #[.agg #[.int .i64 t, .int .i64 m, .int .i64 n], .int .i64 (sure ⟨t, m, n⟩ now limit).1, .int .i64 (sure ⟨t, m, n⟩ now limit).2] W fun e w' => e = .returned (.int .i64 (maskL ⟨t, m, n⟩ now limit)) ∧ Below W.heap.size W w' := fun W => lfn_any t m n _ _ W
        obtain ⟨q, hq⟩ : ∃ q, maskL ⟨t, m, n⟩ now limit = q := ⟨_, rfl⟩
        rw [hq] at MF
        have HQ := hide hq
        have HMF := hide MF
        clear hx hcc h hq MF
        go_wp2_with fail
        refine (sure_any ⟨t, m, n⟩ now limit _).mono ?_
        rintro e w4 ⟨rfl, hb4⟩
        have kb4 := (Blk.new wr 30 #[.int .i64 t, .int .i64 m, .int .i64 n]).below hb4 (by simp)
        have K4 := (K.alloc _).below hb4 (by simp; omega)
        have b4 := (hb.alloc z2 _).trans (hb4.mono (by simp; omega))
        have z4 := b4.size
        clear c0 c1 c2
        obtain ⟨c0, c1, c2⟩ := kb4.c3
        go_wp2_with fail
        refine (HMF.out _).mono ?_
        rintro e w5 ⟨rfl, hb5⟩
        have K5 := K4.below hb5 K4.lt
        have b5 := b4.trans (hb5.mono b4.size)
        have hcz : k < cur.size := by have := hs.out; omega
        have e5 : w5.cell? ⟨w1.heap.size, k, none⟩ = some cur[k] := (K5.cell k).trans (Array.getElem?_eq_getElem hcz)
        have f5 := K5.frozen k
        have done : ∀ u, u = orBoth q → Blk (w5.setCell ⟨w1.heap.size, k, none⟩ (.int .i64 u)) w1.heap.size 3 (cur.setIfInBounds k (.int .i64 u)) ∧ (cur.setIfInBounds k (.int .i64 u)).size = L.length ∧
            (∀ j b, j < k + 1 → L[j]? = some b → (cur.setIfInBounds k (.int .i64 u))[j]? = some (.int .i64 (orBoth (maskL b now limit)))) ∧ Below w.heap.size w (w5.setCell ⟨w1.heap.size, k, none⟩ (.int .i64 u)) := fun u hu => by
          refine ⟨K5.set_ k _, by simpa using hs.out, fun j b hj hxj => ?_, b5.setCell (by simp; omega) _⟩
          by_cases e : j = k
          · subst e
            have hbb : b = ⟨t, m, n⟩ := Option.some.inj (hxj.symm.trans Hx.out)
            subst hbb
            rw [HQ.out, Array.getElem?_setIfInBounds_self_of_lt hcz, hu]
          · rw [Array.getElem?_setIfInBounds_ne (fun h => e h.symm)]
            exact hd.out j b (by omega) hxj
        have done0 : q = 0 → Blk ((w5.setCell ⟨w1.heap.size, k, none⟩ (.int .i64 0)).setCell ⟨w1.heap.size, k, none⟩ (.int .i64 3)) w1.heap.size 3 ((cur.setIfInBounds k (.int .i64 0)).setIfInBounds k (.int .i64 3)) ∧ ((cur.setIfInBounds k (.int .i64 0)).setIfInBounds k (.int .i64 3)).size = L.length ∧
            (∀ j b, j < k + 1 → L[j]? = some b → ((cur.setIfInBounds k (.int .i64 0)).setIfInBounds k (.int .i64 3))[j]? = some (.int .i64 (orBoth (maskL b now limit)))) ∧ Below w.heap.size w ((w5.setCell ⟨w1.heap.size, k, none⟩ (.int .i64 0)).setCell ⟨w1.heap.size, k, none⟩ (.int .i64 3)) := fun hq0 => by
          refine ⟨(K5.set_ k _).set_ k _, by simpa using hs.out, fun j b hj hxj => ?_, (b5.setCell (by simp; omega) _).setCell (by simp; omega) _⟩
          by_cases e : j = k
          · subst e
            have hbb : b = ⟨t, m, n⟩ := Option.some.inj (hxj.symm.trans Hx.out)
            subst hbb
            rw [HQ.out, Array.getElem?_setIfInBounds_self_of_lt (by simpa using hcz), hq0]
            rfl
          · rw [Array.getElem?_setIfInBounds_ne (fun h => e h.symm), Array.getElem?_setIfInBounds_ne (fun h => e h.symm)]
            exact hd.out j b (by omega) hxj
        have HD0 := hide done0
        have HD := hide done
        clear done done0 c0 c1 c2 kb4 K4 b4 hb4 hb5 K b5 K5 hd hs HMF
        by_cases hq0 : q = 0
        · subst hq0
          go_wp2_with fail
          go_roundw
          case rel =>
            have D := HD0.out (by first | trivial | rfl)
            exact ⟨k + 1, _, by go_num, by omega, D.1, D.2.1, D.2.2.1, D.2.2.2⟩
          case measure => simp [intOf]; omega
        · have hq1 : (q == 0) = false := by simpa using hq0
          have HQ0 := hide hq0
          clear hq0
          go_wp2_with fail
          go_roundw
          case rel =>
            have D := HD.out q (by unfold orBoth; rw [if_neg HQ0.out])
            exact ⟨k + 1, _, by go_num, by omega, D.1, D.2.1, D.2.2.1, D.2.2.2⟩
          case measure => simp [intOf]; omega
      · go_wp2_with fail
        go_ret2
        refine ⟨⟨_, by rw [HC.out]; rfl, fun _ => own_of_blk z1 K (by simp only [maxLen]; omega) (by simpa using hs.out) ?_, fun h0 => absurd HC.out h0⟩, hb⟩
        apply List.ext_getElem?
        intro j
        rw [map_cells, List.getElem?_map, List.getElem?_map]
        by_cases hj : j < L.length
        · obtain ⟨b, hxj⟩ := some_at hj
          rw [hxj, Array.getElem?_toList, hd.out j b (by omega) hxj]
          rfl
        · rw [List.getElem?_eq_none (by rw [Array.length_toList, hs.out]; omega), List.getElem?_eq_none (by omega)]
          rfl
  · have hc1 : (checkE L != 0) = true := by simpa using hc0
    have HC := hide hc0
    clear hc0
    go_enter Try.func41, Try.ntmps41
    go_wp2_with fail
    refine (check_any A c L _ S hS h).mono ?_
    rintro e w1 ⟨rfl, hb1⟩
    go_wp2_with fail
    go_ret2
    exact ⟨⟨_, rfl, fun h0 => absurd h0 HC.out, fun _ => rfl⟩, hb1⟩
theorem Masks_any (A : Option Addr) (c : Nat) (L : List Bel) (now limit : Int) (w : World) (S : Nat → Prop) (hS : ∀ b, S b → b < w.heap.size) (h : Rd w S A 3 Bel.cells L) :
    Calls Try.prog 19 #[.slice A L.length c, .int .i64 now, .int .i64 limit] w (MasksPost L (fun b => maskK b now limit) w) := by
  go_enter Try.func19, Try.ntmps19
  go_wp2_with fail
  refine (masksK A c L now limit _ S hS h).mono ?_
  rintro e w1 ⟨⟨v, rfl, h1, h2⟩, hb⟩
  have H1 := hide h1; have H2 := hide h2
  clear h1 h2
  go_wp2_with fail
  go_ret2
  exact ⟨⟨v, rfl, H1.out, H2.out⟩, hb⟩
theorem Likely_any (A : Option Addr) (c : Nat) (L : List Bel) (now limit : Int) (w : World) (S : Nat → Prop) (hS : ∀ b, S b → b < w.heap.size) (h : Rd w S A 3 Bel.cells L) :
    Calls Try.prog 24 #[.slice A L.length c, .int .i64 now, .int .i64 limit] w (MasksPost L (fun b => maskL b now limit) w) := by
  go_enter Try.func24, Try.ntmps24
  go_wp2_with fail
  refine (masksL A c L now limit _ S hS h).mono ?_
  rintro e w1 ⟨⟨v, rfl, h1, h2⟩, hb⟩
  have H1 := hide h1; have H2 := hide h2
  clear h1 h2
  go_wp2_with fail
  go_ret2
  exact ⟨⟨v, rfl, H1.out, H2.out⟩, hb⟩
end Go.Proofs.Ytmicckgfpodahaa
