/- lexeme.Number, lexeme.Text and awake of permitofficelaw01: each returns what a plain function says and lays only new memory; conditions: the tables stand as the program's text lays them, integers are Go integers. -/
import Derived.Test.YtblopmoapfcfhaaDoorLexN
import Derived.Test.YtblopmoapfcfhaaDoorLexQ
import Derived.Test.YtblopmoapfcfhaaDoorShelf
set_option linter.unusedVariables false
set_option linter.unusedSimpArgs false
namespace Go.Proofs.YtblopmoapfcfhaaDoor
open Go Go.RowKit Go.Sort
def Pow (w : World) : Prop := Lib.TabIs Tryd.prog w "internal/strconv.uint64pow10" .u64 Lib.pow10Tab
theorem gPow : Tryd.prog.globalNamed "internal/strconv.uint64pow10" = some 1 := by kernel_rfl
theorem Pow.below {w w' : World} {B : Nat} (h : Pow w) (hb : Below B w w') (hB : 1 < B) : Pow w' := by
  unfold Pow Lib.TabIs World.var? at *
  rw [gPow] at *
  simp only [Option.bind_some] at *
  rw [hb.block _ hB]
  exact h
theorem Pow.lt {w : World} (h : Pow w) : 1 < w.heap.size := by
  unfold Pow Lib.TabIs World.var? at h
  rw [gPow] at h
  simp only [Option.bind_some] at h
  rcases Nat.lt_or_ge 1 w.heap.size with hl | hl
  · exact hl
  · rw [Array.getElem?_eq_none hl] at h
    simp at h
theorem below_grow (w : World) (k : Nat) (os : Array Obj) : Below w.heap.size w (grow (w.drewN k) os) :=
  ⟨rfl, rfl, rfl, by simp [grow], fun i hi => by
    show (w.heap ++ os)[i]? = _
    rw [Array.getElem?_append_left hi]⟩
theorem ByteArray_isEmpty (s : ByteArray) : s.toList = s.data.toList := ByteArray.toList_eq s
def I64 (n : Int) : Prop := -9223372036854775808 ≤ n ∧ n ≤ 9223372036854775807
theorem text_any (n : Int) (w : World) (hn : I64 n) (hp : Pow w) : Calls Tryd.prog 14 #[.int .i64 n] w fun e w' => e = .returned (.string ⟨(Lib.itoa n).toArray⟩) ∧ Below w.heap.size w w' := by
  have hi := Tryd.strconv_Itoa n hn.1 hn.2 w hp
  have HI := hide hi
  clear hi hp
  go_enter Tryd.func14, Tryd.ntmps14
  go_wp2_with fail
  refine HI.out.mono ?_
  rintro e w1 ⟨rfl, k, os, rfl⟩
  go_wp2_with fail
  go_ret
  exact ⟨rfl, below_grow w k os⟩
theorem number_empty (s : ByteArray) (most : Int) (w : World) (h : s.toList.isEmpty = true) : Calls Tryd.prog 15 #[.string s, .int .i64 most] w fun e w' => e = .returned (.tuple #[.int .i64 0, .bool false]) ∧ w = w' := by
  go_enter Tryd.func15, Tryd.ntmps15
  go_wp2_with fail
  go_ret2
  exact ⟨rfl, rfl⟩
theorem numGo_at {most : Int} {l : List UInt8} {k : Nat} {c : UInt8} (hx : l[k]? = some c) (n : Int) : numGo most (l.drop k) n = (numStep most n ((c.toNat : Int) - 48)).bind (numGo most (l.drop (k + 1))) := by
  rw [drop_at hx, numGo]
set_option maxHeartbeats 4000000 in
theorem number_some (s : ByteArray) (c0 : UInt8) (r : List UInt8) (most : Int) (w : World) (hs : s.data.toList = c0 :: r) (he : s.toList.isEmpty = false) (hm : s.size ≤ maxLen) (h1 : -9223372036854775808 ≤ most) (h2 : most ≤ 9223372036854775807) :
    Calls Tryd.prog 15 #[.string s, .int .i64 most] w fun e w' => e = .returned (.tuple #[.int .i64 ((numP (c0 :: r) most).getD 0), .bool (numP (c0 :: r) most).isSome]) ∧ w = w' := by
  have hm2 : s.size ≤ 9223372036854775807 := by unfold maxLen at hm; omega
  have i0 : ∀ W : World, (Instr.index 9 (.string s) (.int .i64 0)).run Tryd.prog W = .ok (.int .u8 (c0.toNat : Int)) W := fun W => idx_str s 0 c0 (by rw [hs]; rfl) W
  have hz := size_str s
  have hzr : s.size = r.length + 1 := by rw [hz, hs]; rfl
  have HZ := hide hz
  have HZR := hide hzr
  have HS := hide hs
  obtain ⟨b0, hb0⟩ : ∃ b : Int, (c0.toNat : Int) = b := ⟨_, rfl⟩
  have hb00 : 0 ≤ b0 ∧ b0 < 256 := by have := c0.toNat_lt; omega
  rw [hb0] at i0
  have HB0 := hide hb0
  clear hz hs hm hb0
  by_cases hq : (1 : Int) < (s.size : Int) ∧ b0 = 48
  · obtain ⟨hq1, hq2⟩ := hq
    have e1 : numP (c0 :: r) most = none := by
      unfold numP
      dsimp only
      have hc : c0 = 48 := UInt8.toNat_inj.1 (by have := HB0.out; show c0.toNat = 48; omega)
      rw [if_pos ⟨fun h => by rw [h] at hzr; simp at hzr; omega, hc⟩]
    rw [e1]
    have hq3 : (b0 == 48) = true := by simp [hq2]
    clear hq2 e1 hzr
    go_enter Tryd.func15, Tryd.ntmps15
    go_wp2_with fail
    go_ret2
    exact ⟨rfl, rfl⟩
  · have e1 : numP (c0 :: r) most = numGo most s.data.toList 0 := by
      rw [HS.out]
      unfold numP
      dsimp only
      rw [if_neg]
      rintro ⟨h3, h4⟩
      apply hq
      refine ⟨?_, ?_⟩
      · have : r.length ≠ 0 := fun h => h3 (List.eq_nil_of_length_eq_zero h)
        omega
      · rw [← HB0.out, h4]; rfl
    rw [e1]
    have HQ := hide hq
    clear e1 hq hzr
    go_enter Tryd.func15, Tryd.ntmps15
    by_cases hsz : (1 : Int) < (s.size : Int)
    · have hb48 : (b0 == 48) = false := by
        have := HQ.out
        simp
        omega
      go_wp2_with fail
      go_loopw [6, 23] (fun v i wr => ∃ (k : Nat) (m : Int), v = .int .i64 m ∧ i = .int .i64 k ∧ k ≤ s.size ∧ 0 ≤ m ∧ m ≤ 9223372036854775807 ∧ Hid (numGo most (s.data.toList.drop k) m = numGo most s.data.toList 0) ∧ w = wr) (fun _ i _ => s.size - (intOf i).toNat)
      case atStart => exact ⟨0, 0, rfl, rfl, Nat.zero_le _, by omega, by omega, hide rfl, rfl⟩
      case round =>
        obtain ⟨k, m, rfl, rfl, hk, hm0, hm1, hf, rfl⟩ := hrel
        by_cases hlt : k < s.size
        · have hlt' : (k : Int) < (s.size : Int) := by omega
          obtain ⟨c, hx⟩ := some_at (L := s.data.toList) (k := k) (by rw [← HZ.out]; exact hlt)
          have ix := idx_str s k c hx
          have HAT := hide (numGo_at hx m (most := most))
          clear hx
          obtain ⟨b, hb⟩ : ∃ b : Int, (c.toNat : Int) = b := ⟨_, rfl⟩
          have hbb : 0 ≤ b ∧ b < 256 := by have := c.toNat_lt; omega
          obtain ⟨hb1, hb2⟩ := hbb
          rw [hb] at ix HAT
          clear hb
          have stop : (b - 48 < 0 ∨ 9 < b - 48 ∨ most < b - 48 ∨ (most - (b - 48)) / 10 < m) → numGo most s.data.toList 0 = none := fun h => by
            rw [← hf.out, HAT.out, numStep, if_pos h]; rfl
          have HSTOP := hide stop
          clear stop
          by_cases q1 : b - 48 < 0
          · have hn := HSTOP.out (.inl q1)
            have HN := hide hn
            clear hn
            go_wp2_with fail
            go_ret2
            exact ⟨by rw [HN.out]; rfl, rfl⟩
          · by_cases q2 : 9 < b - 48
            · have hn := HSTOP.out (.inr (.inl q2))
              have HN := hide hn
              clear hn
              go_wp2_with fail
              go_ret2
              exact ⟨by rw [HN.out]; rfl, rfl⟩
            · by_cases q3 : most < b - 48
              · have hn := HSTOP.out (.inr (.inr (.inl q3)))
                have HN := hide hn
                clear hn
                go_wp2_with fail
                go_ret2
                exact ⟨by rw [HN.out]; rfl, rfl⟩
              · have hqq : wrap64 ((most - (b - 48)).tdiv 10) = (most - (b - 48)) / 10 := by
                  rw [Int.tdiv_eq_ediv_of_nonneg (by omega)]
                  exact IntWalk.wrap64_in _ ⟨by omega, by omega⟩
                by_cases q4 : (most - (b - 48)) / 10 < m
                · have hn := HSTOP.out (.inr (.inr (.inr q4)))
                  have HN := hide hn
                  clear hn
                  go_wp2_with fail
                  go_ret2
                  exact ⟨by rw [HN.out]; rfl, rfl⟩
                · have hgo : numGo most (s.data.toList.drop (k + 1)) (10 * m + (b - 48)) = numGo most s.data.toList 0 := by
                    rw [← hf.out, HAT.out, numStep, if_neg (by omega)]; rfl
                  have HGO := hide hgo
                  clear hgo
                  go_wp2_with fail
                  go_roundw
                  case rel => exact ⟨k + 1, 10 * m + (b - 48), by go_num, by go_num, by omega, by omega, by omega, HGO, trivial⟩
                  case measure => simp [intOf]; omega
        · obtain rfl : k = s.size := by omega
          have hn : numGo most s.data.toList 0 = some m := by
            have := hf.out
            rw [List.drop_of_length_le (by rw [← HZ.out]; exact Nat.le_refl _)] at this
            rw [← this]; rfl
          have HN := hide hn
          clear hn
          go_wp2_with fail
          go_ret2
          exact ⟨by rw [HN.out]; rfl, rfl⟩
    · go_wp2_with fail
      go_loopw [6, 23] (fun v i wr => ∃ (k : Nat) (m : Int), v = .int .i64 m ∧ i = .int .i64 k ∧ k ≤ s.size ∧ 0 ≤ m ∧ m ≤ 9223372036854775807 ∧ Hid (numGo most (s.data.toList.drop k) m = numGo most s.data.toList 0) ∧ w = wr) (fun _ i _ => s.size - (intOf i).toNat)
      case atStart => exact ⟨0, 0, rfl, rfl, Nat.zero_le _, by omega, by omega, hide rfl, rfl⟩
      case round =>
        obtain ⟨k, m, rfl, rfl, hk, hm0, hm1, hf, rfl⟩ := hrel
        by_cases hlt : k < s.size
        · have hlt' : (k : Int) < (s.size : Int) := by omega
          obtain ⟨c, hx⟩ := some_at (L := s.data.toList) (k := k) (by rw [← HZ.out]; exact hlt)
          have ix := idx_str s k c hx
          have HAT := hide (numGo_at hx m (most := most))
          clear hx
          obtain ⟨b, hb⟩ : ∃ b : Int, (c.toNat : Int) = b := ⟨_, rfl⟩
          have hbb : 0 ≤ b ∧ b < 256 := by have := c.toNat_lt; omega
          obtain ⟨hb1, hb2⟩ := hbb
          rw [hb] at ix HAT
          clear hb
          have stop : (b - 48 < 0 ∨ 9 < b - 48 ∨ most < b - 48 ∨ (most - (b - 48)) / 10 < m) → numGo most s.data.toList 0 = none := fun h => by
            rw [← hf.out, HAT.out, numStep, if_pos h]; rfl
          have HSTOP := hide stop
          clear stop
          by_cases q1 : b - 48 < 0
          · have hn := HSTOP.out (.inl q1)
            have HN := hide hn
            clear hn
            go_wp2_with fail
            go_ret2
            exact ⟨by rw [HN.out]; rfl, rfl⟩
          · by_cases q2 : 9 < b - 48
            · have hn := HSTOP.out (.inr (.inl q2))
              have HN := hide hn
              clear hn
              go_wp2_with fail
              go_ret2
              exact ⟨by rw [HN.out]; rfl, rfl⟩
            · by_cases q3 : most < b - 48
              · have hn := HSTOP.out (.inr (.inr (.inl q3)))
                have HN := hide hn
                clear hn
                go_wp2_with fail
                go_ret2
                exact ⟨by rw [HN.out]; rfl, rfl⟩
              · have hqq : wrap64 ((most - (b - 48)).tdiv 10) = (most - (b - 48)) / 10 := by
                  rw [Int.tdiv_eq_ediv_of_nonneg (by omega)]
                  exact IntWalk.wrap64_in _ ⟨by omega, by omega⟩
                by_cases q4 : (most - (b - 48)) / 10 < m
                · have hn := HSTOP.out (.inr (.inr (.inr q4)))
                  have HN := hide hn
                  clear hn
                  go_wp2_with fail
                  go_ret2
                  exact ⟨by rw [HN.out]; rfl, rfl⟩
                · have hgo : numGo most (s.data.toList.drop (k + 1)) (10 * m + (b - 48)) = numGo most s.data.toList 0 := by
                    rw [← hf.out, HAT.out, numStep, if_neg (by omega)]; rfl
                  have HGO := hide hgo
                  clear hgo
                  go_wp2_with fail
                  go_roundw
                  case rel => exact ⟨k + 1, 10 * m + (b - 48), by go_num, by go_num, by omega, by omega, by omega, HGO, trivial⟩
                  case measure => simp [intOf]; omega
        · obtain rfl : k = s.size := by omega
          have hn : numGo most s.data.toList 0 = some m := by
            have := hf.out
            rw [List.drop_of_length_le (by rw [← HZ.out]; exact Nat.le_refl _)] at this
            rw [← this]; rfl
          have HN := hide hn
          clear hn
          go_wp2_with fail
          go_ret2
          exact ⟨by rw [HN.out]; rfl, rfl⟩
theorem number_any (s : ByteArray) (most : Int) (w : World) (hm : s.size ≤ maxLen) (h : I64 most) :
    Calls Tryd.prog 15 #[.string s, .int .i64 most] w fun e w' => e = .returned (.tuple #[.int .i64 ((numP s.data.toList most).getD 0), .bool (numP s.data.toList most).isSome]) ∧ w = w' := by
  match hl : s.data.toList with
  | [] => exact number_empty s most w (by rw [ByteArray_isEmpty, hl]; rfl)
  | c :: r => exact number_some s c r most w hl (by rw [ByteArray_isEmpty, hl]; rfl) hm h.1 h.2
set_option maxRecDepth 100000 in
set_option maxHeartbeats 2000000 in
theorem awake_any (w : World) (hc : Cls w) (hp : Pow w) : Calls Tryd.prog 9 #[] w fun e w' => e = .returned (.bool true) ∧ Below w.heap.size w w' := by
  have n1 := fun W => number_any ⟨#[48, 55]⟩ 9 W (by decide) (by unfold I64; omega)
  have n2 := fun W => number_any ⟨#[55]⟩ 9 W (by decide) (by unfold I64; omega)
  have e1 : numP (ByteArray.mk #[48, 55]).data.toList 9 = none := by decide +kernel
  have e2 : numP (ByteArray.mk #[55]).data.toList 9 = some 7 := by decide +kernel
  rw [e1] at n1
  rw [e2] at n2
  have a1 := fun W hW => name_any ⟨#[81, 49]⟩ W hW (by decide)
  have a2 := fun W hW => name_any ⟨#[49, 81]⟩ W hW (by decide)
  have e3 : nameB (ByteArray.mk #[81, 49]).data.toList = true := by decide +kernel
  have e4 : nameB (ByteArray.mk #[49, 81]).data.toList = false := by decide +kernel
  rw [e3] at a1
  rw [e4] at a2
  have t1 := fun W hW => text_any (-12) W (by unfold I64; omega) hW
  have e5 : Lib.itoa (-12) = [45, 49, 50] := by decide +kernel
  rw [e5] at t1
  have N1 := hide n1
  have N2 := hide n2
  have A1 := hide a1
  have A2 := hide a2
  have T1 := hide t1
  clear n1 n2 e1 e2 a1 a2 e3 e4 t1 e5
  have hcl := hc.lt
  have hpl := hp.lt
  go_enter Tryd.func9, Tryd.ntmps9
  go_wp2_with fail
  refine (N1.out _).mono ?_
  rintro e w1 ⟨rfl, rfl⟩
  go_wp2_with fail
  refine (N2.out _).mono ?_
  rintro e w2 ⟨rfl, rfl⟩
  go_wp2_with fail
  refine (A1.out _ hc).mono ?_
  rintro e w3 ⟨rfl, hb3⟩
  go_wp2_with fail
  refine (A2.out _ (hc.below hb3 hcl)).mono ?_
  rintro e w4 ⟨rfl, hb4⟩
  have b4 := hb3.trans (hb4.mono hb3.size)
  go_wp2_with fail
  refine (T1.out _ (hp.below b4 hpl)).mono ?_
  rintro e w5 ⟨rfl, hb5⟩
  have b5 := b4.trans (hb5.mono b4.size)
  go_wp2_with fail
  go_ret
  exact ⟨rfl, b5⟩
end Go.Proofs.YtblopmoapfcfhaaDoor
