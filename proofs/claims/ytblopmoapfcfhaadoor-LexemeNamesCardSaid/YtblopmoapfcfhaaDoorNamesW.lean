/- LexemeNames' walk: it returns true; conditions: the tables stand as the program's text lays them, a slice reads as a list. -/
import Derived.Test.YtblopmoapfcfhaaDoorLexM
import Derived.Laws.BytesArg
set_option linter.unusedVariables false
set_option linter.unusedSimpArgs false
namespace Go.Proofs.YtblopmoapfcfhaaDoor
open Go Go.RowKit
theorem Pow.only {w w' : World} {g : Nat} (h : Pow w) (ho : Only g w w') (hg : 1 < g) : Pow w' := by
  have hl := h.lt
  unfold Pow Lib.TabIs World.var? at *
  rw [gPow] at *
  simp only [Option.bind_some] at *
  rw [ho.block _ hl (by intro e; injection e with e; omega)]
  exact h
theorem conv1 (x : Int) (w : World) : (convert 28 9 (.slice (some ⟨w.heap.size, 0, none⟩) 1 1)).run Tryd.prog (w.alloc (.cells #[.int .u8 x] 5)) = .ok (.string (strOfNums [x])) (w.alloc (.cells #[.int .u8 x] 5)) :=
  run_convert_bytes_arg _ 28 5 Tryd.underlying28 Tryd.underlying5 w.heap.size 0 1 1 [x] rfl (fun i hi => by
    obtain rfl : i = 0 := by omega
    rw [(Blk.new w 5 #[.int .u8 x]).cell]
    rfl) 9 Tryd.underlying9
theorem conv1_size (x : Int) : (strOfNums [x]).size = 1 := rfl
set_option maxRecDepth 100000 in
theorem names_many (A : Option Addr) (m c : Nat) (w : World) (hc : Cls w) (hp : Pow w) (hm : ¬ m ≤ 400) : Calls Tryd.prog 3 #[.slice A m c] w fun e w' => e = .returned (.bool true) ∧ Below w.heap.size w w' := by
  have hm' : (decide ((m : Int) ≤ 400)) = false := by simp; omega
  go_enter Tryd.func3, Tryd.ntmps3
  go_wp2_with (first | (go_at_call 8; refine (few_any _ _ _ _).mono ?_; rintro e w1 ⟨rfl, rfl⟩) | (go_at_call 9; refine (awake_any _ hc hp).mono ?_; rintro e w2 ⟨rfl, hb2⟩))
  go_ret
  exact ⟨rfl, hb2⟩
set_option maxRecDepth 100000 in
set_option maxHeartbeats 4000000 in
theorem names_few (A : Option Addr) (c : Nat) (l : List Int) (w : World) (hc : Cls w) (hp : Pow w) (hm : l.length ≤ 400) (h : Rd w (· < w.heap.size) A 1 (fun n => [.int .i64 n]) l) :
    Calls Tryd.prog 3 #[.slice A l.length c] w fun e w' => e = .returned (.bool true) ∧ Below w.heap.size w w' := by
  have hm' : (decide ((l.length : Int) ≤ 400)) = true := by simp; omega
  have D0 := DeckAt.new (c := c) rfl hm h
  have B0 : Below w.heap.size w (w.alloc (.cells #[.slice A l.length c, .int .i64 0, .int .u64 88172645463325252] 44)) := (Below.refl _ _).alloc (Nat.le_refl _) _
  have hcl := hc.lt
  have hpl := hp.lt
  clear h
  go_enter Tryd.func3, Tryd.ntmps3
  go_wp2_with (first | (go_at_call 8; refine (few_any _ _ _ _).mono ?_; rintro e w1 ⟨rfl, rfl⟩) | (go_at_call 10; refine (new_any _ _ _ _).mono ?_; rintro e w2 ⟨rfl, rfl⟩))
  refine (next_any w.heap.size 15 _ D0 (by omega) (by omega)).mono ?_
  rintro e w1 ⟨x, rfl, lox, hix, -, d1, o1⟩
  have hix2 := hix (by omega)
  have b1 := Only.below B0 B0.size (Nat.le_refl _) o1
  clear hix B0 D0 o1
  go_wp2_with fail
  go_loopw [4, 5] (fun v i wr => ∃ (k : Nat) (s : ByteArray), v = .string s ∧ i = .int .i64 k ∧ k < 15 ∧ s.size + k ≤ 15 ∧ DeckAt wr w.heap.size ∧ Below w.heap.size w wr) (fun _ i _ => (intOf i).toNat)
  case atStart =>
    obtain ⟨k, rfl⟩ := Int.eq_ofNat_of_zero_le lox
    exact ⟨k, _, rfl, rfl, by omega, by show 0 + k ≤ 15; omega, d1, b1⟩
  case round =>
    obtain ⟨k, s, rfl, rfl, hk, hs, hd, hb⟩ := hrel
    have hz := hb.size
    clear d1 b1
    by_cases hlt : 0 < k
    · have hlt' : (0 : Int) < (k : Int) := by omega
      go_wp2_with fail
      refine (next_any w.heap.size 9 wr hd (by omega) (by omega)).mono ?_
      rintro e w2 ⟨y, rfl, loy, hiy, -, d2, o2⟩
      have hiy2 := hiy (by omega)
      have b2 := Only.below hb hz (Nat.le_refl _) o2
      obtain ⟨j, rfl⟩ := Int.eq_ofNat_of_zero_le loy
      obtain ⟨ch, hch⟩ := some_at (L := (ByteArray.mk #[97, 90, 48, 57, 95, 45, 32, 46, 128]).data.toList) (k := j) (by show j < 9; omega)
      have ix := idx_str ⟨#[97, 90, 48, 57, 95, 45, 32, 46, 128]⟩ j ch hch
      have cv := conv1 ch.toNat w2
      obtain ⟨o, ho⟩ : ∃ o, strOfNums [(ch.toNat : Int)] = o := ⟨_, rfl⟩
      have ho1 : o.size = 1 := by rw [← ho]; exact conv1_size _
      rw [ho] at cv
      have hcat : s.size + o.size ≤ 16 := by omega
      clear hch hb o2 hiy ho
      go_wp2_with fail
      go_roundw
      case rel =>
        refine ⟨k - 1, s ++ o, rfl, by congr 1; omega, by omega, by rw [ByteArray.size_append]; omega, d2.alloc _, b2.alloc (by have := b2.size; omega) _⟩
      case measure => simp [intOf]; omega
    · go_wp2_with fail
      refine (name_any s wr (hc.below hb hcl) (by simp only [maxLen]; omega)).mono ?_
      rintro e w2 ⟨rfl, hb2⟩
      have b2 := hb.trans (hb2.mono hz)
      go_wp2_with fail
      refine (rname_any s w2).mono ?_
      rintro e w3 ⟨rfl, hb3⟩
      have b3 := b2.trans (hb3.mono b2.size)
      go_wp2_with fail
      refine (awake_any _ (hc.below b3 hcl) (hp.below b3 hpl)).mono ?_
      rintro e w4 ⟨rfl, hb4⟩
      have b4 := b3.trans (hb4.mono b3.size)
      go_wp2_with fail
      go_ret
      exact ⟨rfl, b4⟩
end Go.Proofs.YtblopmoapfcfhaaDoor
