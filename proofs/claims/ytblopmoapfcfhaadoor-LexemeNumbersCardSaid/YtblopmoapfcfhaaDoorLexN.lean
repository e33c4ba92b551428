/- lexeme.Name, its reference, and what they call: each returns what a plain function says and lays only new memory; conditions: the table of classes stands as the program's text lays it. -/
import Derived.Test.YtblopmoapfcfhaaDoorLexP
import Derived.Test.YtblopmoapfcfhaaDoorMkD
import Derived.Laws.Rows
set_option linter.unusedVariables false
set_option linter.unusedSimpArgs false
namespace Go.Proofs.YtblopmoapfcfhaaDoor
open Go Go.RowKit
def clsCells : Array Value := #[.int .u8 65, .int .u8 90, .bool true, .int .u8 97, .int .u8 122, .bool true, .int .u8 48, .int .u8 57, .bool false, .int .u8 95, .int .u8 95, .bool false]
def Cls (w : World) : Prop := ∃ t fr, w.heap[0]? = some (.cells clsCells t fr)
theorem Cls.lt {w : World} (h : Cls w) : 0 < w.heap.size := by
  obtain ⟨t, fr, h⟩ := h
  rcases Nat.lt_or_ge 0 w.heap.size with hl | hl
  · exact hl
  · rw [Array.getElem?_eq_none hl] at h; cases h
theorem Cls.below {w w' : World} {B : Nat} (h : Cls w) (hb : Below B w w') (hB : 0 < B) : Cls w' := by
  obtain ⟨t, fr, h⟩ := h
  exact ⟨t, fr, (hb.block _ hB).trans h⟩
theorem Cls.only {w w' : World} {g : Nat} (h : Cls w) (ho : Only g w w') (hg : 0 < g) : Cls w' := by
  have hl := h.lt
  obtain ⟨t, fr, h⟩ := h
  exact ⟨t, fr, (ho.block _ hl (by intro e; injection e with e; omega)).trans h⟩
theorem Cls.alloc {w : World} (h : Cls w) (o : Obj) : Cls (w.alloc o) := h.below ((Below.refl _ _).alloc (Nat.le_refl _) o) h.lt
theorem idx_str (s : ByteArray) (k : Nat) (c : UInt8) (hc : s.data.toList[k]? = some c) (w : World) : (Instr.index 9 (.string s) (.int .i64 k)).run Tryd.prog w = .ok (.int .u8 (c.toNat : Int)) w := by
  have hk := lt_at hc
  have hk2 : k < s.size := by simpa using hk
  rw [run_index_string w 9 s .i64 _ Tryd.underlying9, dif_pos ⟨by omega, by omega⟩]
  have e : ((k : Int)).toNat = k := by omega
  simp only [e]
  have : s[k] = c := by
    rw [List.getElem?_eq_getElem hk] at hc
    injection hc with hc
  rw [this]
theorem size_str (s : ByteArray) : s.size = s.data.toList.length := by simp
theorem cls_at {k : Nat} (hk : k < 4) : ∃ lo hi fs, clsTab[k]? = some (lo, hi, fs) ∧ ∀ w : World, (Instr.index 52 (.agg clsCells) (.int .i64 k)).run Tryd.prog w = .ok (.agg #[.int .u8 lo, .int .u8 hi, .bool fs]) w := by
  obtain rfl | rfl | rfl | rfl : k = 0 ∨ k = 1 ∨ k = 2 ∨ k = 3 := by omega
  · exact ⟨65, 90, true, rfl, fun w => by kernel_rfl⟩
  · exact ⟨97, 122, true, rfl, fun w => by kernel_rfl⟩
  · exact ⟨48, 57, false, rfl, fun w => by kernel_rfl⟩
  · exact ⟨95, 95, false, rfl, fun w => by kernel_rfl⟩
set_option maxHeartbeats 2000000 in
theorem fits_any (b : Int) (f : Bool) (w : World) (hc : Cls w) : Calls Tryd.prog 25 #[.int .u8 b, .bool f] w fun e w' => e = .returned (.bool (fitsB b f)) ∧ Below w.heap.size w w' := by
  obtain ⟨tt, fr, hg⟩ := hc
  have HG := hide hg
  obtain ⟨arr, harr⟩ : ∃ arr, clsCells = arr := ⟨_, rfl⟩
  have hix := fun k hk => @cls_at k hk
  rw [harr] at hix
  have HIX := hide hix
  have HA := hide harr
  clear hg hix harr
  go_enter Tryd.func25, Tryd.ntmps25
  go_wp2_with (refine wpList_load_row rfl 52 _ rfl 0 rfl tt arr fr _ (by rw [← HA.out]; exact HG.out) Tryd.underlying52 rfl (by rw [← HA.out]; kernel_rfl) ?_)
  go_loopw [8] (fun i wr => ∃ k : Nat, i = .int .i64 k ∧ k ≤ 4 ∧ Hid (fitsGo (clsTab.drop k) b f = fitsB b f) ∧ Below w.heap.size w wr) (fun i _ => 4 - (intOf i).toNat)
  case atStart => exact ⟨0, rfl, by omega, hide rfl, Below.refl _ _⟩
  case round =>
    obtain ⟨k, rfl, hk, hf, hb⟩ := hrel
    have hz := hb.size
    by_cases hlt : k < 4
    · have hlt' : (k : Int) < 4 := by omega
      obtain ⟨lo, hi, fs, ht, ix⟩ := HIX.out k hlt
      have e0 : fitsB b f = if lo ≤ b ∧ b ≤ hi then (fs || !f) else fitsGo (clsTab.drop (k + 1)) b f := by
        rw [← hf.out, drop_at ht, fitsGo]
      have HE := hide e0
      clear ht e0
      by_cases h1 : lo ≤ b
      · by_cases h2 : b ≤ hi
        · go_wp2_with fail
          all_goals go_ret
          all_goals refine ⟨?_, hb.alloc hz _⟩
          all_goals rw [HE.out, if_pos ⟨h1, h2⟩]
          all_goals simp_all
        · go_wp2_with fail
          go_roundw
          case rel => exact ⟨k + 1, by go_num, by omega, hide (by rw [HE.out, if_neg (fun h => h2 h.2)]), hb.alloc hz _⟩
          case measure => simp [intOf]; omega
      · go_wp2_with fail
        go_roundw
        case rel => exact ⟨k + 1, by go_num, by omega, hide (by rw [HE.out, if_neg (fun h => h1 h.1)]), hb.alloc hz _⟩
        case measure => simp [intOf]; omega
    · obtain rfl : k = 4 := by omega
      go_wp2_with fail
      go_ret
      exact ⟨by rw [← hf.out]; rfl, hb⟩
theorem fitsAll_at {l : List UInt8} {k : Nat} {c : UInt8} (hx : l[k]? = some c) (f : Bool) : fitsAll (l.drop k) f = (fitsB c.toNat f && fitsAll (l.drop (k + 1)) false) := by
  rw [drop_at hx, fitsAll]
set_option maxHeartbeats 2000000 in
theorem name_any (s : ByteArray) (w : World) (hc : Cls w) (hm : s.size ≤ maxLen) : Calls Tryd.prog 12 #[.string s] w fun e w' => e = .returned (.bool (nameB s.data.toList)) ∧ Below w.heap.size w w' := by
  have hm2 : s.size ≤ 9223372036854775807 := by unfold maxLen at hm; omega
  have hs := size_str s
  have hgl := hc.lt
  have HS := hide hs
  have HC := hide hc
  clear hs hc hm
  go_enter Tryd.func12, Tryd.ntmps12
  go_wp2_with fail
  go_loopw [6] (fun i wr => ∃ k : Nat, i = .int .i64 k ∧ k ≤ s.size ∧ Hid (fitsAll (s.data.toList.drop k) (decide (k = 0)) = fitsAll s.data.toList true) ∧ Below w.heap.size w wr) (fun i _ => s.size - (intOf i).toNat)
  case atStart => exact ⟨0, rfl, Nat.zero_le _, hide rfl, Below.refl _ _⟩
  case round =>
    obtain ⟨k, rfl, hk, hf, hb⟩ := hrel
    have hz := hb.size
    by_cases hlt : k < s.size
    · have hlt' : (k : Int) < (s.size : Int) := by omega
      obtain ⟨c, hx⟩ := some_at (L := s.data.toList) (k := k) (by rw [← HS.out]; exact hlt)
      have ix := idx_str s k c hx
      have HX := hide hx
      clear hx
      obtain ⟨f, hff⟩ : ∃ f, ((k : Int) == 0) = f := ⟨_, rfl⟩
      have hfd : f = decide (k = 0) := by
        rw [← hff]
        by_cases h0 : k = 0
        · simp [h0]
        · have : ((k : Int) == 0) = false := by simp; omega
          rw [this]; simp [h0]
      have HF := hide hfd
      clear hfd
      have hfa := fits_any c.toNat f wr (HC.out.below hb hgl)
      obtain ⟨φ, hφ⟩ : ∃ φ, fitsB c.toNat f = φ := ⟨_, rfl⟩
      rw [hφ] at hfa
      have HFA := hide hfa
      have HP := hide hφ
      clear hfa hφ
      go_wp2_with fail
      refine HFA.out.mono ?_
      rintro e w1 ⟨rfl, hb1⟩
      have b1 := hb.trans (hb1.mono hz)
      have hat := fitsAll_at HX.out f
      rw [HP.out, HF.out, hf.out] at hat
      have HAT := hide hat
      clear hat hb1 hb
      cases φ
      · go_wp2_with fail
        go_ret
        exact ⟨by unfold nameB; rw [HAT.out]; rfl, b1⟩
      · go_wp2_with fail
        go_roundw
        case rel => exact ⟨k + 1, by go_num, by omega, hide (by rw [HAT.out]; simp), b1⟩
        case measure => simp [intOf]; omega
    · obtain rfl : k = s.size := by omega
      have hf1 : fitsAll s.data.toList true = true := by
        have := hf.out
        rw [List.drop_of_length_le (by rw [← HS.out]; exact Nat.le_refl _)] at this
        rw [← this]; rfl
      have HF1 := hide hf1
      clear hf1
      go_wp2_with fail
      all_goals go_ret
      all_goals refine ⟨?_, hb⟩
      all_goals unfold nameB
      all_goals rw [HF1.out, ← HS.out]
      · refine congrArg (fun b => Ending.returned (.bool b)) (?_ : decide ((s.size : Int) ≤ 12) = _)
        rw [Bool.eq_iff_iff]
        simp
        omega
      · refine congrArg (fun b => Ending.returned (.bool b)) (?_ : false = _)
        rw [Bool.eq_iff_iff]
        simp
        omega
theorem letter_any (b : Int) (w : World) : Calls Tryd.prog 26 #[.int .u8 b] w fun e w' => e = .returned (.bool (letterB b)) ∧ w = w' := by
  go_enter Tryd.func26, Tryd.ntmps26
  go_wp2
  all_goals go_ret
  all_goals exact ⟨by simp_all [letterB] <;> omega, rfl⟩
theorem digit_any (b : Int) (w : World) : Calls Tryd.prog 27 #[.int .u8 b] w fun e w' => e = .returned (.bool (digitB b)) ∧ w = w' := by
  go_enter Tryd.func27, Tryd.ntmps27
  go_wp2
  all_goals go_ret
  all_goals exact ⟨by simp_all [digitB] <;> omega, rfl⟩
theorem charsB_at {l : List UInt8} {k : Nat} {c : UInt8} (hx : l[k]? = some c) : charsB (l.drop k) = (charB c.toNat && charsB (l.drop (k + 1))) := by
  rw [drop_at hx, charsB]
theorem rname_empty (s : ByteArray) (w : World) (h : (s.size : Int) < 1) : Calls Tryd.prog 13 #[.string s] w fun e w' => e = .returned (.bool false) ∧ Below w.heap.size w w' := by
  go_enter Tryd.func13, Tryd.ntmps13
  go_wp2_with fail
  go_ret
  exact ⟨rfl, Below.refl _ _⟩
theorem rname_long (s : ByteArray) (w : World) (h : ¬ (s.size : Int) < 1) (h2 : (12 : Int) < (s.size : Int)) : Calls Tryd.prog 13 #[.string s] w fun e w' => e = .returned (.bool false) ∧ Below w.heap.size w w' := by
  go_enter Tryd.func13, Tryd.ntmps13
  go_wp2_with fail
  go_ret
  exact ⟨rfl, Below.refl _ _⟩
set_option maxHeartbeats 2000000 in
theorem rname_short (s : ByteArray) (c0 : UInt8) (r : List UInt8) (w : World) (hs : s.data.toList = c0 :: r) (h : ¬ (s.size : Int) < 1) (h2 : ¬ (12 : Int) < (s.size : Int)) : Calls Tryd.prog 13 #[.string s] w fun e w' => e = .returned (.bool (letterB c0.toNat && charsB s.data.toList)) ∧ Below w.heap.size w w' := by
  have i0 : ∀ W : World, (Instr.index 9 (.string s) (.int .i64 0)).run Tryd.prog W = .ok (.int .u8 (c0.toNat : Int)) W := fun W => idx_str s 0 c0 (by rw [hs]; rfl) W
  have hz := size_str s
  have HZ := hide hz
  have HS := hide hs
  have hla := fun W => letter_any c0.toNat W
  obtain ⟨q0, hl0⟩ : ∃ x, letterB c0.toNat = x := ⟨_, rfl⟩
  rw [hl0] at hla ⊢
  have HLA := hide hla
  clear hla hl0 hz hs
  go_enter Tryd.func13, Tryd.ntmps13
  go_wp2_with fail
  refine (HLA.out _).mono ?_
  rintro e w1 ⟨rfl, rfl⟩
  cases q0
  · go_wp2_with fail
    go_ret
    exact ⟨rfl, Below.refl _ _⟩
  · go_wp2_with fail
    go_loopw [3] (fun i wr => ∃ k : Nat, i = .int .i64 k ∧ k ≤ s.size ∧ Hid (charsB (s.data.toList.drop k) = charsB s.data.toList) ∧ w = wr) (fun i _ => s.size - (intOf i).toNat)
    case atStart => exact ⟨0, rfl, Nat.zero_le _, hide rfl, rfl⟩
    case round =>
      obtain ⟨k, rfl, hk, hf, rfl⟩ := hrel
      by_cases hlt : k < s.size
      · have hlt' : (k : Int) < (s.size : Int) := by omega
        obtain ⟨c, hx⟩ := some_at (L := s.data.toList) (k := k) (by rw [← HZ.out]; exact hlt)
        have ix := idx_str s k c hx
        have HAT := hide (charsB_at hx)
        clear hx
        have hla := fun W => letter_any c.toNat W
        have hda := fun W => digit_any c.toNat W
        obtain ⟨l1, hl1⟩ : ∃ x, letterB c.toNat = x := ⟨_, rfl⟩
        obtain ⟨d1, hd1⟩ : ∃ x, digitB c.toNat = x := ⟨_, rfl⟩
        rw [hl1] at hla
        rw [hd1] at hda
        have HLA := hide hla
        have HDA := hide hda
        have HL1 := hide hl1
        have HD1 := hide hd1
        clear hla hda hl1 hd1
        have bad : charB c.toNat = false → charsB s.data.toList = false := fun h => by rw [← hf.out, HAT.out, h]; rfl
        have good : charB c.toNat = true → charsB (s.data.toList.drop (k + 1)) = charsB s.data.toList := fun h => by rw [← hf.out, HAT.out, h]; simp
        have HB := hide bad
        have HG := hide good
        clear bad good
        go_wp2_with fail
        refine (HLA.out _).mono ?_
        rintro e w1 ⟨rfl, rfl⟩
        cases l1
        · go_wp2_with fail
          refine (HDA.out _).mono ?_
          rintro e w2 ⟨rfl, rfl⟩
          cases d1
          · by_cases h95 : (c.toNat : Int) = 95
            · have h95' : ((c.toNat : Int) != 95) = false := by simp [h95]
              have hg := HG.out (by unfold charB; rw [HL1.out, HD1.out]; simp [h95])
              have HGG := hide hg
              clear hg h95
              go_wp2_with fail
              go_roundw
              case rel => exact ⟨k + 1, by go_num, by omega, HGG, trivial⟩
              case measure => simp [intOf]; omega
            · have h95' : ((c.toNat : Int) != 95) = true := by simp [h95]
              have hg := HB.out (by unfold charB; rw [HL1.out, HD1.out]; simp [h95])
              have HGG := hide hg
              clear hg h95
              go_wp2_with fail
              go_ret
              exact ⟨by rw [HGG.out]; rfl, Below.refl _ _⟩
          · have hg := HG.out (by unfold charB; rw [HL1.out, HD1.out]; simp)
            have HGG := hide hg
            clear hg
            go_wp2_with fail
            go_roundw
            case rel => exact ⟨k + 1, by go_num, by omega, HGG, trivial⟩
            case measure => simp [intOf]; omega
        · have hg := HG.out (by unfold charB; rw [HL1.out]; simp)
          have HGG := hide hg
          clear hg
          go_wp2_with fail
          go_roundw
          case rel => exact ⟨k + 1, by go_num, by omega, HGG, trivial⟩
          case measure => simp [intOf]; omega
      · obtain rfl : k = s.size := by omega
        have hf1 : charsB s.data.toList = true := by
          have := hf.out
          rw [List.drop_of_length_le (by rw [← HZ.out]; exact Nat.le_refl _)] at this
          rw [← this]; rfl
        have HF1 := hide hf1
        clear hf1
        go_wp2_with fail
        go_ret
        exact ⟨by rw [HF1.out]; rfl, Below.refl _ _⟩
theorem rname_any (s : ByteArray) (w : World) : Calls Tryd.prog 13 #[.string s] w fun e w' => e = .returned (.bool (nameB s.data.toList)) ∧ Below w.heap.size w w' := by
  rw [← rname_eq]
  have hz := size_str s
  match hl : s.data.toList with
  | [] =>
    have h0 : s.size = 0 := by rw [hz, hl]; rfl
    exact rname_empty s w (by omega)
  | c :: r =>
    have hz : s.size = r.length + 1 := by rw [hz, hl]; rfl
    have hz2 : (c :: r).length = r.length + 1 := rfl
    by_cases h12 : (12 : Int) < (s.size : Int)
    · have e : rnameB (c :: r) = false := by
        unfold rnameB
        have : decide ((c :: r).length ≤ 12) = false := by simp only [decide_eq_false_iff_not]; omega
        dsimp only
        rw [this]; rfl
      rw [e]
      exact rname_long s w (by omega) h12
    · have e : rnameB (c :: r) = (letterB c.toNat && charsB s.data.toList) := by
        unfold rnameB
        have : decide ((c :: r).length ≤ 12) = true := by simp only [decide_eq_true_eq]; omega
        dsimp only
        rw [this, hl]; rfl
      rw [e]
      exact rname_short s c r w hl (by omega) h12
end Go.Proofs.YtblopmoapfcfhaaDoor
