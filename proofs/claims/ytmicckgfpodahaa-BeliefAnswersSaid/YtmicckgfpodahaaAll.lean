/- belief.All: the fold, in a row of its own; conditions: good beliefs. -/
import Derived.Test.YtmicckgfpodahaaOrderP
import Derived.Test.YtmicckgfpodahaaLists
import Derived.Deep.DeepCutAuto
set_option linter.unusedVariables false
set_option linter.unusedSimpArgs false
namespace Go.Proofs.Ytmicckgfpodahaa
open Go Go.RowKit
def CurOk (L : List Bel) (cur : Array Value) : Prop := ∀ k t m q, L[k]? = some ⟨t, m, q⟩ → cur[k * 3]? = some (.int .i64 t) ∧ cur[k * 3 + 1]? = some (.int .i64 m) ∧ cur[k * 3 + 2]? = some (.int .i64 q)
theorem CurOk.set {L : List Bel} {cur : Array Value} (h : CurOk L cur) {j : Nat} (hj : j < L.length) (x : Bel) :
    CurOk (L.set j x) (((cur.setIfInBounds (j * 3) (.int .i64 x.t)).setIfInBounds (j * 3 + 1) (.int .i64 x.m)).setIfInBounds (j * 3 + 2) (.int .i64 x.n)) := by
  intro k t m q hk
  by_cases e : j = k
  · subst e
    rw [List.getElem?_set_self hj] at hk
    cases hk
    obtain ⟨⟨t', m', q'⟩, hx⟩ := some_at hj
    obtain ⟨-, -, h2⟩ := h j _ _ _ hx
    obtain ⟨hs, -⟩ := Array.getElem?_eq_some_iff.1 h2
    refine ⟨?_, ?_, ?_⟩
    · rw [Array.getElem?_setIfInBounds_ne (by omega), Array.getElem?_setIfInBounds_ne (by omega), Array.getElem?_setIfInBounds_self_of_lt (by omega)]
    · rw [Array.getElem?_setIfInBounds_ne (by omega), Array.getElem?_setIfInBounds_self_of_lt (by simp; omega)]
    · rw [Array.getElem?_setIfInBounds_self_of_lt (by simp; omega)]
  · rw [List.getElem?_set_ne e] at hk
    obtain ⟨h0, h1, h2⟩ := h k t m q hk
    refine ⟨?_, ?_, ?_⟩
    · rw [Array.getElem?_setIfInBounds_ne (by omega), Array.getElem?_setIfInBounds_ne (by omega), Array.getElem?_setIfInBounds_ne (by omega), h0]
    · rw [Array.getElem?_setIfInBounds_ne (by omega), Array.getElem?_setIfInBounds_ne (by omega), Array.getElem?_setIfInBounds_ne (by omega), h1]
    · rw [Array.getElem?_setIfInBounds_ne (by omega), Array.getElem?_setIfInBounds_ne (by omega), Array.getElem?_setIfInBounds_ne (by omega), h2]
theorem CurOk.rd {L : List Bel} {cur : Array Value} (h : CurOk L cur) {w : World} {g : Nat} {t : TypeId} (hb : Blk w g t cur) {S : Nat → Prop} (hS : S g) : Rd w S (some ⟨g, 0, none⟩) 3 Bel.cells L := by
  intro _
  refine ⟨g, 0, rfl, hS, ?_⟩
  rintro k j ⟨tt, m, q⟩ u hk hu
  obtain ⟨h0, h1, h2⟩ := h k _ _ _ hk
  rw [Nat.zero_add, hb.cell]
  match j, hu with
  | 0, hu => cases hu; exact h0
  | 1, hu => cases hu; exact h1
  | 2, hu => cases hu; exact h2
  | j + 3, hu => cases hu
theorem of_own_row {w : World} {base : Nat} {e : TypeId} {n : Nat} {v : Value} {L : List Bel} (h : w.ownsRow base e 3 v n (L.flatMap Bel.cells)) (hn : 0 < n) :
    ∃ g cap cur, v = .slice (some ⟨g, 0, none⟩) n cap ∧ base ≤ g ∧ Blk w g e cur ∧ CurOk L cur := by
  obtain ⟨hl, h | ⟨g, cap, cur, rfl, h1, h2, h3, h4, h5, h6⟩⟩ := h
  · omega
  · refine ⟨g, cap, cur, rfl, h1, h2, fun k t m q hk => ?_⟩
    have hf : ∀ j u, (Bel.cells ⟨t, m, q⟩)[j]? = some u → cur[k * 3 + j]? = some u := by
      intro j u hj
      have := flat_at (size := 3) (f := Bel.cells) (fun _ => rfl) L k j _ u hk hj
      rw [← h6, List.getElem?_take] at this
      split at this
      · simpa using this
      · cases this
    exact ⟨hf 0 _ rfl, hf 1 _ rfl, hf 2 _ rfl⟩
theorem rep_range {d p s t : Int} {b : Bool} {k : Int} (h : reportE d p s t b k = 0) : 0 ≤ d ∧ d < k := by
  unfold reportE at h
  split at h
  · cases h
  · rename_i h2
    simp at h2
    omega
set_option maxHeartbeats 4000000 in
theorem all_good (A B : Option Addr) (c d : Nat) (L : List Bel) (R : List Rep) (w : World) (S : Nat → Prop) (hS : ∀ b, S b → b < w.heap.size) (h : Rd w S A 3 Bel.cells L) (hA : A = none → c = 0)
    (hR : Rd w S B 5 Rep.cells R) (hc0 : checkE L = 0) (hm : R.length < 4611686018427387904) (hpos : 0 < L.length) :
    Calls Try.prog 22 #[.slice A L.length c, .slice B R.length d] w fun e w' => ∃ A' c', e = .returned (.tuple #[.slice A' L.length c', .int .i64 (allA L R).2]) ∧
      Rd w' (fun b => w.heap.size ≤ b ∧ b < w'.heap.size) A' 3 Bel.cells (allA L R).1 ∧ Below w.heap.size w w' := by
  have hl : L.length ≤ 64 := by
    unfold checkE at hc0
    split at hc0 <;> omega
  have hce := fun W hS' hR => check_any A c L W S hS' hR
  rw [hc0] at hce
  have HCE := hide hce
  clear hc0 hce
  go_enter Try.func22, Try.ntmps22
  go_wp2_with fail
  refine (HCE.out _ hS h).mono ?_
  rintro e w1 ⟨rfl, hb1⟩
  have z1 := hb1.size
  go_wp2_with fail
  refine (clone_any A c L w1 S (h.below hb1 hS) hA hl (fun b hb => Nat.lt_of_lt_of_le (hS b hb) z1)).mono ?_
  rintro e w2 ⟨v, rfl, hown, hb2⟩
  obtain ⟨g, cap, cur, rfl, hg1, K2, hcur⟩ := of_own_row hown hpos
  have z2 := hb2.size
  have b2 := hb1.trans (hb2.mono z1)
  have HR := hide hR
  clear hown h hR hb1 hb2 HCE
  go_wp2_with fail
  go_loopw [7, 19] (fun n i wr => ∃ (k N : Nat) (Lc : List Bel) (cur : Array Value), n = .int .i64 N ∧ i = .int .i64 k ∧ N ≤ k ∧ k ≤ R.length ∧ Hid ((R.take k).foldl (stepA L.length) (L, 0) = (Lc, (N : Int))) ∧
     Blk wr g 30 cur ∧ Hid (CurOk Lc cur) ∧ Below w.heap.size w wr ∧ w2.heap.size ≤ wr.heap.size) (fun _ i _ => R.length - (intOf i).toNat)
  case atStart => exact ⟨0, 0, L, cur, rfl, rfl, Nat.le_refl _, Nat.zero_le _, hide rfl, K2, hide hcur, b2, Nat.le_refl _⟩
  case round =>
    obtain ⟨k, N, Lc, cur, rfl, rfl, hN, hk, hf, K, hcu, hb, hsz⟩ := hrel
    clear hcur
    by_cases hlt : k < R.length
    · have hlt' : (k : Int) < (R.length : Int) := by omega
      obtain ⟨⟨dd, p, s, t, bb⟩, hx⟩ := some_at hlt
      obtain ⟨b, o, rfl, hsb, hcc⟩ := (HR.out.below hb hS).at_ hx
      have c0 := hcc 0 _ rfl
      have c1 := hcc 1 _ rfl
      have c2 := hcc 2 _ rfl
      have c3 := hcc 3 _ rfl
      have c4 := hcc 4 _ rfl
      simp only [Nat.add_zero] at c0 c1 c2 c3 c4
      have HX := hide hx
      clear hx hcc
      go_wp2_with fail
      refine (report_any dd p s t bb L.length _).mono ?_
      rintro e w3 ⟨rfl, hb3⟩
      have kr := (Blk.new wr 33 #[.int .i64 dd, .int .i64 p, .int .i64 s, .int .i64 t, .bool bb]).below hb3 (by simp)
      have K3 := (K.alloc (.cells #[.int .i64 dd, .int .i64 p, .int .i64 s, .int .i64 t, .bool bb] 33)).below hb3 (by simp; have := K.lt; omega)
      have hz3 : wr.heap.size < w3.heap.size := by have := hb3.size; simp at this; omega
      have bb3 := (hb.alloc (by have := hb.size; omega) (.cells #[.int .i64 dd, .int .i64 p, .int .i64 s, .int .i64 t, .bool bb] 33)).trans (hb3.mono (by simp; have := hb.size; omega))
      obtain ⟨p0, p1, p2, p3, p4⟩ := kr.c5
      clear c0 c1 c2 c3 c4 hb3
      by_cases hz : reportE dd p s t bb L.length = 0
      · have hz' : (reportE dd p s t bb L.length != 0) = false := by simp [hz]
        obtain ⟨d0, d1⟩ := rep_range hz
        obtain ⟨j, rfl⟩ := Int.eq_ofNat_of_zero_le d0
        have hLc : Lc.length = L.length := by
          have e := foldA_len L.length (R.take k) (L, 0)
          rw [hf.out] at e
          exact e
        obtain ⟨⟨ct, cm, cn⟩, hcj⟩ := some_at (L := Lc) (k := j) (by omega)
        obtain ⟨q0, q1, q2⟩ := hcu.out j ct cm cn hcj
        have m0 := (K3.cell (j * 3)).trans q0
        have m1 := (K3.cell (j * 3 + 1)).trans q1
        have m2 := (K3.cell (j * 3 + 2)).trans q2
        have f0 := K3.frozen (j * 3)
        have f1 := K3.frozen (j * 3 + 1)
        have f2 := K3.frozen (j * 3 + 2)
        have HJ := hide hcj
        have Q0 := hide q0; have Q1 := hide q1; have Q2 := hide q2
        clear q0 q1 q2 hcj
        go_wp2_with fail
        go_region_with (go_at_call 14; refine (merge_any ⟨ct, cm, cn⟩ ⟨j, p, s, t, bb⟩ _).mono ?_; rintro e w4 ⟨rfl, hb4⟩; have K4 := (Blk.drew K3).below hb4 (by simp; have := K3.lt; omega); have kr4 := (Blk.drew kr).below hb4 (by simp; omega); obtain ⟨p0, p1, p2, p3, p4⟩ := kr4.c5; have m0 := (K4.cell (j * 3)).trans Q0.out; have m1 := (K4.cell (j * 3 + 1)).trans Q1.out; have m2 := (K4.cell (j * 3 + 2)).trans Q2.out; have f0 := K4.frozen (j * 3); have f1 := K4.frozen (j * 3 + 1); have f2 := K4.frozen (j * 3 + 2))
        all_goals go_wp2_with fail
        all_goals
          have hset := hcu.out.set (j := j) (by omega) (merge ⟨ct, cm, cn⟩ ⟨j, p, s, t, bb⟩)
          have hz4 := hb4.size
          simp at hz4
          have bb4 := (Below.drew bb3).trans (hb4.mono (by have := bb3.size; simp; omega))
          refine ⟨⟨k + 1, N, _, _, by go_num, by go_num, by omega, by omega, hide ?_, ((K4.set_ (j * 3) _).set_ (j * 3 + 1) _).set_ (j * 3 + 2) _, hide hset, ((bb4.setCell (by simp; omega) _).setCell (by simp; omega) _).setCell (by simp; omega) _, by simp; omega⟩, by simp [intOf]; omega⟩
          rw [take_at HX.out, allA_snoc, hf.out, stepA, if_pos hz]
          simp [HJ.out]
      · have hz' : (reportE dd p s t bb L.length != 0) = true := by simp [hz]
        go_wp2_with fail
        go_roundw
        case rel =>
          refine ⟨k + 1, N + 1, Lc, cur, by go_num, by go_num, by omega, by omega, hide ?_, K3, hcu, bb3, by omega⟩
          rw [take_at HX.out, allA_snoc, hf.out, stepA, if_neg hz]
          simp
        case measure => simp [intOf]; omega
    · obtain rfl : k = R.length := by omega
      have hf := hf.out
      rw [List.take_length] at hf
      go_wp2_with fail
      go_ret2
      have e1 : (allA L R).2 = N := by unfold allA; rw [hf]
      have e2 : (allA L R).1 = Lc := by unfold allA; rw [hf]
      rw [e1, e2]
      exact ⟨_, _, rfl, hcu.out.rd K ⟨by have := hb.size; omega, K.lt⟩, hb⟩
end Go.Proofs.Ytmicckgfpodahaa
