/- belief.Normal and its reference: each returns what a plain function says; conditions: slices read as lists, marks are Go integers. -/
import Derived.Test.YtmicckgfpodahaaAnsA
import Derived.Test.YtmicckgfpodahaaLists
set_option linter.unusedVariables false
set_option linter.unusedSimpArgs false
namespace Go.Proofs.Ytmicckgfpodahaa
open Go Go.RowKit
def setN (M : List Bel) (k : Nat) (x : Int) : List Bel := M.set k ⟨(M[k]?.getD ⟨0, 0, 0⟩).t, (M[k]?.getD ⟨0, 0, 0⟩).m, x⟩
def normK (L : List Bel) (Z : List Int) : Nat → List Bel
  | 0 => L
  | k + 1 => setN (normK L Z k) k (Z[k]?.getD 0)
theorem normK_len (L : List Bel) (Z : List Int) : ∀ k, (normK L Z k).length = L.length
  | 0 => rfl
  | k + 1 => by rw [normK, setN, List.length_set, normK_len L Z k]
def okN (x : Int) : Bool := decide (0 ≤ x ∧ x ≤ 2)
def normE (L : List Bel) (Z : List Int) : Int := if checkE L = 0 then (if Z.length = L.length then (if Z.all okN = true then 0 else 10) else 9) else checkE L
def normL (L : List Bel) (Z : List Int) : List Bel := if normE L Z = 0 then normK L Z Z.length else []
def NormPost (L : List Bel) (Z : List Int) (w : World) (e : Ending) (w' : World) : Prop := ∃ v, e = .returned (.tuple #[v, .int .i64 (normE L Z)]) ∧ ResL w w' v (normL L Z) ∧ Below w.heap.size w w'
theorem CurOk.setN {L : List Bel} {cur : Array Value} (h : CurOk L cur) {j : Nat} (hj : j < L.length) (x : Int) : CurOk (setN L j x) (cur.setIfInBounds (j * 3 + 2) (.int .i64 x)) := by
  obtain ⟨⟨t', m', q'⟩, hx⟩ := some_at hj
  obtain ⟨a0, a1, a2⟩ := h j _ _ _ hx
  obtain ⟨hs, -⟩ := Array.getElem?_eq_some_iff.1 a2
  intro k t m q hk
  rw [Go.Proofs.Ytmicckgfpodahaa.setN, hx] at hk
  by_cases e : j = k
  · subst e
    rw [List.getElem?_set_self hj] at hk
    cases hk
    refine ⟨?_, ?_, ?_⟩
    · rw [Array.getElem?_setIfInBounds_ne (by omega)]; exact a0
    · rw [Array.getElem?_setIfInBounds_ne (by omega)]; exact a1
    · rw [Array.getElem?_setIfInBounds_self_of_lt (by omega)]
  · rw [List.getElem?_set_ne e] at hk
    obtain ⟨h0, h1, h2⟩ := h k t m q hk
    refine ⟨?_, ?_, ?_⟩
    · rw [Array.getElem?_setIfInBounds_ne (by omega), h0]
    · rw [Array.getElem?_setIfInBounds_ne (by omega), h1]
    · rw [Array.getElem?_setIfInBounds_ne (by omega), h2]
theorem all_take {Z : List Int} {k : Nat} {x : Int} (h : ∀ y ∈ Z.take k, okN y = true) (hx : Z[k]? = some x) (hk : okN x = true) : ∀ y ∈ Z.take (k + 1), okN y = true := by
  intro y hy
  rw [take_at hx] at hy
  rcases List.mem_append.1 hy with h1 | h1
  · exact h y h1
  · rw [List.mem_singleton.1 h1]; exact hk
theorem all_not {Z : List Int} {k : Nat} {x : Int} (hx : Z[k]? = some x) (hk : okN x = false) : ¬ (Z.all okN = true) := by
  intro h
  have := List.all_eq_true.1 h x (List.mem_of_getElem? hx)
  rw [hk] at this
  cases this
set_option maxHeartbeats 2000000 in
theorem normal_bad (A B : Option Addr) (c d m : Nat) (L : List Bel) (w : World) (S : Nat → Prop) (hS : ∀ b, S b → b < w.heap.size) (h : Rd w S A 3 Bel.cells L) (E : Int) (hE : checkE L = E) (h0 : (E != 0) = true) :
    Calls Try.prog 31 #[.slice A L.length c, .slice B m d] w fun e w' => e = .returned (.tuple #[.slice none 0 0, .int .i64 E]) ∧ Below w.heap.size w w' := by
  have hce := fun W hS' hR => check_any A c L W S hS' hR
  rw [hE] at hce
  have HCE := hide hce
  clear hce hE
  go_enter Try.func31, Try.ntmps31
  go_wp2_with fail
  refine (HCE.out _ hS h).mono ?_
  rintro e w1 ⟨rfl, hb1⟩
  go_wp2_with fail
  go_ret2
  exact ⟨rfl, hb1⟩
set_option maxHeartbeats 2000000 in
theorem normal_len (A B : Option Addr) (c d m : Nat) (L : List Bel) (w : World) (S : Nat → Prop) (hS : ∀ b, S b → b < w.heap.size) (h : Rd w S A 3 Bel.cells L) (hE : checkE L = 0) (hm : ((m : Int) != (L.length : Int)) = true) :
    Calls Try.prog 31 #[.slice A L.length c, .slice B m d] w fun e w' => e = .returned (.tuple #[.slice none 0 0, .int .i64 9]) ∧ Below w.heap.size w w' := by
  have hce := fun W hS' hR => check_any A c L W S hS' hR
  rw [hE] at hce
  have HCE := hide hce
  clear hce hE
  go_enter Try.func31, Try.ntmps31
  go_wp2_with fail
  refine (HCE.out _ hS h).mono ?_
  rintro e w1 ⟨rfl, hb1⟩
  go_wp2_with fail
  go_ret2
  exact ⟨rfl, hb1⟩
set_option maxHeartbeats 2000000 in
theorem rnormal_bad (A B : Option Addr) (c d m : Nat) (L : List Bel) (w : World) (S : Nat → Prop) (hS : ∀ b, S b → b < w.heap.size) (h : Rd w S A 3 Bel.cells L) (E : Int) (hE : rcheckE L = E) (h0 : (E != 0) = true) :
    Calls Try.prog 32 #[.slice A L.length c, .slice B m d] w fun e w' => e = .returned (.tuple #[.slice none 0 0, .int .i64 E]) ∧ Below w.heap.size w w' := by
  have hce := fun W hS' hR => rcheck_any A c L W S hS' hR
  rw [hE] at hce
  have HCE := hide hce
  clear hce hE
  go_enter Try.func32, Try.ntmps32
  go_wp2_with fail
  refine (HCE.out _ hS h).mono ?_
  rintro e w1 ⟨rfl, hb1⟩
  go_wp2_with fail
  go_ret2
  exact ⟨rfl, hb1⟩
set_option maxHeartbeats 2000000 in
theorem rnormal_len (A B : Option Addr) (c d m : Nat) (L : List Bel) (w : World) (S : Nat → Prop) (hS : ∀ b, S b → b < w.heap.size) (h : Rd w S A 3 Bel.cells L) (hE : rcheckE L = 0) (hm : ((m : Int) != (L.length : Int)) = true) :
    Calls Try.prog 32 #[.slice A L.length c, .slice B m d] w fun e w' => e = .returned (.tuple #[.slice none 0 0, .int .i64 9]) ∧ Below w.heap.size w w' := by
  have hce := fun W hS' hR => rcheck_any A c L W S hS' hR
  rw [hE] at hce
  have HCE := hide hce
  clear hce hE
  go_enter Try.func32, Try.ntmps32
  go_wp2_with fail
  refine (HCE.out _ hS h).mono ?_
  rintro e w1 ⟨rfl, hb1⟩
  go_wp2_with fail
  go_ret2
  exact ⟨rfl, hb1⟩
set_option maxHeartbeats 4000000 in
theorem normal_good (A B : Option Addr) (c d : Nat) (L : List Bel) (Z : List Int) (w : World) (S : Nat → Prop) (hS : ∀ b, S b → b < w.heap.size) (h : Rd w S A 3 Bel.cells L) (hA : A = none → c = 0) (hZ : Rd w S B 1 (fun n => [.int .i64 n]) Z) (hE : checkE L = 0) (hm : Z.length = L.length) (hp : 0 < L.length) :
    Calls Try.prog 31 #[.slice A L.length c, .slice B Z.length d] w (NormPost L Z w) := by
  have hl : L.length ≤ 64 := ((checkE_iff L).1 hE).1
  have hce := fun W hS' hR => check_any A c L W S hS' hR
  rw [hE] at hce
  have HCE := hide hce
  have HE := hide hE
  have hm2 : ((Z.length : Int) != (L.length : Int)) = false := by simp [hm]
  have HM := hide hm
  have hlen : Z.length ≤ L.length := by omega
  clear hce hE hm
  go_enter Try.func31, Try.ntmps31
  go_wp2_with fail
  refine (HCE.out _ hS h).mono ?_
  rintro e w1 ⟨rfl, hb1⟩
  have z1 := hb1.size
  go_wp2_with fail
  refine (clone_any A c L w1 S (h.below hb1 hS) hA hl (fun b hb => Nat.lt_of_lt_of_le (hS b hb) z1)).mono ?_
  rintro e w2 ⟨v, rfl, hown, hb2⟩
  obtain ⟨g, cap, cur, rfl, hg1, K2, hcur⟩ := of_own_row hown hp
  have z2 := hb2.size
  have b2 := hb1.trans (hb2.mono z1)
  have hg1 : w.heap.size ≤ g := by omega
  have HZ := hide hZ
  clear hown h hZ hb1 hb2 HCE hm2
  go_wp2_with fail
  go_loopw [24] (fun i wr => ∃ (k : Nat) (cur : Array Value), i = .int .i64 k ∧ k ≤ Z.length ∧ Blk wr g 30 cur ∧ Hid (CurOk (normK L Z k) cur) ∧ Hid (∀ y ∈ Z.take k, okN y = true) ∧ Below w.heap.size w wr) (fun i _ => Z.length - (intOf i).toNat)
  case atStart => exact ⟨0, cur, rfl, Nat.zero_le _, K2, hide hcur, hide (by simp), b2⟩
  case round =>
    obtain ⟨k, cur, rfl, hk, K, hcu, hok, hb⟩ := hrel
    clear hcur K2 b2
    by_cases hlt : k < Z.length
    · have hlt' : (k : Int) < (Z.length : Int) := by omega
      have hlt2 : (k : Int) < (L.length : Int) := by omega
      obtain ⟨x, hx⟩ := some_at hlt
      obtain ⟨b, o, rfl, hsb, hcc⟩ := (HZ.out.below hb hS).at_ hx
      have c0 := hcc 0 _ rfl
      simp only [Nat.add_zero, Nat.mul_one] at c0
      have HX := hide hx
      clear hx hcc
      by_cases h1 : x < 0
      · go_wp2_with fail
        go_ret2
        have hno := all_not HX.out (show okN x = false by simp [okN]; omega)
        have e1 : normE L Z = 10 := by unfold normE; rw [if_pos HE.out, if_pos HM.out, if_neg hno]
        exact ⟨_, by rw [e1]; rfl, by unfold normL; rw [e1]; exact ResL.nil _ _, hb⟩
      · by_cases h2 : 2 < x
        · go_wp2_with fail
          go_ret2
          have hno := all_not HX.out (show okN x = false by simp [okN]; omega)
          have e1 : normE L Z = 10 := by unfold normE; rw [if_pos HE.out, if_pos HM.out, if_neg hno]
          exact ⟨_, by rw [e1]; rfl, by unfold normL; rw [e1]; exact ResL.nil _ _, hb⟩
        · have hkl : k < (normK L Z k).length := by rw [normK_len]; omega
          obtain ⟨⟨ct, cm, cn⟩, hcj⟩ := some_at hkl
          obtain ⟨-, -, q2⟩ := hcu.out k ct cm cn hcj
          have m2 := (K.cell (k * 3 + 2)).trans q2
          have f2 := K.frozen (k * 3 + 2)
          clear q2 hcj
          go_wp2_with fail
          go_roundw
          case rel =>
            refine ⟨k + 1, _, by go_num, by omega, K.set_ (k * 3 + 2) _, hide ?_, hide (all_take hok.out HX.out (by simp [okN]; omega)), hb.setCell (by simp; omega) _⟩
            have := hcu.out.setN (j := k) (by rw [normK_len]; omega) x
            rw [normK, HX.out]
            exact this
          case measure => simp [intOf]; omega
    · obtain rfl : k = Z.length := by omega
      go_wp2_with fail
      go_ret2
      have hall : Z.all okN = true := by
        rw [List.all_eq_true]
        have := hok.out
        rw [List.take_length] at this
        exact this
      have e1 : normE L Z = 0 := by unfold normE; rw [if_pos HE.out, if_pos HM.out, if_pos hall]
      refine ⟨.slice (some ⟨g, 0, none⟩) L.length cap, by rw [e1]; rfl, ?_, hb⟩
      unfold normL
      rw [if_pos e1]
      exact ⟨some ⟨g, 0, none⟩, cap, by rw [normK_len], hcu.out.rd K ⟨hg1, K.lt⟩⟩
set_option maxHeartbeats 4000000 in
theorem rnormal_good (A B : Option Addr) (c d : Nat) (L : List Bel) (Z : List Int) (w : World) (S : Nat → Prop) (hS : ∀ b, S b → b < w.heap.size) (h : Rd w S A 3 Bel.cells L) (hZ : Rd w S B 1 (fun n => [.int .i64 n]) Z) (hr : rcheckE L = 0) (hE : checkE L = 0) (hm : Z.length = L.length) (hp : 0 < L.length) :
    Calls Try.prog 32 #[.slice A L.length c, .slice B Z.length d] w (NormPost L Z w) := by
  have hl : L.length ≤ 64 := ((checkE_iff L).1 hE).1
  obtain ⟨i0, hi, hz0, hz1, hz2⟩ := info_parts infoBel
  have hce := fun W hS' hR => rcheck_any A c L W S hS' hR
  rw [hr] at hce
  have HCE := hide hce
  have HE := hide hE
  have hm2 : ((Z.length : Int) != (L.length : Int)) = false := by simp [hm]
  have HM := hide hm
  have hlen : Z.length ≤ L.length := by omega
  clear hce hE hm hr
  go_enter Try.func32, Try.ntmps32
  go_wp2_with fail
  refine (HCE.out _ hS h).mono ?_
  rintro e w1 ⟨rfl, hb1⟩
  have z1 := hb1.size
  have R1 := h.below hb1 hS
  go_wp2_with (at_builtin; refine wpList_append_any _ rfl (.const (.slice none 0 0)) (.tmp 19) 37 rfl w1.heap.size 30 i0 _ 3 24 Try.underlying37 hi hz0 hz1 hz2 rfl (by omega) (.slice none 0 0) 0 [] rfl (World.ownsRow_nil _ _ _ _) A L.length c (L.flatMap Bel.cells) rfl (flat_len bel_len L) (fun h0 => R1.flat (by omega) bel_len h0) (flat_one bel_one L) (by simp only [maxLen]; omega) (by omega) (by simp) ?_; intro v3 w2 hown3 hg3 hat3; simp only [Nat.zero_add, List.nil_append] at hown3)
  obtain ⟨g, cap, cur, rfl, hg1, K2, hcur⟩ := of_own_row hown3 hp
  have b2 := hb1.grown hg3 z1 (fun k hk => by cases hk)
  have hg1 : w.heap.size ≤ g := by omega
  have HZ := hide hZ
  clear hown3 h hZ hb1 hg3 hat3 HCE hm2 R1
  go_wp2_with fail
  go_loopw [8] (fun i wr => ∃ (k : Nat) (cur : Array Value), i = .int .i64 k ∧ k ≤ Z.length ∧ Blk wr g 30 cur ∧ Hid (CurOk (normK L Z k) cur) ∧ Hid (∀ y ∈ Z.take k, okN y = true) ∧ Below w.heap.size w wr) (fun i _ => Z.length - (intOf i).toNat)
  case atStart => exact ⟨0, cur, rfl, Nat.zero_le _, K2, hide hcur, hide (by simp), b2⟩
  case round =>
    obtain ⟨k, cur, rfl, hk, K, hcu, hok, hb⟩ := hrel
    clear hcur K2 b2
    have hln : Z.length = L.length := HM.out
    by_cases hlt : k < Z.length
    · have hlt' : (k : Int) < (Z.length : Int) := by omega
      have hlt2 : (k : Int) < (L.length : Int) := by omega
      obtain ⟨x, hx⟩ := some_at hlt
      obtain ⟨b, o, rfl, hsb, hcc⟩ := (HZ.out.below hb hS).at_ hx
      have c0 := hcc 0 _ rfl
      simp only [Nat.add_zero, Nat.mul_one] at c0
      have HX := hide hx
      clear hx hcc
      by_cases h1 : x < 0
      · go_wp2_with fail
        go_ret2
        have hno := all_not HX.out (show okN x = false by simp [okN]; omega)
        have e1 : normE L Z = 10 := by unfold normE; rw [if_pos HE.out, if_pos HM.out, if_neg hno]
        exact ⟨_, by rw [e1]; rfl, by unfold normL; rw [e1]; exact ResL.nil _ _, hb⟩
      · by_cases h2 : 2 < x
        · go_wp2_with fail
          go_ret2
          have hno := all_not HX.out (show okN x = false by simp [okN]; omega)
          have e1 : normE L Z = 10 := by unfold normE; rw [if_pos HE.out, if_pos HM.out, if_neg hno]
          exact ⟨_, by rw [e1]; rfl, by unfold normL; rw [e1]; exact ResL.nil _ _, hb⟩
        · have hkl : k < (normK L Z k).length := by rw [normK_len]; omega
          obtain ⟨⟨ct, cm, cn⟩, hcj⟩ := some_at hkl
          obtain ⟨-, -, q2⟩ := hcu.out k ct cm cn hcj
          have m2 := (K.cell (k * 3 + 2)).trans q2
          have f2 := K.frozen (k * 3 + 2)
          clear q2 hcj
          go_wp2_with fail
          go_roundw
          case rel =>
            refine ⟨k + 1, _, by go_num, by omega, K.set_ (k * 3 + 2) _, hide ?_, hide (all_take hok.out HX.out (by simp [okN]; omega)), hb.setCell (by simp; omega) _⟩
            have := hcu.out.setN (j := k) (by rw [normK_len]; omega) x
            rw [normK, HX.out]
            exact this
          case measure => simp [intOf]; omega
    · obtain rfl : k = Z.length := by omega
      go_wp2_with fail
      go_ret2
      have hall : Z.all okN = true := by
        rw [List.all_eq_true]
        have := hok.out
        rw [List.take_length] at this
        exact this
      have e1 : normE L Z = 0 := by unfold normE; rw [if_pos HE.out, if_pos HM.out, if_pos hall]
      refine ⟨.slice (some ⟨g, 0, none⟩) L.length cap, by rw [e1]; rfl, ?_, hb⟩
      unfold normL
      rw [if_pos e1]
      exact ⟨some ⟨g, 0, none⟩, cap, by rw [normK_len], hcu.out.rd K ⟨hg1, K.lt⟩⟩
set_option maxHeartbeats 2000000 in
theorem normal_none (A B : Option Addr) (c d : Nat) (w : World) (S : Nat → Prop) (hS : ∀ b, S b → b < w.heap.size) (hA : A = none → c = 0) :
    Calls Try.prog 31 #[.slice A 0 c, .slice B 0 d] w fun e w' => ∃ A' c', e = .returned (.tuple #[.slice A' 0 c', .int .i64 0]) ∧ Below w.heap.size w w' := by
  have hce := fun W hS' hR => check_any A c ([] : List Bel) W S hS' hR
  rw [show checkE [] = 0 from rfl] at hce
  have HCE := hide hce
  have hcl := fun W hS' => clone_any A c ([] : List Bel) W S (Rd.nil _ _ _ _ _) hA (by simp) hS'
  have HCL := hide hcl
  clear hce hcl
  simp only [List.length_nil] at HCE HCL
  go_enter Try.func31, Try.ntmps31
  go_wp2_with fail
  refine (HCE.out _ hS (Rd.nil _ _ _ _ _)).mono ?_
  rintro e w1 ⟨rfl, hb1⟩
  have z1 := hb1.size
  go_wp2_with fail
  refine (HCL.out w1 (fun b hb => Nat.lt_of_lt_of_le (hS b hb) z1)).mono ?_
  rintro e w2 ⟨v, rfl, hown, hb2⟩
  obtain ⟨g, cap, rfl, -⟩ := own_shape hown
  have b2 := hb1.trans (hb2.mono z1)
  clear hown hb1 hb2 HCE HCL
  go_wp2_with fail
  go_loopw [24] (fun i wr => i = .int .i64 0 ∧ Below w.heap.size w wr) (fun _ _ => 0)
  case atStart => exact ⟨rfl, b2⟩
  case round =>
    obtain ⟨rfl, hb⟩ := hrel
    go_wp2_with fail
    go_ret2
    exact ⟨_, _, rfl, hb⟩
set_option maxHeartbeats 2000000 in
theorem rnormal_none (A B : Option Addr) (c d : Nat) (w : World) (S : Nat → Prop) (hS : ∀ b, S b → b < w.heap.size) :
    Calls Try.prog 32 #[.slice A 0 c, .slice B 0 d] w fun e w' => ∃ A' c', e = .returned (.tuple #[.slice A' 0 c', .int .i64 0]) ∧ Below w.heap.size w w' := by
  obtain ⟨i0, hi, hz0, hz1, hz2⟩ := info_parts infoBel
  have hce := fun W hS' hR => rcheck_any A c ([] : List Bel) W S hS' hR
  rw [show rcheckE [] = 0 from rfl] at hce
  have HCE := hide hce
  clear hce
  simp only [List.length_nil] at HCE
  go_enter Try.func32, Try.ntmps32
  go_wp2_with fail
  refine (HCE.out _ hS (Rd.nil _ _ _ _ _)).mono ?_
  rintro e w1 ⟨rfl, hb1⟩
  have z1 := hb1.size
  go_wp2_with (at_builtin; refine wpList_append_any _ rfl (.const (.slice none 0 0)) (.tmp 19) 37 rfl w1.heap.size 30 i0 _ 3 24 Try.underlying37 hi hz0 hz1 hz2 rfl (by omega) (.slice none 0 0) 0 [] rfl (World.ownsRow_nil _ _ _ _) A 0 c [] rfl rfl (fun h0 => absurd h0 (by omega)) (by simp) (by simp only [maxLen]; omega) (by omega) (by simp) ?_; intro v3 w2 hown3 hg3 hat3; simp only [Nat.zero_add, List.nil_append] at hown3)
  obtain ⟨g, cap, rfl, -⟩ := own_shape hown3
  have b2 := hb1.grown hg3 z1 (fun k hk => by cases hk)
  clear hown3 hb1 hg3 hat3 HCE
  go_wp2_with fail
  go_loopw [8] (fun i wr => i = .int .i64 0 ∧ Below w.heap.size w wr) (fun _ _ => 0)
  case atStart => exact ⟨rfl, b2⟩
  case round =>
    obtain ⟨rfl, hb⟩ := hrel
    go_wp2_with fail
    go_ret2
    exact ⟨_, _, rfl, hb⟩
theorem normal_any (A B : Option Addr) (c d : Nat) (L : List Bel) (Z : List Int) (w : World) (S : Nat → Prop) (hS : ∀ b, S b → b < w.heap.size) (h : Rd w S A 3 Bel.cells L) (hA : A = none → c = 0) (hZ : Rd w S B 1 (fun n => [.int .i64 n]) Z) :
    Calls Try.prog 31 #[.slice A L.length c, .slice B Z.length d] w (NormPost L Z w) := by
  by_cases hE : checkE L = 0
  · by_cases hm : Z.length = L.length
    · by_cases hp : 0 < L.length
      · exact normal_good A B c d L Z w S hS h hA hZ hE hm hp
      · have hL : L = [] := List.eq_nil_of_length_eq_zero (by omega)
        have hz : Z = [] := List.eq_nil_of_length_eq_zero (by omega)
        subst hL; subst hz
        exact (normal_none A B c d w S hS hA).mono fun e w' ⟨A', c', he, hb⟩ => ⟨_, he, ⟨A', c', rfl, Rd.nil _ _ _ _ _⟩, hb⟩
    · have e1 : normE L Z = 9 := by unfold normE; rw [if_pos hE, if_neg hm]
      exact (normal_len A B c d _ L w S hS h hE (by simp; omega)).mono fun e w' ⟨he, hb⟩ => ⟨_, by rw [e1]; exact he, by unfold normL; rw [e1]; exact ResL.nil _ _, hb⟩
  · have e1 : normE L Z = checkE L := by unfold normE; rw [if_neg hE]
    exact (normal_bad A B c d _ L w S hS h _ rfl (by simpa using hE)).mono fun e w' ⟨he, hb⟩ => ⟨_, by rw [e1]; exact he, by unfold normL; rw [e1, if_neg hE]; exact ResL.nil _ _, hb⟩
theorem rnormal_any (A B : Option Addr) (c d : Nat) (L : List Bel) (Z : List Int) (w : World) (S : Nat → Prop) (hS : ∀ b, S b → b < w.heap.size) (h : Rd w S A 3 Bel.cells L) (hI : ∀ b ∈ L, I64 b.m) (hZ : Rd w S B 1 (fun n => [.int .i64 n]) Z) :
    Calls Try.prog 32 #[.slice A L.length c, .slice B Z.length d] w (NormPost L Z w) := by
  have hr := rcheck_eq L hI
  by_cases hE : checkE L = 0
  · by_cases hm : Z.length = L.length
    · by_cases hp : 0 < L.length
      · exact rnormal_good A B c d L Z w S hS h hZ (hr.trans hE) hE hm hp
      · have hL : L = [] := List.eq_nil_of_length_eq_zero (by omega)
        have hz : Z = [] := List.eq_nil_of_length_eq_zero (by omega)
        subst hL; subst hz
        exact (rnormal_none A B c d w S hS).mono fun e w' ⟨A', c', he, hb⟩ => ⟨_, he, ⟨A', c', rfl, Rd.nil _ _ _ _ _⟩, hb⟩
    · have e1 : normE L Z = 9 := by unfold normE; rw [if_pos hE, if_neg hm]
      exact (rnormal_len A B c d _ L w S hS h (hr.trans hE) (by simp; omega)).mono fun e w' ⟨he, hb⟩ => ⟨_, by rw [e1]; exact he, by unfold normL; rw [e1]; exact ResL.nil _ _, hb⟩
  · have e1 : normE L Z = checkE L := by unfold normE; rw [if_neg hE]
    exact (rnormal_bad A B c d _ L w S hS h _ hr (by simpa using hE)).mono fun e w' ⟨he, hb⟩ => ⟨_, by rw [e1]; exact he, by unfold normL; rw [e1, if_neg hE]; exact ResL.nil _ _, hb⟩
end Go.Proofs.Ytmicckgfpodahaa
