/- permitofficeref08.Apply: it returns what belief.Apply returns; conditions: slices read as lists, marks are Go integers. -/
import Derived.Test.YtmicckgfpodahaaAnsA
import Derived.Test.YtmicckgfpodahaaLists
set_option linter.unusedVariables false
set_option linter.unusedSimpArgs false
namespace Go.Proofs.Ytmicckgfpodahaa
open Go Go.RowKit
set_option maxHeartbeats 2000000 in
theorem rapply_bad (A : Option Addr) (c : Nat) (L : List Bel) (d p s t : Int) (bb : Bool) (w : World) (S : Nat → Prop) (hS : ∀ b, S b → b < w.heap.size) (h : Rd w S A 3 Bel.cells L) (E : Int) (hE : rcheckE L = E) (h0 : (E != 0) = true) :
    Calls Try.prog 30 #[.slice A L.length c, .agg #[.int .i64 d, .int .i64 p, .int .i64 s, .int .i64 t, .bool bb]] w fun e w' => e = .returned (.tuple #[.slice none 0 0, .int .i64 E]) ∧ Below w.heap.size w w' := by
  have hce := fun W hS' hR => rcheck_any A c L W S hS' hR
  rw [hE] at hce
  have HCE := hide hce
  clear hce hE
  go_enter Try.func30, Try.ntmps30
  go_wp2_with fail
  refine (HCE.out _ (fun b hb => by simp; have := hS b hb; omega) (h.box hS _)).mono ?_
  rintro e w1 ⟨rfl, hb1⟩
  go_wp2_with fail
  go_ret2
  exact ⟨rfl, ((Below.refl _ _).alloc (Nat.le_refl _) _).trans (hb1.mono (by simp))⟩
set_option maxHeartbeats 2000000 in
theorem rapply_dev (A : Option Addr) (c : Nat) (L : List Bel) (d p s t : Int) (bb : Bool) (w : World) (S : Nat → Prop) (hS : ∀ b, S b → b < w.heap.size) (h : Rd w S A 3 Bel.cells L) (hE : rcheckE L = 0) (hd : ¬ (0 ≤ d ∧ d < (L.length : Int))) :
    Calls Try.prog 30 #[.slice A L.length c, .agg #[.int .i64 d, .int .i64 p, .int .i64 s, .int .i64 t, .bool bb]] w fun e w' => e = .returned (.tuple #[.slice none 0 0, .int .i64 8]) ∧ Below w.heap.size w w' := by
  have hce := fun W hS' hR => rcheck_any A c L W S hS' hR
  rw [hE] at hce
  have HCE := hide hce
  clear hce hE
  go_enter Try.func30, Try.ntmps30
  go_wp2_with fail
  refine (HCE.out _ (fun b hb => by simp; have := hS b hb; omega) (h.box hS _)).mono ?_
  rintro e w1 ⟨rfl, hb1⟩
  have kr1 := (Blk.new w 33 #[.int .i64 d, .int .i64 p, .int .i64 s, .int .i64 t, .bool bb]).below hb1 (by simp)
  obtain ⟨p0, p1, p2, p3, p4⟩ := kr1.c5
  have b1 := ((Below.refl w.heap.size w).alloc (Nat.le_refl _) (.cells #[.int .i64 d, .int .i64 p, .int .i64 s, .int .i64 t, .bool bb] 33)).trans (hb1.mono (by simp))
  clear hb1
  by_cases hd0 : d < 0
  · go_wp2_with fail
    go_ret2
    exact ⟨rfl, b1⟩
  · have hd1 : (L.length : Int) ≤ d := by omega
    go_wp2_with fail
    go_ret2
    exact ⟨rfl, b1⟩
set_option maxHeartbeats 2000000 in
theorem rapply_fault (A : Option Addr) (c : Nat) (L : List Bel) (d p s t : Int) (bb : Bool) (w : World) (S : Nat → Prop) (hS : ∀ b, S b → b < w.heap.size) (h : Rd w S A 3 Bel.cells L) (hE : rcheckE L = 0) (hd0 : ¬ d < 0) (hd1 : ¬ (L.length : Int) ≤ d) (E : Int) (hF : rfaultE p s t bb = E) (h0 : (E != 0) = true) :
    Calls Try.prog 30 #[.slice A L.length c, .agg #[.int .i64 d, .int .i64 p, .int .i64 s, .int .i64 t, .bool bb]] w fun e w' => e = .returned (.tuple #[.slice none 0 0, .int .i64 E]) ∧ Below w.heap.size w w' := by
  have hra := fun W => rfault_any d p s t bb W
  rw [hF] at hra
  have HRA := hide hra
  clear hra hF
  have hce := fun W hS' hR => rcheck_any A c L W S hS' hR
  rw [hE] at hce
  have HCE := hide hce
  clear hce hE
  go_enter Try.func30, Try.ntmps30
  go_wp2_with fail
  refine (HCE.out _ (fun b hb => by simp; have := hS b hb; omega) (h.box hS _)).mono ?_
  rintro e w1 ⟨rfl, hb1⟩
  have kr1 := (Blk.new w 33 #[.int .i64 d, .int .i64 p, .int .i64 s, .int .i64 t, .bool bb]).below hb1 (by simp)
  obtain ⟨p0, p1, p2, p3, p4⟩ := kr1.c5
  have b1 := ((Below.refl w.heap.size w).alloc (Nat.le_refl _) (.cells #[.int .i64 d, .int .i64 p, .int .i64 s, .int .i64 t, .bool bb] 33)).trans (hb1.mono (by simp))
  clear hb1
  go_wp2_with fail
  refine (HRA.out _).mono ?_
  rintro e w2 ⟨rfl, hb2⟩
  go_wp2_with fail
  go_ret2
  exact ⟨rfl, b1.trans (hb2.mono b1.size)⟩
set_option maxHeartbeats 4000000 in
theorem rapply_good (A : Option Addr) (c : Nat) (L : List Bel) (j : Nat) (p s t : Int) (bb : Bool) (w : World) (S : Nat → Prop) (hS : ∀ b, S b → b < w.heap.size) (h : Rd w S A 3 Bel.cells L) (hE : rcheckE L = 0) (hG : GoodL L) (hR : rfaultE p s t bb = 0) (hj : j < L.length) :
    Calls Try.prog 30 #[.slice A L.length c, .agg #[.int .i64 j, .int .i64 p, .int .i64 s, .int .i64 t, .bool bb]] w fun e w' => ∃ v, e = .returned (.tuple #[v, .int .i64 0]) ∧ ResL w w' v (L.set j (merge (L[j]?.getD ⟨0, 0, 0⟩) ⟨j, p, s, t, bb⟩)) ∧ Below w.heap.size w w' := by
  have hl : L.length ≤ 64 := hG.2.1
  obtain ⟨i0, hi, hz0, hz1, hz2⟩ := info_parts infoBel
  have hra := fun W => rfault_any j p s t bb W
  rw [hR] at hra
  have HRA := hide hra
  have HG := hide hG
  clear hra hR hG
  have hd0 : ¬ (j : Int) < 0 := by omega
  have hd1 : ¬ (L.length : Int) ≤ (j : Int) := by omega
  have hce := fun W hS' hR => rcheck_any A c L W S hS' hR
  rw [hE] at hce
  have HCE := hide hce
  clear hce hE
  go_enter Try.func30, Try.ntmps30
  go_wp2_with fail
  refine (HCE.out _ (fun b hb => by simp; have := hS b hb; omega) (h.box hS _)).mono ?_
  rintro e w1 ⟨rfl, hb1⟩
  have kr1 := (Blk.new w 33 #[.int .i64 j, .int .i64 p, .int .i64 s, .int .i64 t, .bool bb]).below hb1 (by simp)
  obtain ⟨p0, p1, p2, p3, p4⟩ := kr1.c5
  have b1 := ((Below.refl w.heap.size w).alloc (Nat.le_refl _) (.cells #[.int .i64 j, .int .i64 p, .int .i64 s, .int .i64 t, .bool bb] 33)).trans (hb1.mono (by simp))
  clear hb1
  go_wp2_with fail
  refine (HRA.out _).mono ?_
  rintro e w2 ⟨rfl, hb2⟩
  have kr2 := kr1.below hb2 kr1.lt
  have b2 := b1.trans (hb2.mono b1.size)
  have z2 := b2.size
  clear p0 p1 p2 p3 p4 hb2
  have R2 := h.below b2 hS
  go_wp2_with (at_builtin; refine wpList_append_any _ rfl (.const (.slice none 0 0)) (.tmp 29) 37 rfl w2.heap.size 30 i0 _ 3 24 Try.underlying37 hi hz0 hz1 hz2 rfl (by omega) (.slice none 0 0) 0 [] rfl (World.ownsRow_nil _ _ _ _) A L.length c (L.flatMap Bel.cells) rfl (flat_len bel_len L) (fun h0 => R2.flat (by omega) bel_len h0) (flat_one bel_one L) (by simp only [maxLen]; omega) (by omega) (by simp) ?_; intro v3 w3 hown3 hg3 hat3; simp only [Nat.zero_add, List.nil_append] at hown3)
  obtain ⟨g, cap, cur, rfl, hg1, K3, hcur⟩ := of_own_row hown3 (by omega)
  have kr3 := kr2.grown hg3 (fun e => by cases e)
  have b3 := b2.grown hg3 z2 (fun k hk => by cases hk)
  have krl := kr2.lt
  have hz3 := hg3.size
  obtain ⟨p0, p1, p2, p3, p4⟩ := kr3.c5
  obtain ⟨⟨ct, cm, cn⟩, hcj⟩ := some_at hj
  have hI : I64 cm := HG.out.1 _ (List.mem_of_getElem? hcj)
  have HI := hide hI
  obtain ⟨q0, q1, q2⟩ := hcur j ct cm cn hcj
  have m0 := (K3.cell (j * 3)).trans q0
  have m1 := (K3.cell (j * 3 + 1)).trans q1
  have m2 := (K3.cell (j * 3 + 2)).trans q2
  have f0 := K3.frozen (j * 3)
  have f1 := K3.frozen (j * 3 + 1)
  have f2 := K3.frozen (j * 3 + 2)
  have HJ := hide hcj
  have HC := hide hcur
  have hj' : (j : Int) < (L.length : Int) := by omega
  have Q0 := hide q0; have Q1 := hide q1; have Q2 := hide q2
  clear q0 q1 q2 hcj hcur hown3 hg3 hat3 h R2 hI hd0 hd1
  go_wp2_with fail
  go_region_with (go_at_call 47; refine (rmerge_any ⟨ct, cm, cn⟩ ⟨j, p, s, t, bb⟩ _ HI.out).mono ?_; rintro e w4 ⟨rfl, hb4⟩; have K4 := (Blk.drew K3).below hb4 (by simp; have := K3.lt; omega); have kr4 := (Blk.drew kr3).below hb4 (by simp; omega); obtain ⟨p0, p1, p2, p3, p4⟩ := kr4.c5; have m0 := (K4.cell (j * 3)).trans Q0.out; have m1 := (K4.cell (j * 3 + 1)).trans Q1.out; have m2 := (K4.cell (j * 3 + 2)).trans Q2.out; have f0 := K4.frozen (j * 3); have f1 := K4.frozen (j * 3 + 1); have f2 := K4.frozen (j * 3 + 2))
  all_goals go_wp2_with fail
  all_goals go_ret2
  all_goals
    have hset := HC.out.set (j := j) hj (merge ⟨ct, cm, cn⟩ ⟨j, p, s, t, bb⟩)
    have hz4 := hb4.size
    simp at hz4
    have bb4 := (Below.drew b3).trans (hb4.mono (by have := b3.size; simp; omega))
    have KF := ((K4.set_ (j * 3) (.int .i64 (merge ⟨ct, cm, cn⟩ ⟨j, p, s, t, bb⟩).t)).set_ (j * 3 + 1) (.int .i64 (merge ⟨ct, cm, cn⟩ ⟨j, p, s, t, bb⟩).m)).set_ (j * 3 + 2) (.int .i64 (merge ⟨ct, cm, cn⟩ ⟨j, p, s, t, bb⟩).n)
    rw [HJ.out]
    exact ⟨.slice (some ⟨g, 0, none⟩) L.length cap, rfl, ⟨some ⟨g, 0, none⟩, cap, by rw [List.length_set], hset.rd KF ⟨by omega, KF.lt⟩⟩, ((bb4.setCell (by simp; omega) _).setCell (by simp; omega) _).setCell (by simp; omega) _⟩
theorem rapply_any (A : Option Addr) (c : Nat) (L : List Bel) (r : Rep) (w : World) (S : Nat → Prop) (hS : ∀ b, S b → b < w.heap.size) (h : Rd w S A 3 Bel.cells L) (hI : ∀ b ∈ L, I64 b.m) :
    Calls Try.prog 30 #[.slice A L.length c, .agg #[.int .i64 r.d, .int .i64 r.p, .int .i64 r.s, .int .i64 r.t, .bool r.b]] w (ApplyPost L r w) := by
  obtain ⟨d, p, s, t, bb⟩ := r
  unfold ApplyPost applyE applyL
  by_cases hE : checkE L = 0
  · rw [if_pos hE]
    have hE' : rcheckE L = 0 := (rcheck_eq L hI).trans hE
    by_cases hd : 0 ≤ d ∧ d < (L.length : Int)
    · have hq := fault_eq (p := p) (s := s) (t := t) (b := bb) hd.1 hd.2
      obtain ⟨j, rfl⟩ := Int.eq_ofNat_of_zero_le hd.1
      have hj : j < L.length := by omega
      by_cases hR : reportE j p s t bb L.length = 0
      · rw [if_pos ⟨hE, hR⟩, hR]
        have hk := (checkE_iff L).1 hE
        exact rapply_good A c L j p s t bb w S hS h hE' ⟨hI, hk.1, hk.2⟩ (hq ▸ hR) hj
      · rw [if_neg (fun h3 => hR h3.2), hq]
        rw [hq] at hR
        exact (rapply_fault A c L j p s t bb w S hS h hE' (by omega) (by omega) _ rfl (by simpa using hR)).mono fun e w' ⟨he, hb⟩ => ⟨_, he, ResL.nil _ _, hb⟩
    · have hq := report_dev (p := p) (s := s) (t := t) (b := bb) hd
      rw [if_neg (fun h3 => by have := h3.2; rw [hq] at this; cases this), hq]
      exact (rapply_dev A c L d p s t bb w S hS h hE' hd).mono fun e w' ⟨he, hb⟩ => ⟨_, he, ResL.nil _ _, hb⟩
  · rw [if_neg hE, if_neg (fun h3 => hE h3.1)]
    exact (rapply_bad A c L d p s t bb w S hS h _ (rcheck_eq L hI) (by simpa using hE)).mono fun e w' ⟨he, hb⟩ => ⟨_, he, ResL.nil _ _, hb⟩
end Go.Proofs.Ytmicckgfpodahaa
