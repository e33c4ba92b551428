/- belief.New, belief.Apply and their references: each returns what a plain function says, in new memory; conditions: slices read as lists, marks are Go integers. -/
import Derived.Test.YtmicckgfpodahaaAnsS
import Derived.Test.YtmicckgfpodahaaAll
set_option linter.unusedVariables false
set_option linter.unusedSimpArgs false
namespace Go.Proofs.Ytmicckgfpodahaa
open Go Go.RowKit
def ResL (w w' : World) (v : Value) (M : List Bel) : Prop := ∃ A c, v = .slice A M.length c ∧ Rd w' (fun b => w.heap.size ≤ b ∧ b < w'.heap.size) A 3 Bel.cells M
theorem ResL.nil (w w' : World) : ResL w w' (.slice none 0 0) [] := ⟨none, 0, rfl, Rd.nil _ _ _ _ _⟩
theorem ResL.mono {w0 w w' : World} {v : Value} {M : List Bel} (h : ResL w w' v M) (hz : w0.heap.size ≤ w.heap.size) : ResL w0 w' v M := by
  obtain ⟨A, c, e, hr⟩ := h
  exact ⟨A, c, e, hr.mono fun b hb => ⟨by omega, hb.2⟩⟩
theorem of_own_bel {w w' : World} {v : Value} {M : List Bel} (h : w'.ownsRow w.heap.size 30 3 v M.length (M.flatMap Bel.cells)) : ResL w w' v M := by
  obtain ⟨A, c, rfl, -⟩ := own_shape h
  exact ⟨A, c, rfl, Rd.of_own (by omega) bel_len h⟩
theorem made3 (z : Value) (n : Nat) : (madeCells #[z, z, z] n).toList = List.replicate n z := by
  rw [List.eq_replicate_iff]
  refine ⟨by simp [madeCells], fun b hb => ?_⟩
  simp [madeCells] at hb
  obtain ⟨i, hi, rfl⟩ := hb
  have : i % 3 = 0 ∨ i % 3 = 1 ∨ i % 3 = 2 := by omega
  rcases this with e | e | e <;> rw [e] <;> rfl
theorem zeros_flat : ∀ n : Nat, (List.replicate n (⟨0, 0, 0⟩ : Bel)).flatMap Bel.cells = List.replicate (n * 3) (.int .i64 0)
  | 0 => rfl
  | n + 1 => by
    rw [List.replicate_succ, List.flatMap_cons, zeros_flat n, show (n + 1) * 3 = n * 3 + 1 + 1 + 1 by omega, List.replicate_succ, List.replicate_succ, List.replicate_succ]
    rfl
def newL (n : Int) : List Bel := if n < 0 ∨ 64 < n then [] else List.replicate n.toNat ⟨0, 0, 0⟩
def newE (n : Int) : Int := if n < 0 ∨ 64 < n then 5 else 0
theorem new4x_bad1 (n : Int) (w : World) (h : n < 0) : Calls Try.prog 21 #[.int .i64 n] w fun e w' => e = .returned (.tuple #[.slice none 0 0, .int .i64 5]) ∧ w = w' := by
  go_enter Try.func21, Try.ntmps21
  go_wp2
  go_ret2
  exact ⟨rfl, rfl⟩
theorem new4x_bad2 (n : Int) (w : World) (h : ¬ n < 0) (h2 : 64 < n) : Calls Try.prog 21 #[.int .i64 n] w fun e w' => e = .returned (.tuple #[.slice none 0 0, .int .i64 5]) ∧ w = w' := by
  go_enter Try.func21, Try.ntmps21
  go_wp2
  go_ret2
  exact ⟨rfl, rfl⟩
theorem new4x_ok (k : Nat) (w : World) (h : k ≤ 64) : Calls Try.prog 21 #[.int .i64 k] w fun e w' =>
    ∃ v, e = .returned (.tuple #[v, .int .i64 0]) ∧ w'.ownsRow w.heap.size 30 3 v k ((List.replicate k (⟨0, 0, 0⟩ : Bel)).flatMap Bel.cells) ∧ Below w.heap.size w w' := by
  obtain ⟨i0, hi, hz0, hz1, hz2⟩ := info_parts infoBel
  have h1 : ¬ (k : Int) < 0 := by omega
  have h2 : ¬ (64 : Int) < (k : Int) := by omega
  go_enter Try.func21, Try.ntmps21
  go_wp2_with (at_make; refine wpList_make_full _ rfl _ _ 37 rfl w.heap.size 30 i0 (.agg #[.int .i64 0, .int .i64 0, .int .i64 0]) 3 Try.underlying37 hi hz0 hz1 _ _ _ _ k rfl rfl rfl rfl (by rw [hz2]; omega) (by simp only [maxLen]; omega) (Nat.le_refl _) ?_; intro w2 hown2 hg2)
  go_ret2
  have e12 : (madeCells (Value.agg #[.int .i64 0, .int .i64 0, .int .i64 0]).cells (k * 3)).toList = (List.replicate k (⟨0, 0, 0⟩ : Bel)).flatMap Bel.cells := by
    rw [zeros_flat]
    exact made3 _ _
  rw [e12] at hown2
  exact ⟨.slice (some ⟨w.heap.size, 0, none⟩) k k, rfl, hown2, (Below.refl _ _).grown hg2 (Nat.le_refl _) (fun k hk => by cases hk)⟩
theorem new4x_any (n : Int) (w : World) : Calls Try.prog 21 #[.int .i64 n] w fun e w' => ∃ v, e = .returned (.tuple #[v, .int .i64 (newE n)]) ∧ ResL w w' v (newL n) ∧ Below w.heap.size w w' := by
  unfold newE newL
  by_cases h1 : n < 0
  · rw [if_pos (.inl h1), if_pos (.inl h1)]
    exact (new4x_bad1 n w h1).mono fun e w' ⟨he, hw⟩ => ⟨_, he, ResL.nil _ _, by subst hw; exact Below.refl _ _⟩
  · by_cases h2 : 64 < n
    · rw [if_pos (.inr h2), if_pos (.inr h2)]
      exact (new4x_bad2 n w h1 h2).mono fun e w' ⟨he, hw⟩ => ⟨_, he, ResL.nil _ _, by subst hw; exact Below.refl _ _⟩
    · rw [if_neg (by omega), if_neg (by omega)]
      obtain ⟨k, rfl⟩ := Int.eq_ofNat_of_zero_le (by omega : 0 ≤ n)
      refine (new4x_ok k w (by omega)).mono fun e w' ⟨v, he, ho, hb⟩ => ⟨v, he, of_own_bel (by simpa using ho), hb⟩
theorem rnew4x_bad1 (n : Int) (w : World) (h : n < 0) : Calls Try.prog 25 #[.int .i64 n] w fun e w' => e = .returned (.tuple #[.slice none 0 0, .int .i64 5]) ∧ w = w' := by
  go_enter Try.func25, Try.ntmps25
  go_wp2
  go_ret2
  exact ⟨rfl, rfl⟩
theorem rnew4x_bad2 (n : Int) (w : World) (h : ¬ n < 0) (h2 : 64 < n) : Calls Try.prog 25 #[.int .i64 n] w fun e w' => e = .returned (.tuple #[.slice none 0 0, .int .i64 5]) ∧ w = w' := by
  go_enter Try.func25, Try.ntmps25
  go_wp2
  go_ret2
  exact ⟨rfl, rfl⟩
theorem rnew4x_ok (k : Nat) (w : World) (h : k ≤ 64) : Calls Try.prog 25 #[.int .i64 k] w fun e w' =>
    ∃ v, e = .returned (.tuple #[v, .int .i64 0]) ∧ w'.ownsRow w.heap.size 30 3 v k ((List.replicate k (⟨0, 0, 0⟩ : Bel)).flatMap Bel.cells) ∧ Below w.heap.size w w' := by
  obtain ⟨i0, hi, hz0, hz1, hz2⟩ := info_parts infoBel
  have h1 : ¬ (k : Int) < 0 := by omega
  have h2 : ¬ (64 : Int) < (k : Int) := by omega
  go_enter Try.func25, Try.ntmps25
  go_wp2_with (at_make; refine wpList_make_full _ rfl _ _ 37 rfl w.heap.size 30 i0 (.agg #[.int .i64 0, .int .i64 0, .int .i64 0]) 3 Try.underlying37 hi hz0 hz1 _ _ _ _ k rfl rfl rfl rfl (by rw [hz2]; omega) (by simp only [maxLen]; omega) (Nat.le_refl _) ?_; intro w2 hown2 hg2)
  go_ret2
  have e12 : (madeCells (Value.agg #[.int .i64 0, .int .i64 0, .int .i64 0]).cells (k * 3)).toList = (List.replicate k (⟨0, 0, 0⟩ : Bel)).flatMap Bel.cells := by
    rw [zeros_flat]
    exact made3 _ _
  rw [e12] at hown2
  exact ⟨.slice (some ⟨w.heap.size, 0, none⟩) k k, rfl, hown2, (Below.refl _ _).grown hg2 (Nat.le_refl _) (fun k hk => by cases hk)⟩
theorem rnew4x_any (n : Int) (w : World) : Calls Try.prog 25 #[.int .i64 n] w fun e w' => ∃ v, e = .returned (.tuple #[v, .int .i64 (newE n)]) ∧ ResL w w' v (newL n) ∧ Below w.heap.size w w' := by
  unfold newE newL
  by_cases h1 : n < 0
  · rw [if_pos (.inl h1), if_pos (.inl h1)]
    exact (rnew4x_bad1 n w h1).mono fun e w' ⟨he, hw⟩ => ⟨_, he, ResL.nil _ _, by subst hw; exact Below.refl _ _⟩
  · by_cases h2 : 64 < n
    · rw [if_pos (.inr h2), if_pos (.inr h2)]
      exact (rnew4x_bad2 n w h1 h2).mono fun e w' ⟨he, hw⟩ => ⟨_, he, ResL.nil _ _, by subst hw; exact Below.refl _ _⟩
    · rw [if_neg (by omega), if_neg (by omega)]
      obtain ⟨k, rfl⟩ := Int.eq_ofNat_of_zero_le (by omega : 0 ≤ n)
      refine (rnew4x_ok k w (by omega)).mono fun e w' ⟨v, he, ho, hb⟩ => ⟨v, he, of_own_bel (by simpa using ho), hb⟩
def applyE (L : List Bel) (r : Rep) : Int := if checkE L = 0 then reportE r.d r.p r.s r.t r.b L.length else checkE L
def applyL (L : List Bel) (r : Rep) : List Bel := if checkE L = 0 ∧ reportE r.d r.p r.s r.t r.b L.length = 0 then L.set r.d.toNat (merge (L[r.d.toNat]?.getD ⟨0, 0, 0⟩) r) else []
def ApplyPost (L : List Bel) (r : Rep) (w : World) (e : Ending) (w' : World) : Prop := ∃ v, e = .returned (.tuple #[v, .int .i64 (applyE L r)]) ∧ ResL w w' v (applyL L r) ∧ Below w.heap.size w w'
theorem Rd.box {α : Type} {w : World} {S : Nat → Prop} {A : Option Addr} {size : Nat} {f : α → List Value} {L : List α} (h : Rd w S A size f L) (hS : ∀ b, S b → b < w.heap.size) (o : Obj) : Rd (w.alloc o) S A size f L :=
  h.below ((Below.refl _ _).alloc (Nat.le_refl _) _) hS
set_option maxHeartbeats 2000000 in
theorem apply_bad (A : Option Addr) (c : Nat) (L : List Bel) (d p s t : Int) (bb : Bool) (w : World) (S : Nat → Prop) (hS : ∀ b, S b → b < w.heap.size) (h : Rd w S A 3 Bel.cells L) (E : Int) (hE : checkE L = E) (h0 : (E == 0) = false) :
    Calls Try.prog 29 #[.slice A L.length c, .agg #[.int .i64 d, .int .i64 p, .int .i64 s, .int .i64 t, .bool bb]] w fun e w' => e = .returned (.tuple #[.slice none 0 0, .int .i64 E]) ∧ Below w.heap.size w w' := by
  have hce := fun W hS' hR => check_any A c L W S hS' hR
  rw [hE] at hce
  have HCE := hide hce
  have h0' : (E != 0) = true := by simpa using h0
  clear hce hE
  go_enter Try.func29, Try.ntmps29
  go_wp2_with fail
  refine (HCE.out _ (fun b hb => by simp; have := hS b hb; omega) (h.box hS _)).mono ?_
  rintro e w1 ⟨rfl, hb1⟩
  go_wp2_with fail
  go_ret2
  exact ⟨rfl, ((Below.refl _ _).alloc (Nat.le_refl _) _).trans (hb1.mono (by simp))⟩
set_option maxHeartbeats 2000000 in
theorem apply_bad2 (A : Option Addr) (c : Nat) (L : List Bel) (d p s t : Int) (bb : Bool) (w : World) (S : Nat → Prop) (hS : ∀ b, S b → b < w.heap.size) (h : Rd w S A 3 Bel.cells L) (hE : checkE L = 0) (E : Int) (hR : reportE d p s t bb L.length = E) (h0 : (E != 0) = true) :
    Calls Try.prog 29 #[.slice A L.length c, .agg #[.int .i64 d, .int .i64 p, .int .i64 s, .int .i64 t, .bool bb]] w fun e w' => e = .returned (.tuple #[.slice none 0 0, .int .i64 E]) ∧ Below w.heap.size w w' := by
  have hce := fun W hS' hR => check_any A c L W S hS' hR
  rw [hE] at hce
  have HCE := hide hce
  have hra := fun W => report_any d p s t bb L.length W
  rw [hR] at hra
  have HRA := hide hra
  clear hce hE hra hR
  go_enter Try.func29, Try.ntmps29
  go_wp2_with fail
  refine (HCE.out _ (fun b hb => by simp; have := hS b hb; omega) (h.box hS _)).mono ?_
  rintro e w1 ⟨rfl, hb1⟩
  have kr1 := (Blk.new w 33 #[.int .i64 d, .int .i64 p, .int .i64 s, .int .i64 t, .bool bb]).below hb1 (by simp)
  obtain ⟨p0, p1, p2, p3, p4⟩ := kr1.c5
  have b1 := ((Below.refl w.heap.size w).alloc (Nat.le_refl _) (.cells #[.int .i64 d, .int .i64 p, .int .i64 s, .int .i64 t, .bool bb] 33)).trans (hb1.mono (by simp))
  clear hb1
  go_wp2_with fail
  refine (HRA.out _).mono ?_
  rintro e w2 ⟨rfl, hb2⟩
  go_wp2_with fail
  go_ret2
  exact ⟨rfl, b1.trans (hb2.mono b1.size)⟩
set_option maxHeartbeats 4000000 in
theorem apply_good (A : Option Addr) (c : Nat) (L : List Bel) (j : Nat) (p s t : Int) (bb : Bool) (w : World) (S : Nat → Prop) (hS : ∀ b, S b → b < w.heap.size) (h : Rd w S A 3 Bel.cells L) (hA : A = none → c = 0) (hE : checkE L = 0) (hR : reportE j p s t bb L.length = 0) (hj : j < L.length) :
    Calls Try.prog 29 #[.slice A L.length c, .agg #[.int .i64 j, .int .i64 p, .int .i64 s, .int .i64 t, .bool bb]] w fun e w' => ∃ v, e = .returned (.tuple #[v, .int .i64 0]) ∧ ResL w w' v (L.set j (merge (L[j]?.getD ⟨0, 0, 0⟩) ⟨j, p, s, t, bb⟩)) ∧ Below w.heap.size w w' := by
  have hl : L.length ≤ 64 := ((checkE_iff L).1 hE).1
  have hce := fun W hS' hR => check_any A c L W S hS' hR
  rw [hE] at hce
  have HCE := hide hce
  have hra := fun W => report_any j p s t bb L.length W
  rw [hR] at hra
  have HRA := hide hra
  clear hce hE hra hR
  go_enter Try.func29, Try.ntmps29
  go_wp2_with fail
  refine (HCE.out _ (fun b hb => by simp; have := hS b hb; omega) (h.box hS _)).mono ?_
  rintro e w1 ⟨rfl, hb1⟩
  have kr1 := (Blk.new w 33 #[.int .i64 j, .int .i64 p, .int .i64 s, .int .i64 t, .bool bb]).below hb1 (by simp)
  obtain ⟨p0, p1, p2, p3, p4⟩ := kr1.c5
  have b1 := ((Below.refl w.heap.size w).alloc (Nat.le_refl _) (.cells #[.int .i64 j, .int .i64 p, .int .i64 s, .int .i64 t, .bool bb] 33)).trans (hb1.mono (by simp))
  clear hb1
  go_wp2_with fail
  refine (HRA.out _).mono ?_
  rintro e w2 ⟨rfl, hb2⟩
  have kr2 := kr1.below hb2 kr1.lt
  have b2 := b1.trans (hb2.mono b1.size)
  have z2 := b2.size
  clear p0 p1 p2 p3 p4 hb2
  go_wp2_with fail
  refine (clone_any A c L w2 S (h.below b2 hS) hA hl (fun b hb => Nat.lt_of_lt_of_le (hS b hb) z2)).mono ?_
  rintro e w3 ⟨v, rfl, hown, hb3⟩
  obtain ⟨g, cap, cur, rfl, hg1, K3, hcur⟩ := of_own_row hown (by omega)
  have kr3 := kr2.below hb3 kr2.lt
  have b3 := b2.trans (hb3.mono b2.size)
  have krl := kr2.lt
  have hz3 := hb3.size
  obtain ⟨p0, p1, p2, p3, p4⟩ := kr3.c5
  obtain ⟨⟨ct, cm, cn⟩, hcj⟩ := some_at hj
  obtain ⟨q0, q1, q2⟩ := hcur j ct cm cn hcj
  have m0 := (K3.cell (j * 3)).trans q0
  have m1 := (K3.cell (j * 3 + 1)).trans q1
  have m2 := (K3.cell (j * 3 + 2)).trans q2
  have f0 := K3.frozen (j * 3)
  have f1 := K3.frozen (j * 3 + 1)
  have f2 := K3.frozen (j * 3 + 2)
  have HJ := hide hcj
  have HC := hide hcur
  have hj' : (j : Int) < (L.length : Int) := by omega
  have Q0 := hide q0; have Q1 := hide q1; have Q2 := hide q2
  clear q0 q1 q2 hcj hcur hown hb3 h hA
  go_wp2_with fail
  go_region_with (go_at_call 14; refine (merge_any ⟨ct, cm, cn⟩ ⟨j, p, s, t, bb⟩ _).mono ?_; rintro e w4 ⟨rfl, hb4⟩; have K4 := (Blk.drew K3).below hb4 (by simp; have := K3.lt; omega); have kr4 := (Blk.drew kr3).below hb4 (by simp; omega); obtain ⟨p0, p1, p2, p3, p4⟩ := kr4.c5; have m0 := (K4.cell (j * 3)).trans Q0.out; have m1 := (K4.cell (j * 3 + 1)).trans Q1.out; have m2 := (K4.cell (j * 3 + 2)).trans Q2.out; have f0 := K4.frozen (j * 3); have f1 := K4.frozen (j * 3 + 1); have f2 := K4.frozen (j * 3 + 2))
  all_goals go_wp2_with fail
  all_goals go_ret2
  all_goals
    have hset := HC.out.set (j := j) hj (merge ⟨ct, cm, cn⟩ ⟨j, p, s, t, bb⟩)
    have hz4 := hb4.size
    simp at hz4
    have bb4 := (Below.drew b3).trans (hb4.mono (by have := b3.size; simp; omega))
    have KF := ((K4.set_ (j * 3) (.int .i64 (merge ⟨ct, cm, cn⟩ ⟨j, p, s, t, bb⟩).t)).set_ (j * 3 + 1) (.int .i64 (merge ⟨ct, cm, cn⟩ ⟨j, p, s, t, bb⟩).m)).set_ (j * 3 + 2) (.int .i64 (merge ⟨ct, cm, cn⟩ ⟨j, p, s, t, bb⟩).n)
    rw [HJ.out]
    exact ⟨.slice (some ⟨g, 0, none⟩) L.length cap, rfl, ⟨some ⟨g, 0, none⟩, cap, by rw [List.length_set], hset.rd KF ⟨by omega, KF.lt⟩⟩, ((bb4.setCell (by simp; omega) _).setCell (by simp; omega) _).setCell (by simp; omega) _⟩
theorem apply_any (A : Option Addr) (c : Nat) (L : List Bel) (r : Rep) (w : World) (S : Nat → Prop) (hS : ∀ b, S b → b < w.heap.size) (h : Rd w S A 3 Bel.cells L) (hA : A = none → c = 0) :
    Calls Try.prog 29 #[.slice A L.length c, .agg #[.int .i64 r.d, .int .i64 r.p, .int .i64 r.s, .int .i64 r.t, .bool r.b]] w (ApplyPost L r w) := by
  obtain ⟨d, p, s, t, bb⟩ := r
  unfold ApplyPost applyE applyL
  by_cases hE : checkE L = 0
  · rw [if_pos hE]
    by_cases hR : reportE d p s t bb L.length = 0
    · rw [if_pos ⟨hE, hR⟩, hR]
      obtain ⟨d0, d1⟩ := rep_range hR
      obtain ⟨j, rfl⟩ := Int.eq_ofNat_of_zero_le d0
      exact apply_good A c L j p s t bb w S hS h hA hE hR (by omega)
    · rw [if_neg (fun h3 => hR h3.2)]
      exact (apply_bad2 A c L d p s t bb w S hS h hE _ rfl (by simpa using hR)).mono fun e w' ⟨he, hb⟩ => ⟨_, he, ResL.nil _ _, hb⟩
  · rw [if_neg hE, if_neg (fun h3 => hE h3.1)]
    exact (apply_bad A c L d p s t bb w S hS h _ rfl (by simpa using hE)).mono fun e w' ⟨he, hb⟩ => ⟨_, he, ResL.nil _ _, hb⟩
end Go.Proofs.Ytmicckgfpodahaa
