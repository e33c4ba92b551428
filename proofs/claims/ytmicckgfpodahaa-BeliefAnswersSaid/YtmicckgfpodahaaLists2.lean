/- slices.Clone at beliefs, and the two tests of equality of the references; conditions: a slice reads as a list. -/
import Derived.Test.YtmicckgfpodahaaScal
set_option linter.unusedVariables false
set_option linter.unusedSimpArgs false
namespace Go.Proofs.Ytmicckgfpodahaa
open Go Go.RowKit
theorem bel_len' (x : Bel) : x.cells.length = 3 := rfl
theorem bel_one' (x : Bel) : ∀ u ∈ x.cells, u.oneCell' = true := by
  intro u hu
  simp [Bel.cells] at hu
  rcases hu with rfl | rfl | rfl <;> rfl
theorem infoBel : (Try.prog.info? 30).map (fun i => (i.zero, i.size, i.bytes)) = some (some (.agg #[.int .i64 0, .int .i64 0, .int .i64 0]), 3, 24) := by kernel_rfl
theorem eqlNil (A : Option Addr) (n c : Nat) (w : World) : (binOp .eql 37 (.slice A n c) (.slice none 0 0)).run Try.prog w = .ok (.bool A.isNone) w :=
  Lib.run_eql_slice_nil w 37 30 A n c 0 0 Try.underlying37
set_option maxHeartbeats 1000000 in
theorem clone_nil (w : World) : Calls Try.prog 43 #[.slice none 0 0] w fun e w' => e = .returned (.slice none 0 0) ∧ w = w' := by
  have he := eqlNil
  go_enter Try.func43, Try.ntmps43
  go_wp2
  go_ret
  exact ⟨rfl, rfl⟩
set_option maxHeartbeats 1000000 in
theorem clone_some (ad : Addr) (c : Nat) (L : List Bel) (w : World) (S : Nat → Prop) (h : Rd w S (some ad) 3 Bel.cells L) (hl : L.length ≤ 64) (hS : ∀ b, S b → b < w.heap.size) :
    Calls Try.prog 43 #[.slice (some ad) L.length c] w fun e w' => ∃ v, e = .returned v ∧ w'.ownsRow w.heap.size 30 3 v L.length (L.flatMap Bel.cells) ∧ Below w.heap.size w w' := by
  have he := eqlNil
  obtain ⟨i0, hi, hz0, hz1, hz2⟩ := info_parts infoBel
  have hr := fun w' (hb : Below w.heap.size w w') (h0 : 0 < L.length) => (h.below hb hS).flat (by omega) bel_len' h0
  go_enter Try.func43, Try.ntmps43
  go_wp2_with (at_builtin; refine wpList_append_any _ rfl (.tmp 5) (.tmp 6) _ rfl w.heap.size 30 i0 _ 3 24 Try.underlying37 hi hz0 hz1 hz2 rfl (by omega) (.slice (some ⟨w.heap.size, 0, none⟩) 0 0) 0 [] rfl (World.ownsRow_made w #[] 0 (Nat.le_refl _) (by simp [maxLen]) rfl) (some ad) L.length c (L.flatMap Bel.cells) rfl (flat_len bel_len' L) (hr _ ((Below.refl _ _).alloc (Nat.le_refl _) _)) (flat_one bel_one' L) (by simp only [maxLen]; omega) (by omega) (by simp) ?_; intro v1 w1 hown1 hg1 hat1; simp only [Nat.zero_add, List.nil_append] at hown1)
  go_ret
  refine ⟨v1, rfl, hown1, ?_⟩
  refine ((Below.refl _ _).alloc (Nat.le_refl _) _).grown hg1 (by simp) (fun k hk => ?_)
  simp [Value.ownBlock] at hk
  omega
theorem clone_any (A : Option Addr) (c : Nat) (L : List Bel) (w : World) (S : Nat → Prop) (h : Rd w S A 3 Bel.cells L) (hA : A = none → c = 0) (hl : L.length ≤ 64) (hS : ∀ b, S b → b < w.heap.size) :
    Calls Try.prog 43 #[.slice A L.length c] w fun e w' => ∃ v, e = .returned v ∧ w'.ownsRow w.heap.size 30 3 v L.length (L.flatMap Bel.cells) ∧ Below w.heap.size w w' := by
  rcases A with _ | ad
  · obtain rfl := hA rfl
    have hn : L.length = 0 := by
      rcases Nat.eq_zero_or_pos L.length with h0 | h0
      · exact h0
      · obtain ⟨_, _, e, _⟩ := h h0
        cases e
    have hL : L = [] := List.eq_nil_of_length_eq_zero hn
    subst hL
    exact (clone_nil w).mono fun e w' ⟨he, hw⟩ => ⟨_, he, by subst hw; exact World.ownsRow_nil _ _ _ _, by subst hw; exact Below.refl _ _⟩
  · exact clone_some ad c L w S h hl hS
theorem held_Bel : Try.prog.stoodInHeld 30 = false := by kernel_rfl
theorem eqBel (t m n t' m' n' : Int) (w : World) (d : Nat) : (Op.equalIn (d + 2) 30 (.agg #[.int .i64 t, .int .i64 m, .int .i64 n]) (.agg #[.int .i64 t', .int .i64 m', .int .i64 n'])).run Try.prog w = .ok (t == t' && m == m' && n == n') w := by
  rw [run_equalIn_struct w (d + 1) 30 _ _ (by kernel_rfl) held_Bel]
  by_cases h1 : t = t' <;> by_cases h2 : m = m' <;> by_cases h3 : n = n' <;> simp [Program.fieldsOf, Try.underlying30, Op.eqFields, go_sem, Try.underlying3, h1, h2, h3]
theorem neqBel (t m n t' m' n' : Int) (w : World) : (binOp .neq 30 (.agg #[.int .i64 t, .int .i64 m, .int .i64 n]) (.agg #[.int .i64 t', .int .i64 m', .int .i64 n'])).run Try.prog w = .ok (.bool (!(t == t' && m == m' && n == n'))) w := by
  simp only [binOp]
  simp [Op.equal, Op.maxDepth, eqBel _ _ _ _ _ _ w 9998]
theorem eqlBel (t m n t' m' n' : Int) (w : World) : (binOp .eql 30 (.agg #[.int .i64 t, .int .i64 m, .int .i64 n]) (.agg #[.int .i64 t', .int .i64 m', .int .i64 n'])).run Try.prog w = .ok (.bool (t == t' && m == m' && n == n')) w := by
  simp only [binOp]
  simp [Op.equal, Op.maxDepth, eqBel _ _ _ _ _ _ w 9998]
def sameB (L M : List Bel) : Bool := decide (L = M)
set_option maxHeartbeats 1000000 in
theorem same_len (A B : Option Addr) (n m c d : Nat) (w : World) (h : (((n : Nat) : Int) != ((m : Nat) : Int)) = true) :
    Calls Try.prog 23 #[.slice A n c, .slice B m d] w fun e w' => e = .returned (.bool false) ∧ Below w.heap.size w w' := by
  go_enter Try.func23, Try.ntmps23
  go_wp2
  go_ret
  exact ⟨rfl, Below.refl _ _⟩
theorem eq_next {α : Type} {L M : List α} {k : Nat} {x y : α} (hx : L[k]? = some x) (hy : M[k]? = some y) (hf : L = M ↔ L.drop k = M.drop k) : L = M ↔ (x = y ∧ L.drop (k + 1) = M.drop (k + 1)) := by
  rw [hf, drop_at hx, drop_at hy, List.cons.injEq]
set_option maxHeartbeats 1000000 in
theorem same_eq (A B : Option Addr) (c d : Nat) (L M : List Bel) (w : World) (S : Nat → Prop) (hl : L.length = M.length) (hm : L.length ≤ 1000) (h : Rd w S A 3 Bel.cells L) (h' : Rd w S B 3 Bel.cells M) :
    Calls Try.prog 23 #[.slice A L.length c, .slice B L.length d] w fun e w' => e = .returned (.bool (sameB L M)) ∧ Below w.heap.size w w' := by
  have Hl := hide hl
  clear hl
  have kn := neqBel
  go_enter Try.func23, Try.ntmps23
  go_wp2
  go_loopw [5] (fun i wr => ∃ k : Nat, k ≤ L.length ∧ i = .int .i64 k ∧ Hid (L = M ↔ L.drop k = M.drop k) ∧ Hid (∃ n, wr = w.drewN n)) (fun i _ => L.length - (intOf i).toNat)
  case atStart => exact ⟨0, Nat.zero_le _, rfl, Iff.rfl, ⟨0, rfl⟩⟩
  case round =>
    obtain ⟨k, hk, rfl, hf, ⟨nd, rfl⟩⟩ := hrel
    by_cases hlt : k < L.length
    · obtain ⟨⟨t, m, n⟩, hx⟩ := some_at hlt
      obtain ⟨⟨t', m', n'⟩, hy⟩ := some_at (show k < M.length by have := Hl.out; omega)
      obtain ⟨b, o, rfl, hs, hc⟩ := h.at_ hx
      obtain ⟨b', o', rfl, hs', hc'⟩ := h'.at_ hy
      have c0 := hc 0 _ rfl
      have c1 := hc 1 _ rfl
      have c2 := hc 2 _ rfl
      have d0 := hc' 0 _ rfl
      have d1 := hc' 1 _ rfl
      have d2 := hc' 2 _ rfl
      have Hx := hide hx
      have Hy := hide hy
      clear hx hc h hy hc' h'
      simp only [Nat.add_zero] at c0 c1 c2 d0 d1 d2
      by_cases he : t = t' ∧ m = m' ∧ n = n'
      · obtain ⟨rfl, rfl, rfl⟩ := he
        have hq : (t == t && m == m && n == n) = true := by simp
        go_wp2
        go_quiet (fail)
        go_wp2
        go_roundw
        case rel => exact ⟨k + 1, by omega, by go_num, hide (by have := eq_next Hx.out Hy.out hf.out; simpa using this), ⟨nd + nq, rfl⟩⟩
        case measure => simp [intOf]; omega
      · have hq : (t == t' && m == m' && n == n') = false := by
          rw [Bool.eq_false_iff]; intro h0; simp at h0; exact he ⟨h0.1.1, h0.1.2, h0.2⟩
        have He := hide he
        clear he
        go_wp2
        go_quiet (fail)
        go_wp2
        go_ret
        exact ⟨by
          have h1 : L ≠ M := fun h0 => He.out (by have := (eq_next Hx.out Hy.out hf.out).1 h0; simpa using this.1)
          simp [sameB, h1], below_drewN (below_drewN (Below.refl _ _) _) _⟩
    · go_wp2
      go_ret
      have hf := hf.out
      rw [List.drop_of_length_le (by omega), List.drop_of_length_le (by have := Hl.out; omega)] at hf
      exact ⟨by simp [sameB, hf], below_drewN (Below.refl _ _) _⟩
theorem same_any (A B : Option Addr) (c d : Nat) (L M : List Bel) (w : World) (S : Nat → Prop) (hm : L.length ≤ 1000) (h : Rd w S A 3 Bel.cells L) (h' : Rd w S B 3 Bel.cells M) :
    Calls Try.prog 23 #[.slice A L.length c, .slice B M.length d] w fun e w' => e = .returned (.bool (sameB L M)) ∧ Below w.heap.size w w' := by
  by_cases hl : L.length = M.length
  · rw [← hl]; exact same_eq A B c d L M w S hl hm h h'
  · have e : sameB L M = false := by simp only [sameB, decide_eq_false_iff_not]; rintro rfl; exact hl rfl
    rw [e]; exact same_len A B _ _ c d w (by rw [bne_iff_ne]; omega)
set_option maxHeartbeats 1000000 in
theorem ints_len (A B : Option Addr) (n m c d : Nat) (w : World) (h : (((n : Nat) : Int) != ((m : Nat) : Int)) = true) :
    Calls Try.prog 35 #[.slice A n c, .slice B m d] w fun e w' => e = .returned (.bool false) ∧ Below w.heap.size w w' := by
  go_enter Try.func35, Try.ntmps35
  go_wp2
  go_ret
  exact ⟨rfl, Below.refl _ _⟩
def intCell (n : Int) : List Value := [.int .i64 n]
set_option maxHeartbeats 1000000 in
theorem ints_eq (A B : Option Addr) (c d : Nat) (L M : List Int) (w : World) (S : Nat → Prop) (hl : L.length = M.length) (hm : L.length ≤ 1000) (h : Rd w S A 1 intCell L) (h' : Rd w S B 1 intCell M) :
    Calls Try.prog 35 #[.slice A L.length c, .slice B L.length d] w fun e w' => e = .returned (.bool (decide (L = M))) ∧ Below w.heap.size w w' := by
  have Hl := hide hl
  clear hl
  go_enter Try.func35, Try.ntmps35
  go_wp2
  go_loopw [5] (fun i wr => ∃ k : Nat, k ≤ L.length ∧ i = .int .i64 k ∧ Hid (L = M ↔ L.drop k = M.drop k) ∧ Hid (∃ n, wr = w.drewN n)) (fun i _ => L.length - (intOf i).toNat)
  case atStart => exact ⟨0, Nat.zero_le _, rfl, Iff.rfl, ⟨0, rfl⟩⟩
  case round =>
    obtain ⟨k, hk, rfl, hf, ⟨nd, rfl⟩⟩ := hrel
    by_cases hlt : k < L.length
    · obtain ⟨t, hx⟩ := some_at hlt
      obtain ⟨t', hy⟩ := some_at (show k < M.length by have := Hl.out; omega)
      obtain ⟨b, o, rfl, hs, hc⟩ := h.at_ hx
      obtain ⟨b', o', rfl, hs', hc'⟩ := h'.at_ hy
      have c0 := hc 0 _ rfl
      have d0 := hc' 0 _ rfl
      have Hx := hide hx
      have Hy := hide hy
      clear hx hc h hy hc' h'
      simp only [Nat.add_zero, Nat.mul_one] at c0 d0
      by_cases he : t = t'
      · obtain rfl := he
        have hq : (t != t) = false := by simp
        go_wp2
        go_quiet (fail)
        go_wp2
        go_roundw
        case rel => exact ⟨k + 1, by omega, by go_num, hide (by have := eq_next Hx.out Hy.out hf.out; simpa using this), ⟨nd + nq, rfl⟩⟩
        case measure => simp [intOf]; omega
      · have hq : (t != t') = true := by simpa using he
        have He := hide he
        clear he
        go_wp2
        go_quiet (fail)
        go_wp2
        go_ret
        exact ⟨by
          have h1 : L ≠ M := fun h0 => He.out (by have := (eq_next Hx.out Hy.out hf.out).1 h0; simpa using this.1)
          simp [h1], below_drewN (below_drewN (Below.refl _ _) _) _⟩
    · go_wp2
      go_ret
      have hf := hf.out
      rw [List.drop_of_length_le (by omega), List.drop_of_length_le (by have := Hl.out; omega)] at hf
      exact ⟨by simp [hf], below_drewN (Below.refl _ _) _⟩
theorem ints_any (A B : Option Addr) (c d : Nat) (L M : List Int) (w : World) (S : Nat → Prop) (hm : L.length ≤ 1000) (h : Rd w S A 1 intCell L) (h' : Rd w S B 1 intCell M) :
    Calls Try.prog 35 #[.slice A L.length c, .slice B M.length d] w fun e w' => e = .returned (.bool (decide (L = M))) ∧ Below w.heap.size w w' := by
  by_cases hl : L.length = M.length
  · rw [← hl]; exact ints_eq A B c d L M w S hl hm h h'
  · have e : decide (L = M) = false := by simp only [decide_eq_false_iff_not]; rintro rfl; exact hl rfl
    rw [e]; exact ints_len A B _ _ c d w (by rw [bne_iff_ne]; omega)
end Go.Proofs.Ytmicckgfpodahaa
