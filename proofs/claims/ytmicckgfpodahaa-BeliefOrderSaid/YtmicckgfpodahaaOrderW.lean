/- BeliefOrder's walk: it returns true; conditions: a slice of integers that reads as a list. -/
import Derived.Test.YtmicckgfpodahaaAll
import Derived.Test.YtmicckgfpodahaaOrderN
import Derived.Test.YtmicckgfpodahaaStepApp
import Derived.Test.YtmicckgfpodahaaMk3
import Derived.Deep.DeepCutAuto
set_option linter.unusedVariables false
set_option linter.unusedSimpArgs false
namespace Go.Proofs.Ytmicckgfpodahaa
open Go Go.RowKit
theorem Rd.grown {α : Type} {w w' : World} {S : Nat → Prop} {A : Option Addr} {size : Nat} {f : α → List Value} {L : List α} {row : Option Nat} (h : Rd w S A size f L) (hg : w.grownBy w' row) (hS : ∀ b, S b → b < w.heap.size ∧ some b ≠ row) : Rd w' S A size f L :=
  h.keep fun p hp => World.cell?_of_block (hg.block p.block (hS _ hp).1 (hS _ hp).2)
theorem order_round {R Lm Ll : List Rep} {i : Nat} {r : Rep} (h : ∀ q, q ∈ R ↔ q ∈ Lm ∨ q ∈ Ll) (hr : Ll[i]? = some r) : (∀ q, q ∈ R ↔ q ∈ Lm ++ [r] ∨ q ∈ Ll) ∧ (∀ q, q ∈ R ↔ q ∈ Lm ++ [r] ∨ q ∈ Ll.take i ++ Ll.drop (i + 1)) := by
  have hm := List.mem_of_getElem? hr
  constructor
  · intro q
    rw [h q, List.mem_append, List.mem_singleton]
    constructor
    · rintro (a | a)
      · exact .inl (.inl a)
      · exact .inr a
    · rintro ((a | rfl) | a)
      · exact .inl a
      · exact .inr hm
      · exact .inr a
  · intro q
    rw [h q, List.mem_append, List.mem_singleton]
    have e : Ll = Ll.take i ++ r :: Ll.drop (i + 1) := by rw [← drop_at hr, List.take_append_drop]
    have e2 : q ∈ Ll ↔ q ∈ Ll.take i ∨ q = r ∨ q ∈ Ll.drop (i + 1) := by
      conv => lhs; rw [e]
      rw [List.mem_append, List.mem_cons]
    rw [e2, List.mem_append]
    constructor
    · rintro (a | a | a | a)
      · exact .inl (.inl a)
      · exact .inr (.inl a)
      · exact .inl (.inr a)
      · exact .inr (.inr a)
    · rintro ((a | a) | a | a)
      · exact .inl a
      · exact .inr (.inr (.inl a))
      · exact .inr (.inl a)
      · exact .inr (.inr (.inr a))
theorem own_cap {w : World} {base n c : Nat} {e : TypeId} {size : Nat} {A : Option Addr} {xs : List Value} (h : w.ownsRow base e size (.slice A n c) n xs) : n ≤ c := by
  rcases h.2 with ⟨hv, h0⟩ | ⟨g, cap, cur, hv, _, _, hc, _⟩
  · omega
  · injection hv with _ _ h3
    omega
theorem Rd.take_flat {w : World} {S : Nat → Prop} {b o : Nat} {L : List Rep} (h : Rd w S (some ⟨b, o, none⟩) 5 Rep.cells L) (i : Nat) : ∀ j u, ((L.take i).flatMap Rep.cells)[j]? = some u → w.cell? ((⟨b, o, none⟩ : Addr).add j) = some u := by
  intro j u hu
  obtain ⟨k, r, x, hx, hr, rfl⟩ := flat_inv (by omega) rep_len _ _ _ hu
  rw [List.getElem?_take] at hx
  split at hx
  · obtain ⟨b', o', e, -, hc⟩ := h (by have := lt_at hx; omega)
    injection e with e
    injection e with e1 e2
    subst e1; subst e2
    rw [Addr.add_lit, ← Nat.add_assoc]
    exact hc k r x u hx hr
  · cases hx
theorem Rd.drop_flat {w : World} {S : Nat → Prop} {b o : Nat} {L : List Rep} (h : Rd w S (some ⟨b, o, none⟩) 5 Rep.cells L) (i : Nat) : ∀ j u, ((L.drop i).flatMap Rep.cells)[j]? = some u → w.cell? ((⟨b, o + i * 5, none⟩ : Addr).add j) = some u := by
  intro j u hu
  obtain ⟨k, r, x, hx, hr, rfl⟩ := flat_inv (by omega) rep_len _ _ _ hu
  rw [List.getElem?_drop] at hx
  obtain ⟨b', o', e, -, hc⟩ := h (by have := lt_at hx; omega)
  injection e with e
  injection e with e1 e2
  subst e1; subst e2
  rw [Addr.add_lit, show o + i * 5 + (k * 5 + r) = o + (i + k) * 5 + r by omega]
  exact hc (i + k) r x u hx hr
theorem order_left {w : World} {base i : Nat} {Ll : List Rep} {v : Value} {e : TypeId} (h : w.ownsRow base e 5 v (0 + i + (Ll.length - (i + 1))) ([] ++ (Ll.take i).flatMap Rep.cells ++ (Ll.drop (i + 1)).flatMap Rep.cells)) (hi : i < Ll.length) :
    ∃ A c, v = .slice A (Ll.length - 1) c ∧ Rd w (fun b => base ≤ b ∧ b < w.heap.size) A 5 Rep.cells (Ll.take i ++ Ll.drop (i + 1)) ∧ Ll.length - 1 ≤ c := by
  rw [show 0 + i + (Ll.length - (i + 1)) = Ll.length - 1 by omega, List.nil_append, ← List.flatMap_append] at h
  obtain ⟨A, c, rfl, -⟩ := own_shape h
  exact ⟨A, c, rfl, Rd.of_own (by omega) rep_len h, own_cap h⟩
def lenV : Value → Nat
  | .slice _ n _ => n
  | _ => 0
theorem order_many (A : Option Addr) (m c : Nat) (w : World) (hm : ¬ m ≤ 400) : Calls Try.prog 6 #[.slice A m c] w fun e w' => e = .returned (.bool true) ∧ Below w.heap.size w w' := by
  have hm' : (decide ((m : Int) ≤ 400)) = false := by simp; omega
  go_enter Try.func6, Try.ntmps6
  go_wp2_with (first | (go_at_call 9; refine (few_any _ _ _ _).mono ?_; rintro e w1 ⟨rfl, rfl⟩) | (go_at_call 10; refine (awake_any _).mono ?_; rintro e w2 ⟨rfl, hb2⟩))
  go_ret
  exact ⟨rfl, hb2⟩
set_option maxRecDepth 100000 in
set_option maxHeartbeats 8000000 in
theorem order_few (A : Option Addr) (c : Nat) (l : List Int) (w : World) (hm : l.length ≤ 400) (h : Rd w (· < w.heap.size) A 1 (fun n => [.int .i64 n]) l) :
    Calls Try.prog 6 #[.slice A l.length c] w fun e w' => e = .returned (.bool true) ∧ Below w.heap.size w w' := by
  have hm' : (decide ((l.length : Int) ≤ 400)) = true := by simp; omega
  have D0 := DeckAt.new (c := c) rfl hm h
  have B0 : Below w.heap.size w (w.alloc (.cells #[.slice A l.length c, .int .i64 0, .int .u64 88172645463325252] 64)) := (Below.refl _ _).alloc (Nat.le_refl _) _
  clear h
  obtain ⟨i0, hi, hz0, hz1, hz2⟩ := info_parts infoRep
  go_enter Try.func6, Try.ntmps6
  go_wp2_with (first | (go_at_call 9; refine (few_any _ _ _ _).mono ?_; rintro e w1 ⟨rfl, rfl⟩) | (go_at_call 11; refine (new_any _ _ _ _).mono ?_; rintro e w2 ⟨rfl, rfl⟩))
  refine (reports_make _ 4 6 10 _ D0 (by omega) (by omega) (by omega) (by omega) (by omega) (by omega)).mono ?_
  rintro e w1 ⟨R, v, rfl, hL, hg, hown, d1, o1⟩
  obtain ⟨A1, c1, rfl, hbl⟩ := own_shape hown
  have R1 := (Rd.of_own (by omega) rep_len hown).mono (S' := fun b => b < w1.heap.size ∧ b ≠ w.heap.size) fun b hb => ⟨hb.2, by have := hb.1; simp at this; omega⟩
  have b1 := Only.below B0 B0.size (Nat.le_refl _) o1
  have hgw := d1.lt
  have z1 := o1.size
  simp at z1
  clear o1 B0 D0
  have hR40 : R.length ≤ 10 := by omega
  go_wp2_with (at_builtin; refine wpList_append_any _ rfl (.const (.slice none 0 0)) (.tmp 22) 39 rfl w1.heap.size 33 i0 _ 5 40 Try.underlying39 hi hz0 hz1 hz2 rfl (by omega) (.slice none 0 0) 0 [] rfl (World.ownsRow_nil _ _ _ _) A1 R.length c1 (R.flatMap Rep.cells) rfl (flat_len rep_len R) (fun h0 => R1.flat (by omega) rep_len h0) (flat_one rep_one R) (by simp only [maxLen]; omega) (by omega) (by simp) ?_; intro v2 w2 hown2 hg2 hat2; simp only [Nat.zero_add, List.nil_append] at hown2)
  obtain ⟨A2, c2, rfl, hbl2⟩ := own_shape hown2
  have z2 := hg2.size
  have L2 := (Rd.of_own (by omega) rep_len hown2)
  have d2 : DeckAt w2 w.heap.size := d1.grown hg2 (fun k hk => by cases hk)
  have b2 : Below w.heap.size w w2 := b1.grown hg2 b1.size (fun k hk => by cases hk)
  go_wp2_with fail
  go_loopw [5, 6] (fun v5 v6 wr => ∃ (A6 : Option Addr) (c6 : Nat) (Lm Ll : List Rep), v6 = .slice A6 Ll.length c6 ∧ Ll.length ≤ c6 ∧ Hid (∀ r, r ∈ R ↔ r ∈ Lm ∨ r ∈ Ll) ∧ Ll.length ≤ 10 ∧ Lm.length + Ll.length ≤ 50 ∧
    wr.ownsRow w1.heap.size 33 5 v5 Lm.length (Lm.flatMap Rep.cells) ∧ Rd wr (fun b => w1.heap.size ≤ b ∧ b < wr.heap.size ∧ v5.ownBlock ≠ some b) A6 5 Rep.cells Ll ∧ DeckAt wr w.heap.size ∧ Only w.heap.size w1 wr) (fun v5 _ _ => 50 - lenV v5)
  case atStart =>
    exact ⟨A2, c2, [], R, rfl, own_cap hown2, hide (by simp), hR40, by simp; omega, World.ownsRow_nil _ _ _ _, L2.mono fun b hb => ⟨hb.1, hb.2, by simp [Value.ownBlock]⟩, d2, (Only.refl _ _).grown hg2 (fun k hk => by cases hk)⟩
  case round =>
    obtain ⟨A6, c6, Lm, Ll, rfl, hcap, hs, hl10, hl50, hown, hrd, hd, hon⟩ := hrel
    clear L2 d2 b2 hown2 hg2 hat2 hbl2
    by_cases hlt : 0 < Ll.length
    · have hlt' : (0 : Int) < (Ll.length : Int) := by omega
      have HR1 := hide R1; have HB1 := hide b1; have HG := hide hg
      clear R1 b1 hg
      go_wp2_with fail
      refine (next_any _ _ _ hd (by omega) (by omega)).mono ?_
      rintro e w5 ⟨x, rfl, lox, hix, -, d5, o5⟩
      have hix2 := hix (by omega)
      obtain ⟨i, rfl⟩ := Int.eq_ofNat_of_zero_le lox
      clear hix
      have own5 := own_only hown o5 (by omega)
      have hown5' := own5
      have hrd5 := hrd.only o5 fun b hb => ⟨hb.2.1, by omega⟩
      have hO5 := hon.trans o5
      have zr := o5.size
      have hz5 := hO5.size
      obtain ⟨⟨dd, p, s, t, bb⟩, hx⟩ := some_at (L := Ll) (k := i) (by omega)
      obtain ⟨b, o, rfl, hsb, hcc⟩ := hrd5.at_ hx
      have c0 := hcc 0 _ rfl
      have c1' := hcc 1 _ rfl
      have c2' := hcc 2 _ rfl
      have c3 := hcc 3 _ rfl
      have c4 := hcc 4 _ rfl
      simp only [Nat.add_zero] at c0 c1' c2' c3 c4
      have HX := hide hx
      clear hown hrd hon o5 hx hcc hd
      go_wp2_with (at_builtin; refine wpList_append_any _ rfl (.tmp 31) (.tmp 36) 39 rfl w1.heap.size 33 i0 _ 5 40 Try.underlying39 hi hz0 hz1 hz2 rfl (by omega) _ Lm.length (Lm.flatMap Rep.cells) rfl (own5.alloc _) (some ⟨w5.heap.size, 0, none⟩) 1 1 (Rep.cells ⟨dd, p, s, t, bb⟩) rfl rfl (fun _ => ⟨_, rfl, one_new _ _ _ _ rfl⟩) (rep_one _) (by simp only [maxLen]; omega) (by omega) (by simp; omega) ?_; intro v7 w7 hown7 hg7 hat7)
      have hz7 := hg7.size
      simp at hz7
      have d7 : DeckAt w7 w.heap.size := (d5.alloc _).grown hg7 (fun k hk => by have := (own5.lt k hk).1; omega)
      have hO7 : Only w.heap.size w1 w7 := (hO5.alloc _).grown hg7 (fun k hk => (own5.lt k hk).1)
      have hrd7 : Rd w7 (fun b => w1.heap.size ≤ b ∧ b < w7.heap.size ∧ v7.ownBlock ≠ some b) (some ⟨b, o, none⟩) 5 Rep.cells Ll := by
        refine ((hrd5.keep (w' := w5.alloc (.cells (Rep.cells ⟨dd, p, s, t, bb⟩).toArray 33)) fun q hq => World.cell?_alloc_lt _ _ q (by have := hq.2.1; omega)).grown hg7 fun b hb => ⟨by simp; have := hb.2.1; omega, fun e => hb.2.2 e.symm⟩).mono fun b hb => ⟨hb.1, by have := hb.2.1; omega, ?_⟩
        rcases hat7 with h | h
        · rw [h]; exact hb.2.2
        · rw [h]; simp; have := hb.2.1; omega
      rw [flat_snoc] at hown7
      have HS1 := hide (order_round hs.out HX.out).1
      have HS2 := hide (order_round hs.out HX.out).2
      have tk : (Ll.take i ++ Ll.drop (i + 1)).length = Ll.length - 1 := by simp; omega
      clear hrd5 own5 hO5 hg7 hat7 d5 c0 c1' c2' c3 c4
      go_wp2_with fail
      refine (one_any _ _ _ d7 (by omega) (by omega)).mono ?_
      rintro e w8 ⟨vb, rfl, d8, o8⟩
      have hown8 := own_only hown7 o8 (by omega)
      have hz8 := o8.size
      have hO8 := hO7.trans o8
      have hrd8 := (hrd7.only o8 fun b hb => ⟨hb.2.1, by omega⟩).mono (S' := fun b => w1.heap.size ≤ b ∧ b < w8.heap.size ∧ v7.ownBlock ≠ some b) fun b hb => ⟨hb.1, by omega, hb.2.2⟩
      clear hown7 hrd7 hO7 d7 o8
      have hwr : IntKind.i64.wrap ((i : Int) + 1) = (i : Int) + 1 := by rw [IntKind.wrap_i64]; omega
      have hp0 : (0 : Int) ≤ (i : Int) + 1 := by omega
      have hp1 : (i : Int) + 1 ≤ (Ll.length : Int) := by omega
      have hp2 : ((i : Int) + 1).toNat = i + 1 := by omega
      have hp3 : (i : Int) ≤ (c6 : Int) := by omega
      cases vb
      · have HT := hide (hrd8.take_flat i)
        have HRD := hide hrd8
        go_wp2_with fail
        by_cases hq : c6 = i + 1
        · have HQ := hide hq
          clear hq
          go_region_law (first
            | (refine step_append_any rfl (.const (.slice none 0 0)) (.tmp 43) 39 rfl w8.heap.size 33 i0 _ 5 40 Try.underlying39 hi hz0 hz1 hz2 rfl (by omega) (.slice none 0 0) 0 [] rfl (World.ownsRow_nil _ _ _ _) (some ⟨b, o, none⟩) i c6 ((Ll.take i).flatMap Rep.cells) (by simp [Act.eval, Act.put]) (by rw [flat_len rep_len, List.length_take]; congr 1; omega) (fun _ => ⟨_, rfl, HT.out⟩) (flat_one rep_one _) (by simp only [maxLen]; omega) (by omega) (by simp) ?_; intro va wa hownA hgA hatA)
            | (refine step_append_any rfl (.tmp 44) (.tmp 48) 39 rfl w8.heap.size 33 i0 _ 5 40 Try.underlying39 hi hz0 hz1 hz2 rfl (by omega) va _ _ (by simp [Act.eval, Act.put]) hownA (some ⟨b, o, none⟩) (Ll.length - (i + 1)) (c6 - (i + 1)) ((Ll.drop (i + 1)).flatMap Rep.cells) (by simp [Act.eval, Act.put, HQ.out]) (by rw [flat_len rep_len, List.length_drop]) (fun h => absurd h (by have := HQ.out; omega)) (flat_one rep_one _) (by simp only [maxLen]; omega) (by omega) (by have := hgA.size; simpa using this) ?_; intro vc wc hownC hgC hatC))
          all_goals
            have hownM := ((World.ownsRow.drew hown8).kept hgA (Classical.em _)).kept hgC (by
              cases hq7 : v7.ownBlock with
              | none => exact .inl rfl
              | some k7 => exact .inr fun e => by have h1 := (hown8.lt k7 hq7).2; have h2 := (hownA.lt k7 e.symm).1; omega)
            have hO9 : Only w.heap.size w1 wc := ((hO8.drew).grown hgA (fun k hk => by cases hk)).grown hgC (fun k hk => by have := (hownA.lt k hk).1; omega)
            have hdC : DeckAt wc w.heap.size := (DeckAt.grown (DeckAt.drew d8) hgA (fun k hk => by cases hk)).grown hgC (fun k hk => by have := (hownA.lt k hk).1; omega)
            obtain ⟨AC, cC, rfl, hrdC, hcapC⟩ := order_left hownC (by omega)
            have h7 := fun k hk => (hown8.lt k hk).2
            clear hgA hgC hownA hownC hatA hatC HRD HT
            go_wp2_with fail
            go_roundw
            case rel =>
              exact ⟨AC, cC, Lm ++ [⟨dd, p, s, t, bb⟩], Ll.take i ++ Ll.drop (i + 1), ⟨rfl, tk.symm, rfl⟩, by rw [tk]; exact hcapC, HS2, by rw [tk]; omega, by rw [tk, List.length_append]; simp only [List.length_singleton]; omega, by rw [List.length_append]; exact hownM, hrdC.mono fun b' hb' => ⟨by omega, hb'.2, fun e => by have := h7 b' e; omega⟩⟩
            case measure =>
              obtain ⟨A7, c7, rfl, -⟩ := own_shape hown8
              obtain ⟨A5, c5, rfl, -⟩ := own_shape hown5'
              simp only [lenV]
              omega
        · have HQ := hide hq
          clear hq
          go_region_law (first
            | (refine step_append_any rfl (.const (.slice none 0 0)) (.tmp 43) 39 rfl w8.heap.size 33 i0 _ 5 40 Try.underlying39 hi hz0 hz1 hz2 rfl (by omega) (.slice none 0 0) 0 [] rfl (World.ownsRow_nil _ _ _ _) (some ⟨b, o, none⟩) i c6 ((Ll.take i).flatMap Rep.cells) (by simp [Act.eval, Act.put]) (by rw [flat_len rep_len, List.length_take]; congr 1; omega) (fun _ => ⟨_, rfl, HT.out⟩) (flat_one rep_one _) (by simp only [maxLen]; omega) (by omega) (by simp) ?_; intro va wa hownA hgA hatA)
            | (refine step_append_any rfl (.tmp 44) (.tmp 48) 39 rfl w8.heap.size 33 i0 _ 5 40 Try.underlying39 hi hz0 hz1 hz2 rfl (by omega) va _ _ (by simp [Act.eval, Act.put]) hownA (some ⟨b, o + (i + 1) * 5, none⟩) (Ll.length - (i + 1)) (c6 - (i + 1)) ((Ll.drop (i + 1)).flatMap Rep.cells) (by simp [Act.eval, Act.put, HQ.out]) (by rw [flat_len rep_len, List.length_drop]) (fun _ => ⟨_, rfl, (Rd.grown (w := w8.drew) HRD.out hgA (fun b' hb' => ⟨hb'.2.1, by simp [Value.ownBlock]⟩)).drop_flat (i + 1)⟩) (flat_one rep_one _) (by simp only [maxLen]; omega) (by omega) (by have := hgA.size; simpa using this) ?_; intro vc wc hownC hgC hatC))
          all_goals
            have hownM := ((World.ownsRow.drew hown8).kept hgA (Classical.em _)).kept hgC (by
              cases hq7 : v7.ownBlock with
              | none => exact .inl rfl
              | some k7 => exact .inr fun e => by have h1 := (hown8.lt k7 hq7).2; have h2 := (hownA.lt k7 e.symm).1; omega)
            have hO9 : Only w.heap.size w1 wc := ((hO8.drew).grown hgA (fun k hk => by cases hk)).grown hgC (fun k hk => by have := (hownA.lt k hk).1; omega)
            have hdC : DeckAt wc w.heap.size := (DeckAt.grown (DeckAt.drew d8) hgA (fun k hk => by cases hk)).grown hgC (fun k hk => by have := (hownA.lt k hk).1; omega)
            obtain ⟨AC, cC, rfl, hrdC, hcapC⟩ := order_left hownC (by omega)
            have h7 := fun k hk => (hown8.lt k hk).2
            clear hgA hgC hownA hownC hatA hatC HRD HT
            go_wp2_with fail
            go_roundw
            case rel =>
              exact ⟨AC, cC, Lm ++ [⟨dd, p, s, t, bb⟩], Ll.take i ++ Ll.drop (i + 1), ⟨rfl, tk.symm, rfl⟩, by rw [tk]; exact hcapC, HS2, by rw [tk]; omega, by rw [tk, List.length_append]; simp only [List.length_singleton]; omega, by rw [List.length_append]; exact hownM, hrdC.mono fun b' hb' => ⟨by omega, hb'.2, fun e => by have := h7 b' e; omega⟩⟩
            case measure =>
              obtain ⟨A7, c7, rfl, -⟩ := own_shape hown8
              obtain ⟨A5, c5, rfl, -⟩ := own_shape hown5'
              simp only [lenV]
              omega
      · obtain ⟨A7, c7, rfl, -⟩ := own_shape hown8
        by_cases hfl : 40 < Lm.length + 1
        · have hfl' : (40 : Int) < ((Lm.length + 1 : Nat) : Int) := by omega
          have HT := hide (hrd8.take_flat i)
          have HRD := hide hrd8
          go_wp2_with fail
          by_cases hq : c6 = i + 1
          · have HQ := hide hq
            clear hq
            go_region_law (first
              | (refine step_append_any rfl (.const (.slice none 0 0)) (.tmp 55) 39 rfl w8.heap.size 33 i0 _ 5 40 Try.underlying39 hi hz0 hz1 hz2 rfl (by omega) (.slice none 0 0) 0 [] rfl (World.ownsRow_nil _ _ _ _) (some ⟨b, o, none⟩) i c6 ((Ll.take i).flatMap Rep.cells) (by simp [Act.eval, Act.put]) (by rw [flat_len rep_len, List.length_take]; congr 1; omega) (fun _ => ⟨_, rfl, HT.out⟩) (flat_one rep_one _) (by simp only [maxLen]; omega) (by omega) (by simp) ?_; intro va wa hownA hgA hatA)
              | (refine step_append_any rfl (.tmp 56) (.tmp 60) 39 rfl w8.heap.size 33 i0 _ 5 40 Try.underlying39 hi hz0 hz1 hz2 rfl (by omega) va _ _ (by simp [Act.eval, Act.put]) hownA (some ⟨b, o, none⟩) (Ll.length - (i + 1)) (c6 - (i + 1)) ((Ll.drop (i + 1)).flatMap Rep.cells) (by simp [Act.eval, Act.put, HQ.out]) (by rw [flat_len rep_len, List.length_drop]) (fun h => absurd h (by have := HQ.out; omega)) (flat_one rep_one _) (by simp only [maxLen]; omega) (by omega) (by have := hgA.size; simpa using this) ?_; intro vc wc hownC hgC hatC))
            all_goals
              have hownM := ((World.ownsRow.drew hown8).kept hgA (Classical.em _)).kept hgC (by
                cases hq7 : (Value.slice A7 (Lm.length + 1) c7).ownBlock with
                | none => exact .inl rfl
                | some k7 => exact .inr fun e => by have h1 := (hown8.lt k7 hq7).2; have h2 := (hownA.lt k7 e.symm).1; omega)
              have hO9 : Only w.heap.size w1 wc := ((hO8.drew).grown hgA (fun k hk => by cases hk)).grown hgC (fun k hk => by have := (hownA.lt k hk).1; omega)
              have hdC : DeckAt wc w.heap.size := (DeckAt.grown (DeckAt.drew d8) hgA (fun k hk => by cases hk)).grown hgC (fun k hk => by have := (hownA.lt k hk).1; omega)
              obtain ⟨AC, cC, rfl, hrdC, hcapC⟩ := order_left hownC (by omega)
              have h7 := fun k hk => (hown8.lt k hk).2
              clear hgA hgC hownA hownC hatA hatC HRD HT
              go_wp2_with fail
              go_roundw
              case rel =>
                exact ⟨AC, cC, Lm ++ [⟨dd, p, s, t, bb⟩], Ll.take i ++ Ll.drop (i + 1), ⟨rfl, tk.symm, rfl⟩, by rw [tk]; exact hcapC, HS2, by rw [tk]; omega, by rw [tk, List.length_append]; simp only [List.length_singleton]; omega, by rw [List.length_append]; exact hownM, hrdC.mono fun b' hb' => ⟨by omega, hb'.2, fun e => by have := h7 b' e; omega⟩⟩
              case measure =>
                skip
                obtain ⟨A5, c5, rfl, -⟩ := own_shape hown5'
                simp only [lenV]
                omega
          · have HQ := hide hq
            clear hq
            go_region_law (first
              | (refine step_append_any rfl (.const (.slice none 0 0)) (.tmp 55) 39 rfl w8.heap.size 33 i0 _ 5 40 Try.underlying39 hi hz0 hz1 hz2 rfl (by omega) (.slice none 0 0) 0 [] rfl (World.ownsRow_nil _ _ _ _) (some ⟨b, o, none⟩) i c6 ((Ll.take i).flatMap Rep.cells) (by simp [Act.eval, Act.put]) (by rw [flat_len rep_len, List.length_take]; congr 1; omega) (fun _ => ⟨_, rfl, HT.out⟩) (flat_one rep_one _) (by simp only [maxLen]; omega) (by omega) (by simp) ?_; intro va wa hownA hgA hatA)
              | (refine step_append_any rfl (.tmp 56) (.tmp 60) 39 rfl w8.heap.size 33 i0 _ 5 40 Try.underlying39 hi hz0 hz1 hz2 rfl (by omega) va _ _ (by simp [Act.eval, Act.put]) hownA (some ⟨b, o + (i + 1) * 5, none⟩) (Ll.length - (i + 1)) (c6 - (i + 1)) ((Ll.drop (i + 1)).flatMap Rep.cells) (by simp [Act.eval, Act.put, HQ.out]) (by rw [flat_len rep_len, List.length_drop]) (fun _ => ⟨_, rfl, (Rd.grown (w := w8.drew) HRD.out hgA (fun b' hb' => ⟨hb'.2.1, by simp [Value.ownBlock]⟩)).drop_flat (i + 1)⟩) (flat_one rep_one _) (by simp only [maxLen]; omega) (by omega) (by have := hgA.size; simpa using this) ?_; intro vc wc hownC hgC hatC))
            all_goals
              have hownM := ((World.ownsRow.drew hown8).kept hgA (Classical.em _)).kept hgC (by
                cases hq7 : (Value.slice A7 (Lm.length + 1) c7).ownBlock with
                | none => exact .inl rfl
                | some k7 => exact .inr fun e => by have h1 := (hown8.lt k7 hq7).2; have h2 := (hownA.lt k7 e.symm).1; omega)
              have hO9 : Only w.heap.size w1 wc := ((hO8.drew).grown hgA (fun k hk => by cases hk)).grown hgC (fun k hk => by have := (hownA.lt k hk).1; omega)
              have hdC : DeckAt wc w.heap.size := (DeckAt.grown (DeckAt.drew d8) hgA (fun k hk => by cases hk)).grown hgC (fun k hk => by have := (hownA.lt k hk).1; omega)
              obtain ⟨AC, cC, rfl, hrdC, hcapC⟩ := order_left hownC (by omega)
              have h7 := fun k hk => (hown8.lt k hk).2
              clear hgA hgC hownA hownC hatA hatC HRD HT
              go_wp2_with fail
              go_roundw
              case rel =>
                exact ⟨AC, cC, Lm ++ [⟨dd, p, s, t, bb⟩], Ll.take i ++ Ll.drop (i + 1), ⟨rfl, tk.symm, rfl⟩, by rw [tk]; exact hcapC, HS2, by rw [tk]; omega, by rw [tk, List.length_append]; simp only [List.length_singleton]; omega, by rw [List.length_append]; exact hownM, hrdC.mono fun b' hb' => ⟨by omega, hb'.2, fun e => by have := h7 b' e; omega⟩⟩
              case measure =>
                skip
                obtain ⟨A5, c5, rfl, -⟩ := own_shape hown5'
                simp only [lenV]
                omega
        · have hfl' : ¬ (40 : Int) < ((Lm.length + 1 : Nat) : Int) := by omega
          go_wp2_with fail
          go_roundw
          case rel =>
            refine ⟨_, _, Lm ++ [⟨dd, p, s, t, bb⟩], Ll, rfl, ?_⟩
            exact ⟨by first | assumption | omega, HS1, by omega, by rw [List.length_append]; simp only [List.length_singleton]; omega, by rw [List.length_append]; exact hown8, hrd8, d8, hO8⟩
          case measure =>
            obtain ⟨A5, c5, rfl, -⟩ := own_shape hown5'
            simp only [lenV]
            omega
    · have hLl : Ll = [] := List.eq_nil_of_length_eq_zero (by omega)
      have hlen : Ll.length = 0 := by omega
      obtain ⟨A5, c5, rfl, hb5⟩ := own_shape hown
      have M5 := (Rd.of_own (by omega) rep_len hown).mono (S' := (· < wr.heap.size)) fun b hb => hb.2
      have R5 := (R1.only hon fun b hb => hb).mono (S' := (· < wr.heap.size)) fun b hb => Nat.lt_of_lt_of_le hb.1 hon.size
      have b5 := Only.below b1 b1.size (Nat.le_refl _) hon
      have hO := order_law hg (R' := Lm) (fun r => by rw [hs.out r, hLl]; simp)
      have HO := hide hO
      clear hO hown hrd hd hon R1 b1
      go_wp2_with fail
      refine (new4 _).mono ?_
      rintro e w6 ⟨v6, rfl, hown6, hb6⟩
      obtain ⟨g6, cc6, cur6, rfl, hg6, K6, hc6⟩ := of_own_row (L := zero4) hown6 (by omega)
      have Z6 : Rd w6 (· < w6.heap.size) (some ⟨g6, 0, none⟩) 3 Bel.cells zero4 := hc6.rd K6 K6.lt
      have M6 := (M5.below hb6 fun b hb => hb).mono (S' := (· < w6.heap.size)) fun b hb => Nat.lt_of_lt_of_le hb hb6.size
      have R6 := (R5.below hb6 fun b hb => hb).mono (S' := (· < w6.heap.size)) fun b hb => Nat.lt_of_lt_of_le hb hb6.size
      have b6 := b5.trans (hb6.mono b5.size)
      clear K6 hc6 M5 R5 b5 hb6 hown6
      go_wp2_with fail
      refine (all_good (some ⟨g6, 0, none⟩) A1 cc6 c1 zero4 R w6 _ (fun b hb => hb) Z6 (fun e => by cases e) R6 (by decide) (by omega) (by decide)).mono ?_
      rintro e w7 ⟨A7, c7, rfl, X7, hb7⟩
      have M7 := (M6.below hb7 fun b hb => hb).mono (S' := (· < w7.heap.size)) fun b hb => Nat.lt_of_lt_of_le hb hb7.size
      have Z7 := (Z6.below hb7 fun b hb => hb).mono (S' := (· < w7.heap.size)) fun b hb => Nat.lt_of_lt_of_le hb hb7.size
      have X7' := X7.mono (S' := (· < w7.heap.size)) fun b hb => hb.2
      have b7 := b6.trans (hb7.mono b6.size)
      rw [HO.out.1]
      clear M6 Z6 R6 hb7 b6 X7
      go_wp2_with fail
      refine (all_good (some ⟨g6, 0, none⟩) A5 cc6 c5 zero4 Lm w7 _ (fun b hb => hb) Z7 (fun e => by cases e) M7 (by decide) (by omega) (by decide)).mono ?_
      rintro e w8 ⟨A8, c8, rfl, X8, hb8⟩
      have X7' := (X7'.below hb8 fun b hb => hb).mono (S' := (· < w8.heap.size)) fun b hb => Nat.lt_of_lt_of_le hb hb8.size
      have X8 := X8.mono (S' := (· < w8.heap.size)) fun b hb => hb.2
      have b8 := b7.trans (hb8.mono b7.size)
      rw [HO.out.2.1]
      have e3 := HO.out.2.2.1
      have e4 : (allA zero4 Lm).1.length = 4 := by rw [← HO.out.2.2.2]; exact e3
      have S8 := same_any A7 A8 c7 c8 _ _ w8 _ (by omega) X7' X8
      rw [e3, e4, HO.out.2.2.2] at S8
      have hsb : sameB (allA zero4 Lm).1 (allA zero4 Lm).1 = true := by simp [sameB]
      rw [hsb] at S8
      have HS8 := hide S8
      clear S8 e3 e4 hsb X7' X8 M7 Z7 b7 hb8
      go_wp2_with (first | (go_at_call 23; refine HS8.out.mono ?_; rintro e w9 ⟨rfl, hb9⟩) | (go_at_call 10; refine (awake_any _).mono ?_; rintro e w10 ⟨rfl, hb10⟩))
      go_ret
      have b9 := b8.trans (hb9.mono b8.size)
      exact ⟨rfl, b9.trans (hb10.mono b9.size)⟩
end Go.Proofs.Ytmicckgfpodahaa
