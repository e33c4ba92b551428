/- permitofficeref08.Masks and Likely: each returns what the function of the package returns; conditions: slices read as lists, marks, now and limit are Go integers. -/
import Derived.Test.YtmicckgfpodahaaAnsS
import Derived.Test.YtmicckgfpodahaaMasks
set_option linter.unusedVariables false
set_option linter.unusedSimpArgs false
namespace Go.Proofs.Ytmicckgfpodahaa
open Go Go.RowKit
theorem int_one (n : Int) : ∀ u ∈ ([.int .i64 n] : List Value), u.oneCell' = true := by
  intro u hu
  rw [List.mem_singleton.1 hu]
  rfl
theorem snoc_int (l : List Int) (x : Int) : l.flatMap intCell ++ [.int .i64 x] = (l ++ [x]).flatMap intCell := by
  rw [List.flatMap_append]
  rfl
set_option maxHeartbeats 2000000 in
theorem rmasks_bad (A : Option Addr) (c : Nat) (L : List Bel) (now limit : Int) (w : World) (S : Nat → Prop) (hS : ∀ b, S b → b < w.heap.size) (h : Rd w S A 3 Bel.cells L) (E : Int) (hE : rcheckE L = E) (h0 : (E != 0) = true) :
    Calls Try.prog 33 #[.slice A L.length c, .int .i64 now, .int .i64 limit] w fun e w' => e = .returned (.tuple #[.slice none 0 0, .int .i64 E]) ∧ Below w.heap.size w w' := by
  have hce := fun W hS' hR => rcheck_any A c L W S hS' hR
  rw [hE] at hce
  have HCE := hide hce
  clear hce hE
  go_enter Try.func33, Try.ntmps33
  go_wp2_with fail
  refine (HCE.out _ hS h).mono ?_
  rintro e w1 ⟨rfl, hb1⟩
  go_wp2_with fail
  go_ret2
  exact ⟨rfl, hb1⟩
set_option maxHeartbeats 2000000 in
theorem rlikely_bad (A : Option Addr) (c : Nat) (L : List Bel) (now limit : Int) (w : World) (S : Nat → Prop) (hS : ∀ b, S b → b < w.heap.size) (h : Rd w S A 3 Bel.cells L) (E : Int) (hE : rcheckE L = E) (h0 : (E != 0) = true) :
    Calls Try.prog 34 #[.slice A L.length c, .int .i64 now, .int .i64 limit] w fun e w' => e = .returned (.tuple #[.slice none 0 0, .int .i64 E]) ∧ Below w.heap.size w w' := by
  have hce := fun W hS' hR => rcheck_any A c L W S hS' hR
  rw [hE] at hce
  have HCE := hide hce
  clear hce hE
  go_enter Try.func34, Try.ntmps34
  go_wp2_with fail
  refine (HCE.out _ hS h).mono ?_
  rintro e w1 ⟨rfl, hb1⟩
  go_wp2_with fail
  go_ret2
  exact ⟨rfl, hb1⟩
theorem own_below {w w' : World} {base n size : Nat} {e : TypeId} {v : Value} {xs : List Value} (h : w.ownsRow base e size v n xs) (hb : Below w.heap.size w w') : w'.ownsRow base e size v n xs :=
  h.kept (row := none) ⟨hb.os, hb.tape, hb.output, hb.size, fun i hi _ => hb.block i hi⟩ (by cases v.ownBlock <;> simp)
set_option maxHeartbeats 4000000 in
theorem rmasks_good (A : Option Addr) (c : Nat) (L : List Bel) (now limit : Int) (w : World) (S : Nat → Prop) (hS : ∀ b, S b → b < w.heap.size) (h : Rd w S A 3 Bel.cells L) (hG : GoodL L) (hn : I64 now) (hli : I64 limit) :
    Calls Try.prog 33 #[.slice A L.length c, .int .i64 now, .int .i64 limit] w (MasksPost L (fun b => maskK b now limit) w) := by
  have hl : L.length ≤ 64 := hG.2.1
  obtain ⟨i0, hi, hz0, hz1, hz2⟩ := info_parts infoInt
  have hce := fun W hS' hR => rcheck_any A c L W S hS' hR
  rw [(rcheck_eq L hG.1).trans ((checkE_iff L).2 hG.2)] at hce
  have HCE := hide hce
  have HG := hide hG
  have HN := hide hn
  have HL := hide hli
  clear hce hG hn hli
  go_enter Try.func33, Try.ntmps33
  go_wp2_with fail
  refine (HCE.out _ hS h).mono ?_
  rintro e w1 ⟨rfl, hb1⟩
  go_wp2_with fail
  go_loopw [9, 10] (fun v i wr => ∃ (k : Nat), i = .int .i64 k ∧ k ≤ L.length ∧ wr.ownsRow w.heap.size 3 1 v k (((L.take k).map fun b => orBoth (maskK b now limit)).flatMap intCell) ∧ Below w.heap.size w wr) (fun _ i _ => L.length - (intOf i).toNat)
  case atStart => exact ⟨0, rfl, Nat.zero_le _, World.ownsRow_nil _ _ _ _, hb1⟩
  case round =>
    obtain ⟨k, rfl, hk, hown, hb⟩ := hrel
    clear hb1 HCE
    have z1 := hb.size
    by_cases hlt : k < L.length
    · skip
      have hlt' : (k : Int) < (L.length : Int) := by omega
      obtain ⟨⟨t, m, n⟩, hx⟩ := some_at hlt
      obtain ⟨b, o, rfl, hsb, hcc⟩ := (h.below hb hS).at_ hx
      have c0 := hcc 0 _ rfl
      have c1 := hcc 1 _ rfl
      have c2 := hcc 2 _ rfl
      simp only [Nat.add_zero] at c0 c1 c2
      have hI := HG.out.1 _ (List.mem_of_getElem? hx)
      have HX := hide hx
      have hsu := fun W => rsure_any ⟨t, m, n⟩ now limit W hI HN.out HL.out
      have HSU := hide hsu
      have Hcc := hide hcc
      clear hx hcc h hI hsu
      obtain ⟨σ, hσ⟩ : ∃ σ, (sure ⟨t, m, n⟩ now limit).1 = σ := ⟨_, rfl⟩
      obtain ⟨π, hπ⟩ : ∃ π, (sure ⟨t, m, n⟩ now limit).2 = π := ⟨_, rfl⟩
      rw [hσ, hπ] at HSU
      have HS := hide hσ
      have HP := hide hπ
      clear hσ hπ
      go_wp2_with fail
      refine (HSU.out _).mono ?_
      rintro e w4 ⟨rfl, hb4⟩
      have b4 := hb.trans (hb4.mono hb.size)
      have z4 := b4.size
      have own4 := own_below hown hb4
      clear c0 c1 c2 hown
      by_cases h2 : σ = 2
      · have hq : orBoth (maskK ⟨t, m, n⟩ now limit) = π := by
          have hr := sure_range ⟨t, m, n⟩ now limit
          have h3 := HS.out
          have h4 := HP.out
          unfold maskK orBoth
          rw [h3, h4, if_pos h2]
          rw [if_neg]
          rcases hr with e | e | e | e | e <;> rw [e] at h3 h4 <;> simp at h3 h4 <;> omega
        have HQ := hide hq
        subst h2
        clear hq
        go_wp2_with (at_builtin; refine wpList_append_any _ rfl (.tmp 38) (.tmp 40) 22 rfl w.heap.size 3 i0 _ 1 8 Try.underlying22 hi hz0 hz1 hz2 rfl (by omega) _ k (((L.take k).map (fun b => orBoth (maskK b now limit))).flatMap intCell) rfl (own4.alloc _) (some ⟨w4.heap.size, 0, none⟩) 1 1 [.int .i64 π] rfl rfl (fun _ => ⟨_, rfl, one_new _ _ _ _ rfl⟩) (int_one _) (by simp only [maxLen]; omega) (by omega) (by simp; omega) ?_; intro v5 w5 hown5 hg5 hat5)
        have b5 : Below w.heap.size w w5 := (b4.alloc b4.size _).grown hg5 (by simp; omega) (fun k' hk' => (own4.lt k' hk').1)
        rw [snoc_int] at hown5
        clear own4 hg5 hat5
        go_wp2_with fail
        go_roundw
        case rel =>
          refine ⟨k + 1, by go_num, by omega, ?_, b5⟩
          rw [take_at HX.out, List.map_append, List.map_singleton]
          rw [HQ.out]
          exact hown5
        case measure => simp [intOf]; omega
      · have h2' : (σ == 2) = false := by simpa using h2
        have hq : orBoth (maskK ⟨t, m, n⟩ now limit) = 3 := by
          unfold maskK orBoth
          rw [HS.out, if_neg h2]
          rfl
        have HQ := hide hq
        clear hq h2
        go_wp2_with (at_builtin; refine wpList_append_any _ rfl (.tmp 38) (.tmp 40) 22 rfl w.heap.size 3 i0 _ 1 8 Try.underlying22 hi hz0 hz1 hz2 rfl (by omega) _ k (((L.take k).map (fun b => orBoth (maskK b now limit))).flatMap intCell) rfl (own4.alloc _) (some ⟨w4.heap.size, 0, none⟩) 1 1 [.int .i64 3] rfl rfl (fun _ => ⟨_, rfl, one_new _ _ _ _ rfl⟩) (int_one _) (by simp only [maxLen]; omega) (by omega) (by simp; omega) ?_; intro v5 w5 hown5 hg5 hat5)
        have b5 : Below w.heap.size w w5 := (b4.alloc b4.size _).grown hg5 (by simp; omega) (fun k' hk' => (own4.lt k' hk').1)
        rw [snoc_int] at hown5
        clear own4 hg5 hat5
        go_wp2_with fail
        go_roundw
        case rel =>
          refine ⟨k + 1, by go_num, by omega, ?_, b5⟩
          rw [take_at HX.out, List.map_append, List.map_singleton]
          rw [HQ.out]
          exact hown5
        case measure => simp [intOf]; omega
    · skip
      obtain rfl : k = L.length := by omega
      rw [List.take_length] at hown
      go_wp2_with fail
      go_ret2
      have hck := (checkE_iff L).2 HG.out.2
      exact ⟨⟨_, by rw [hck]; rfl, fun _ => hown, fun h0 => absurd hck h0⟩, hb⟩
set_option maxHeartbeats 4000000 in
theorem rlikely_good (A : Option Addr) (c : Nat) (L : List Bel) (now limit : Int) (w : World) (S : Nat → Prop) (hS : ∀ b, S b → b < w.heap.size) (h : Rd w S A 3 Bel.cells L) (hG : GoodL L) (hn : I64 now) (hli : I64 limit) :
    Calls Try.prog 34 #[.slice A L.length c, .int .i64 now, .int .i64 limit] w (MasksPost L (fun b => maskL b now limit) w) := by
  have hl : L.length ≤ 64 := hG.2.1
  obtain ⟨i0, hi, hz0, hz1, hz2⟩ := info_parts infoInt
  have hce := fun W hS' hR => rcheck_any A c L W S hS' hR
  rw [(rcheck_eq L hG.1).trans ((checkE_iff L).2 hG.2)] at hce
  have HCE := hide hce
  have HG := hide hG
  have HN := hide hn
  have HL := hide hli
  clear hce hG hn hli
  go_enter Try.func34, Try.ntmps34
  go_wp2_with fail
  refine (HCE.out _ hS h).mono ?_
  rintro e w1 ⟨rfl, hb1⟩
  go_wp2_with fail
  go_loopw [9, 10] (fun v i wr => ∃ (k : Nat), i = .int .i64 k ∧ k ≤ L.length ∧ wr.ownsRow w.heap.size 3 1 v k (((L.take k).map fun b => orBoth (maskL b now limit)).flatMap intCell) ∧ Below w.heap.size w wr) (fun _ i _ => L.length - (intOf i).toNat)
  case atStart => exact ⟨0, rfl, Nat.zero_le _, World.ownsRow_nil _ _ _ _, hb1⟩
  case round =>
    obtain ⟨k, rfl, hk, hown, hb⟩ := hrel
    clear hb1 HCE
    have z1 := hb.size
    by_cases hlt : k < L.length
    · skip
      have hlt' : (k : Int) < (L.length : Int) := by omega
      obtain ⟨⟨t, m, n⟩, hx⟩ := some_at hlt
      obtain ⟨b, o, rfl, hsb, hcc⟩ := (h.below hb hS).at_ hx
      have c0 := hcc 0 _ rfl
      have c1 := hcc 1 _ rfl
      have c2 := hcc 2 _ rfl
      simp only [Nat.add_zero] at c0 c1 c2
      have hI := HG.out.1 _ (List.mem_of_getElem? hx)
      have HX := hide hx
      have hsu := fun W => rsure_any ⟨t, m, n⟩ now limit W hI HN.out HL.out
      have HSU := hide hsu
      have Hcc := hide hcc
      clear hx hcc h hI hsu
      obtain ⟨σ, hσ⟩ : ∃ σ, (sure ⟨t, m, n⟩ now limit).1 = σ := ⟨_, rfl⟩
      obtain ⟨π, hπ⟩ : ∃ π, (sure ⟨t, m, n⟩ now limit).2 = π := ⟨_, rfl⟩
      rw [hσ, hπ] at HSU
      have HS := hide hσ
      have HP := hide hπ
      clear hσ hπ
      go_wp2_with fail
      refine (HSU.out _).mono ?_
      rintro e w4 ⟨rfl, hb4⟩
      have b4 := hb.trans (hb4.mono hb.size)
      have z4 := b4.size
      have own4 := own_below hown hb4
      clear c0 c1 c2 hown
      by_cases h2 : σ = 0
      · subst h2
        have n2 : w4.cell? ⟨b, o + k * 3 + 2, none⟩ = some (.int .i64 n) := (hb4.cell (p := ⟨b, o + k * 3 + 2, none⟩) (by have := hS b hsb; simp; omega)).trans (Hcc.out 2 _ rfl)
        have HQ : Hid (maskL ⟨t, m, n⟩ now limit = n) := hide (by unfold maskL; rw [HS.out]; rfl)
        by_cases h3 : n = 0
        · subst h3
          go_wp2_with (at_builtin; refine wpList_append_any _ rfl (.tmp 43) (.tmp 45) 22 rfl w.heap.size 3 i0 _ 1 8 Try.underlying22 hi hz0 hz1 hz2 rfl (by omega) _ k (((L.take k).map (fun b => orBoth (maskL b now limit))).flatMap intCell) rfl (own4.alloc _) (some ⟨w4.heap.size, 0, none⟩) 1 1 [.int .i64 3] rfl rfl (fun _ => ⟨_, rfl, one_new _ _ _ _ rfl⟩) (int_one _) (by simp only [maxLen]; omega) (by omega) (by simp; omega) ?_; intro v5 w5 hown5 hg5 hat5)
          have b5 : Below w.heap.size w w5 := (b4.alloc b4.size _).grown hg5 (by simp; omega) (fun k' hk' => (own4.lt k' hk').1)
          rw [snoc_int] at hown5
          clear own4 hg5 hat5
          go_wp2_with fail
          go_roundw
          case rel =>
            refine ⟨k + 1, by go_num, by omega, ?_, b5⟩
            rw [take_at HX.out, List.map_append, List.map_singleton]
            rw [HQ.out]
            exact hown5
          case measure => simp [intOf]; omega
        · have h3' : (n == 0) = false := by simpa using h3
          have HQ2 : Hid (orBoth n = n) := hide (by unfold orBoth; rw [if_neg h3])
          clear h3
          go_wp2_with (at_builtin; refine wpList_append_any _ rfl (.tmp 43) (.tmp 45) 22 rfl w.heap.size 3 i0 _ 1 8 Try.underlying22 hi hz0 hz1 hz2 rfl (by omega) _ k (((L.take k).map (fun b => orBoth (maskL b now limit))).flatMap intCell) rfl (own4.alloc _) (some ⟨w4.heap.size, 0, none⟩) 1 1 [.int .i64 n] rfl rfl (fun _ => ⟨_, rfl, one_new _ _ _ _ rfl⟩) (int_one _) (by simp only [maxLen]; omega) (by omega) (by simp; omega) ?_; intro v5 w5 hown5 hg5 hat5)
          have b5 : Below w.heap.size w w5 := (b4.alloc b4.size _).grown hg5 (by simp; omega) (fun k' hk' => (own4.lt k' hk').1)
          rw [snoc_int] at hown5
          clear own4 hg5 hat5
          go_wp2_with fail
          go_roundw
          case rel =>
            refine ⟨k + 1, by go_num, by omega, ?_, b5⟩
            rw [take_at HX.out, List.map_append, List.map_singleton]
            rw [HQ.out, HQ2.out]
            exact hown5
          case measure => simp [intOf]; omega
      · have h2' : (σ == 0) = false := by simpa using h2
        have HQ : Hid (maskL ⟨t, m, n⟩ now limit = π) := hide (by unfold maskL; rw [HS.out, if_neg h2, HP.out])
        clear h2
        by_cases h3 : π = 0
        · subst h3
          go_wp2_with (at_builtin; refine wpList_append_any _ rfl (.tmp 43) (.tmp 45) 22 rfl w.heap.size 3 i0 _ 1 8 Try.underlying22 hi hz0 hz1 hz2 rfl (by omega) _ k (((L.take k).map (fun b => orBoth (maskL b now limit))).flatMap intCell) rfl (own4.alloc _) (some ⟨w4.heap.size, 0, none⟩) 1 1 [.int .i64 3] rfl rfl (fun _ => ⟨_, rfl, one_new _ _ _ _ rfl⟩) (int_one _) (by simp only [maxLen]; omega) (by omega) (by simp; omega) ?_; intro v5 w5 hown5 hg5 hat5)
          have b5 : Below w.heap.size w w5 := (b4.alloc b4.size _).grown hg5 (by simp; omega) (fun k' hk' => (own4.lt k' hk').1)
          rw [snoc_int] at hown5
          clear own4 hg5 hat5
          go_wp2_with fail
          go_roundw
          case rel =>
            refine ⟨k + 1, by go_num, by omega, ?_, b5⟩
            rw [take_at HX.out, List.map_append, List.map_singleton]
            rw [HQ.out]
            exact hown5
          case measure => simp [intOf]; omega
        · have h3' : (π == 0) = false := by simpa using h3
          have HQ2 : Hid (orBoth π = π) := hide (by unfold orBoth; rw [if_neg h3])
          clear h3
          go_wp2_with (at_builtin; refine wpList_append_any _ rfl (.tmp 43) (.tmp 45) 22 rfl w.heap.size 3 i0 _ 1 8 Try.underlying22 hi hz0 hz1 hz2 rfl (by omega) _ k (((L.take k).map (fun b => orBoth (maskL b now limit))).flatMap intCell) rfl (own4.alloc _) (some ⟨w4.heap.size, 0, none⟩) 1 1 [.int .i64 π] rfl rfl (fun _ => ⟨_, rfl, one_new _ _ _ _ rfl⟩) (int_one _) (by simp only [maxLen]; omega) (by omega) (by simp; omega) ?_; intro v5 w5 hown5 hg5 hat5)
          have b5 : Below w.heap.size w w5 := (b4.alloc b4.size _).grown hg5 (by simp; omega) (fun k' hk' => (own4.lt k' hk').1)
          rw [snoc_int] at hown5
          clear own4 hg5 hat5
          go_wp2_with fail
          go_roundw
          case rel =>
            refine ⟨k + 1, by go_num, by omega, ?_, b5⟩
            rw [take_at HX.out, List.map_append, List.map_singleton]
            rw [HQ.out, HQ2.out]
            exact hown5
          case measure => simp [intOf]; omega
    · skip
      obtain rfl : k = L.length := by omega
      rw [List.take_length] at hown
      go_wp2_with fail
      go_ret2
      have hck := (checkE_iff L).2 HG.out.2
      exact ⟨⟨_, by rw [hck]; rfl, fun _ => hown, fun h0 => absurd hck h0⟩, hb⟩
theorem rmasks_any (A : Option Addr) (c : Nat) (L : List Bel) (now limit : Int) (w : World) (S : Nat → Prop) (hS : ∀ b, S b → b < w.heap.size) (h : Rd w S A 3 Bel.cells L) (hI : ∀ b ∈ L, I64 b.m) (hn : I64 now) (hli : I64 limit) :
    Calls Try.prog 33 #[.slice A L.length c, .int .i64 now, .int .i64 limit] w (MasksPost L (fun b => maskK b now limit) w) := by
  by_cases hE : checkE L = 0
  · have hk := (checkE_iff L).1 hE
    exact rmasks_good A c L now limit w S hS h ⟨hI, hk.1, hk.2⟩ hn hli
  · exact (rmasks_bad A c L now limit w S hS h _ (rcheck_eq L hI) (by simpa using hE)).mono fun e w' ⟨he, hb⟩ => ⟨⟨_, he, fun h0 => absurd h0 hE, fun _ => rfl⟩, hb⟩
theorem rlikely_any (A : Option Addr) (c : Nat) (L : List Bel) (now limit : Int) (w : World) (S : Nat → Prop) (hS : ∀ b, S b → b < w.heap.size) (h : Rd w S A 3 Bel.cells L) (hI : ∀ b ∈ L, I64 b.m) (hn : I64 now) (hli : I64 limit) :
    Calls Try.prog 34 #[.slice A L.length c, .int .i64 now, .int .i64 limit] w (MasksPost L (fun b => maskL b now limit) w) := by
  by_cases hE : checkE L = 0
  · have hk := (checkE_iff L).1 hE
    exact rlikely_good A c L now limit w S hS h ⟨hI, hk.1, hk.2⟩ hn hli
  · exact (rlikely_bad A c L now limit w S hS h _ (rcheck_eq L hI) (by simpa using hE)).mono fun e w' ⟨he, hb⟩ => ⟨⟨_, he, fun h0 => absurd h0 hE, fun _ => rfl⟩, hb⟩
end Go.Proofs.Ytmicckgfpodahaa
