/- slices.Clone, Insert, Delete at []api.Certificate, of the caller's own; conditions: none. -/
import Derived.Test.YtamihjgfncjdoaaDoorInsB
import Derived.Test.YtamihjgfncjdoaaDoorTab
set_option linter.unusedVariables false
set_option linter.unusedSimpArgs false
namespace Go.Proofs.YtamihjgfncjdoaaDoor
open Go Go.RowKit
theorem infoRowC : (Tryd.prog.info? 40).map (fun i => (i.zero, i.size, i.bytes)) = some (some (Value.agg #[.int .i64 0, .int .i64 0, .int .i64 0, .int .i64 0, .slice none 0 0]), 5, 56) := by kernel_rfl
theorem eqlNilRC (A : Option Addr) (n c : Nat) (w : World) : (binOp .eql 34 (.slice A n c) (.slice none 0 0)).run Tryd.prog w = .ok (.bool A.isNone) w :=
  Lib.run_eql_slice_nil w 34 40 A n c 0 0 Tryd.underlying34
set_option maxHeartbeats 1000000 in
theorem clone_nilC (c : Nat) (w : World) : Calls Tryd.prog 39 #[.slice none 0 c] w fun e w' => e = .returned (.slice none 0 0) ∧ w = w' := by
  have he := eqlNilRC
  go_enter Tryd.func39, Tryd.ntmps39
  go_wp2
  go_ret
  exact ⟨rfl, rfl⟩
set_option maxHeartbeats 1000000 in
theorem clone_someC (ad : Addr) (c n : Nat) (news : List Value) (w : World) (hl : news.length = n * 5) (hr : ∀ w', Below w.heap.size w w' → 0 < n → ∃ a, some ad = some a ∧ ∀ j u, news[j]? = some u → w'.cell? (a.add j) = some u) (h1 : ∀ u ∈ news, u.oneCell' = true) (hn : n ≤ 1000) :
    Calls Tryd.prog 39 #[.slice (some ad) n c] w fun e w' => ∃ v, e = .returned v ∧ w'.ownsRow w.heap.size 40 5 v n news ∧ Below w.heap.size w w' := by
  have he := eqlNilRC
  obtain ⟨i0, hi, hz0, hz1, hz2⟩ := info_parts infoRowC
  go_enter Tryd.func39, Tryd.ntmps39
  go_wp2_with (at_builtin; refine wpList_append_any _ rfl (.tmp 5) (.tmp 6) _ rfl w.heap.size 40 i0 _ 5 56 Tryd.underlying34 hi hz0 hz1 hz2 rfl (by omega) (.slice (some ⟨w.heap.size, 0, none⟩) 0 0) 0 [] rfl (World.ownsRow_made w #[] 0 (Nat.le_refl _) (by simp [maxLen]) rfl) (some ad) n c news rfl hl (hr _ ((Below.refl _ _).alloc (Nat.le_refl _) _)) h1 (by simp only [maxLen]; omega) (by omega) (by simp) ?_; intro v1 w1 hown1 hg1 hat1; simp only [Nat.zero_add, List.nil_append] at hown1)
  go_ret
  refine ⟨v1, rfl, hown1, ?_⟩
  refine ((Below.refl _ _).alloc (Nat.le_refl _) _).grown hg1 (by simp) (fun k hk => ?_)
  simp [Value.ownBlock] at hk
  omega
theorem clone_OC (N : List AV) (ho : ∀ x ∈ N, allOne x.cells = true) (hn : N.length ≤ 1000) : ACallsO Tryd.prog 39 [.sl 5 N] 40 5 N := by
  refine ⟨enter_of Tryd.func39 (by kernel_rfl) rfl, fun M w vs hlive hl ha => ?_⟩
  obtain ⟨v, rfl⟩ : ∃ v, vs = [v] := List.length_eq_one_iff.1 hl
  have hv := ha 0 _ v rfl rfl
  obtain ⟨A, c, news, rfl, e2, e3, e4, e5, e6, e7⟩ := sl_news hlive hv (by decide) ho
  rcases A with _ | ad
  · have h0 : N.length = 0 := by
      rcases Nat.eq_zero_or_pos N.length with h0 | h0
      · exact h0
      · obtain ⟨_, e, _⟩ := e3 h0; cases e
    have hN : N = [] := List.eq_nil_of_length_eq_zero h0
    subst hN
    have hnews : news = [] := List.eq_nil_of_length_eq_zero (by simpa using e2)
    subst hnews
    exact (clone_nilC c w).mono fun e w' ⟨he, hw⟩ => ⟨_, [], he, by subst hw; exact Below.refl _ _, nil_owns _ _ _ _, by simp, by simp, by simp⟩
  · refine (clone_someC ad c N.length news w e2 (fun w' hb h0 => ?_) e4 hn).mono fun e w' ⟨u, he, hown, hb⟩ => ⟨u, news, he, hb, hown, e6, e5, e7⟩
    obtain ⟨a, ea, hc⟩ := e3 h0
    refine ⟨a, ea, fun j u hj => ?_⟩
    have h1 := hc j u hj
    have hlt := block_lt_of_cell h1
    rw [← h1]
    exact World.cell?_of_block (hb.block _ hlt)
set_option maxHeartbeats 4000000 in
set_option maxRecDepth 100000 in
theorem ins_shiftC (g n c i vb vo vc : Nat) (cl us news : List Value) (w : World) (arr : Array Value) (ta : TypeId) (fr : Nat × Nat) (hi : i < n) (hroom : n + 1 ≤ c) (hc : c ≤ maxLen) (hg : w.heap[g]? = some (.cells ⟨cl⟩ 40 (0, 0))) (hcl : cl.length = c * 5) (hus : cl.take (n * 5) = us)
    (hv : w.heap[vb]? = some (.cells arr ta fr)) (hvb : vb ≠ g) (hnl : news.length = 5) (hnews : ∀ j v, news[j]? = some v → w.cell? ⟨vb, vo + j, none⟩ = some v) (h1u : ∀ v ∈ us, v.oneCell' = true) (h1n : ∀ v ∈ news, v.oneCell' = true) :
    Calls Tryd.prog 38 #[.slice (some ⟨g, 0, none⟩) n c, .int .i64 i, .slice (some ⟨vb, vo, none⟩) 1 vc] w fun e w' =>
      e = .returned (.slice (some ⟨g, 0, none⟩) (n + 1) c) ∧ w' = (w.drew.setCells g ((i + 1) * 5) (us.drop (i * 5))).setCells g (i * 5) news := by
  have hul : us.length = n * 5 := by rw [← hus, List.length_take]; omega
  have hz2 : ¬ ((i : Int) = (n : Int)) := by omega
  have hszT : ∀ w, (sizeOf 40).run Tryd.prog w = .ok 5 w := fun w => by
    obtain ⟨i0, hi0, hz0, hz1, hz2⟩ := info_parts infoRowC
    simp [sizeOf, typeInfo, hi0, hz1]
  have hsz : (Tryd.prog.info? 40).map (·.size) = some 5 := by
    obtain ⟨i0, hi0, hz0, hz1, hz2⟩ := info_parts infoRowC
    rw [hi0]; simp [hz1]
  have hsa : w.shape? vb = some (ta, arr.size) := by unfold World.shape?; rw [hv]
  have hcell : 0 < arr.size := by
    obtain ⟨v0, hv0⟩ := some_at (L := news) (k := 0) (by omega)
    have := hnews 0 v0 hv0
    rw [cell_of_row w vb (vo + 0) arr ta fr hv] at this
    have := (Array.getElem?_eq_some_iff.1 this).1
    omega
  have hfz : ∀ o, w.frozen? ⟨g, o, none⟩ = false := fun o => by unfold World.frozen?; simp [hg]
  have hce : ∀ o, o < cl.length → w.cell? ⟨g, o, none⟩ = cl[o]? := fun o ho => by rw [cell_of_row w g o ⟨cl⟩ 40 (0, 0) hg]; simp
  have hue : ∀ j v, us[j]? = some v → w.cell? ⟨g, j, none⟩ = some v := fun j v hj => by
    have hlt := lt_at hj
    rw [← hus, List.getElem?_take] at hj
    split at hj
    · rw [hce j (lt_at hj)]; exact hj
    · cases hj
  have hcp1 : ∀ ty dc sc, (Builtin.copy_ #[34, 34] ty #[.slice (some ⟨g, (i + 1) * 5, none⟩) (n - i) dc, .slice (some ⟨g, i * 5, none⟩) (n + 1 - i) sc]).run Tryd.prog w.drew = .ok (goInt (Nat.min (n + 1 - i) (n - i))) (w.drew.setCells g ((i + 1) * 5) (us.drop (i * 5))) := fun ty dc sc =>
    run_copy_k w.drew _ _ ty 40 5 g ((i + 1) * 5) (n - i) dc ⟨g, i * 5, none⟩ (n + 1 - i) sc (us.drop (i * 5)) Tryd.underlying34 hsz (by rw [List.length_drop, hul, show Nat.min (n + 1 - i) (n - i) = n - i by simp only [Nat.min_def]; split <;> omega]; omega)
      (fun j v hj => by rw [Addr.add_lit]; exact hue (i * 5 + j) v (by rwa [List.getElem?_drop] at hj))
      (fun j hj => by
        rw [List.length_drop, hul] at hj
        show (w.cell? _).isSome = true
        rw [hce _ (by omega), List.getElem?_eq_getElem (by omega)]; rfl)
      (fun j hj => hfz _) (fun v hv => h1u v (List.mem_of_mem_drop hv))
  obtain ⟨W1, hW1⟩ : ∃ W1, W1 = w.drew.setCells g ((i + 1) * 5) (us.drop (i * 5)) := ⟨_, rfl⟩
  have hsp1 : ∀ o, o < cl.length → (W1.cell? ⟨g, o, none⟩).isSome = true := fun o ho => by
    rw [hW1]
    exact isSome_setCells g _ _ _ (fun j hj => by
      rw [List.length_drop, hul] at hj
      show (w.cell? _).isSome = true
      rw [hce _ (by omega), List.getElem?_eq_getElem (by omega)]; rfl) _ (by show (w.cell? _).isSome = true; rw [hce _ ho, List.getElem?_eq_getElem ho]; rfl)
  have hcp2 : ∀ (W : World), (∀ x, W.cell? x = W1.cell? x) → (∀ x, W.frozen? x = W1.frozen? x) → ∀ ty dc, (Builtin.copy_ #[34, 34] ty #[.slice (some ⟨g, i * 5, none⟩) (n + 1 - i) dc, .slice (some ⟨vb, vo, none⟩) 1 vc]).run Tryd.prog W = .ok (goInt (Nat.min 1 (n + 1 - i))) (W.setCells g (i * 5) news) := fun W hWc hWf ty dc =>
    run_copy_k W _ _ ty 40 5 g (i * 5) (n + 1 - i) dc ⟨vb, vo, none⟩ 1 vc news Tryd.underlying34 hsz (by rw [hnl, show Nat.min 1 (n + 1 - i) = 1 by simp only [Nat.min_def]; split <;> omega])
      (fun j v hj => by
        rw [Addr.add_lit, hWc, hW1, World.cell?_setCells_out g _ _ _ _ (fun h _ => absurd h hvb)]
        exact hnews j v hj)
      (fun j hj => by rw [hWc]; exact hsp1 _ (by omega)) (fun j hj => by rw [hWf, hW1, World.frozen?_setCells]; exact hfz _) h1n
  rw [← hW1] at hcp1
  have hov : ∀ lb cb, (callFunc 60 #[.slice (some ⟨vb, vo, none⟩) 1 vc, .slice (some ⟨g, (i + 1) * 5, none⟩) lb cb]).run Tryd.prog w = .ok (.value (.bool false)) w := fun lb cb => by
    rw [run_callFunc_extern Tryd.func60 (by kernel_rfl) (by kernel_rfl) (by kernel_rfl) (e := Extern.SlicesOverlaps.overlaps #[34, 34] #[4]) (by kernel_rfl),
      run_overlaps_own w 34 4 40 Tryd.underlying34 5 hszT ⟨vb, vo, none⟩ ⟨g, (i + 1) * 5, none⟩ 1 vc lb cb hvb ta 40 arr.size ⟨cl⟩ hsa hg (by simp [hcl]; omega) (by have := hcell; omega)]
    rfl
  have mixed := mixd
  have hw1 : IntKind.i64.wrap ((i : Int) + 1) = (i : Int) + 1 := by rw [IntKind.wrap_i64]; unfold maxLen at hc; omega
  have hw2 : IntKind.i64.wrap ((n : Int) + 1) = (n : Int) + 1 := by rw [IntKind.wrap_i64]; unfold maxLen at hc; omega
  have hb1 : (0 : Int) ≤ (i : Int) + 1 := by omega
  have hin : i ≤ n := by omega
  have htn : ((i : Int) + 1).toNat = i + 1 := by omega
  have htn2 : ((n : Int) + 1).toNat = n + 1 := by omega
  have hb2 : ¬ (c = i + 1) := by omega
  have hb3 : (i : Int) ≤ (n : Int) + 1 := by omega
  have hb4 : ¬ (c = i) := by omega
  have hb5 : ¬ ((c : Int) < (n : Int) + 1) := by omega
  go_enter Tryd.func38, Tryd.ntmps38
  go_wp2_with (simp only [hov])
  go_region_law_o (refine step_copy_runI rfl _ _ 34 34 rfl _ _ (by simp [Act.eval, Act.put]) (by simp [Act.eval, Act.put]) (hcp1 _ _ _) ?_)
  go_wp2_with (at_builtin; refine wpList_copy_runI _ rfl _ _ 34 34 rfl _ _ rfl rfl (hcp2 _ (fun _ => rfl) (fun _ => rfl) _ _) ?_)
  go_ret
  first | exact ⟨rfl, rfl⟩ | exact ⟨rfl, by rw [hW1]⟩
set_option maxHeartbeats 4000000 in
set_option maxRecDepth 100000 in
theorem ins_growC (g n c i vb vo vc : Nat) (cl us news : List Value) (w : World) (hi : i < n) (hnc : n ≤ c) (hroom : c < n + 1) (hc : n ≤ 1000) (hg : w.heap[g]? = some (.cells ⟨cl⟩ 40 (0, 0))) (hcl : cl.length = c * 5) (hus : cl.take (n * 5) = us)
    (hvw : vb < w.heap.size) (hnl : news.length = 5) (hnews : ∀ j v, news[j]? = some v → w.cell? ⟨vb, vo + j, none⟩ = some v) (h1u : ∀ v ∈ us, v.oneCell' = true) (h1n : ∀ v ∈ news, v.oneCell' = true) :
    Calls Tryd.prog 38 #[.slice (some ⟨g, 0, none⟩) n c, .int .i64 i, .slice (some ⟨vb, vo, none⟩) 1 vc] w fun e w' =>
      ∃ (G : Nat) (ROW : Array Value), n + 1 ≤ G ∧ G ≤ maxLen ∧ ROW.size = G * 5 ∧ ROW.toList.take (i * 5) = us.take (i * 5) ∧ e = .returned (.slice (some ⟨w.heap.size, 0, none⟩) (n + 1) G) ∧
      w' = (((w.alloc (.cells ROW 40)).drew.setCells w.heap.size (i * 5) news).drew).setCells w.heap.size ((i + 1) * 5) (us.drop (i * 5)) := by
  have hul : us.length = n * 5 := by rw [← hus, List.length_take]; omega
  have hz2 : ¬ ((i : Int) = (n : Int)) := by omega
  have hz3 : (c : Int) < (n : Int) + 1 := by omega
  obtain ⟨i0, hi0, hz0, hzs, hzb⟩ := info_parts infoRowC
  have hszT : ∀ w, (sizeOf 40).run Tryd.prog w = .ok 5 w := fun w => by simp [sizeOf, typeInfo, hi0, hzs]
  have hsz : (Tryd.prog.info? 40).map (·.size) = some 5 := by rw [hi0]; simp [hzs]
  have hgw : g < w.heap.size := (Array.getElem?_eq_some_iff.1 hg).1
  have hce : ∀ o, o < cl.length → w.cell? ⟨g, o, none⟩ = cl[o]? := fun o ho => by rw [cell_of_row w g o ⟨cl⟩ 40 (0, 0) hg]; simp
  have hue : ∀ j v, us[j]? = some v → w.cell? ⟨g, j, none⟩ = some v := fun j v hj => by
    rw [← hus, List.getElem?_take] at hj
    split at hj
    · rw [hce j (lt_at hj)]; exact hj
    · cases hj
  have hkk : (n : Int) + 1 - (i : Int) = ((n + 1 - i : Nat) : Int) := by omega
  have hik : i + (n + 1 - i) = n + 1 := by omega
  have hold : (Builtin.firstCells i0.size i (.slice (some ⟨g, 0, none⟩) i c)).run Tryd.prog w.drew = .ok (us.take (i * 5)).toArray w.drew := by
    rw [hzs]
    exact run_firstCells_some w.drew 5 i ⟨g, 0, none⟩ i c (us.take (i * 5)) (by rw [List.length_take]; omega) (fun j v hj => by
      rw [Addr.add_lit, Nat.zero_add]
      rw [List.getElem?_take] at hj
      split at hj
      · exact hue j v hj
      · cases hj)
  have hrz : ∀ ty, (Builtin.append_ #[34, 3] ty #[.slice (some ⟨g, 0, none⟩) i c, .int .i64 ((n : Int) + 1 - (i : Int))]).run Tryd.prog w = .ok (.slice (some ⟨w.heap.size, 0, none⟩) (n + 1) (grownCap w (n + 1) c 40)) (w.drew.alloc (.cells ((us.take (i * 5)).toArray ++ Builtin.zeroCells (Value.agg #[.int .i64 0, .int .i64 0, .int .i64 0, .int .i64 0, .slice none 0 0]).cells (n + 1 - i) ++ Builtin.zeroCells (Value.agg #[.int .i64 0, .int .i64 0, .int .i64 0, .int .i64 0, .slice none 0 0]).cells (grownCap w (n + 1) c 40 - (n + 1))) 40)) := fun ty => by
    have h := Lib.run_append_grow_zeros w 34 3 ty 40 i0 _ .i64 .i64 Tryd.underlying34 Tryd.underlying3 hi0 hz0 (some ⟨g, 0, none⟩) i c (us.take (i * 5)) hold (n + 1 - i) (by omega) (by omega) (by omega) (by omega) (by rw [hzb]; omega) (by rw [hzb, hik]; exact growslice_fits hroom (by omega))
    rw [hik] at h
    rw [hkk]
    exact h
  obtain ⟨G, hG⟩ : ∃ G, G = grownCap w (n + 1) c 40 := ⟨_, rfl⟩
  have hGn : n + 1 ≤ G := by rw [hG]; exact grownCap_ge w _ _ _
  have hGm : G ≤ maxLen := by rw [hG]; exact grownCap_le_maxLen w (n + 1) c 40 (by unfold maxLen; omega)
  have hG63 : G ≤ 9223372036854775807 := by unfold maxLen at hGm; omega
  obtain ⟨ROW, hROW⟩ : ∃ ROW : Array Value, ROW = (us.take (i * 5)).toArray ++ Builtin.zeroCells (Value.agg #[.int .i64 0, .int .i64 0, .int .i64 0, .int .i64 0, .slice none 0 0]).cells (n + 1 - i) ++ Builtin.zeroCells (Value.agg #[.int .i64 0, .int .i64 0, .int .i64 0, .int .i64 0, .slice none 0 0]).cells (G - (n + 1)) := ⟨_, rfl⟩
  rw [← hG] at hrz
  rw [← hROW] at hrz
  have hRl : ROW.size = G * 5 := by
    rw [hROW]
    simp [Builtin.zeroCells, Value.cells]
    omega
  have hRt : ROW.toList.take (i * 5) = us.take (i * 5) := by
    rw [hROW]
    have hl : (us.take (i * 5)).length = i * 5 := by rw [List.length_take]; omega
    simp only [Array.toList_append, List.append_assoc]
    rw [List.take_append_of_le_length (by simp [hl]), List.take_of_length_le (by simp [hl])]
  obtain ⟨W1, hW1⟩ : ∃ W1, W1 = w.drew.alloc (.cells ROW 40) := ⟨_, rfl⟩
  rw [← hW1] at hrz
  have hN : ∀ j, j < (n + 1) * 5 → (W1.cell? ⟨w.heap.size, j, none⟩).isSome = true := fun j hj => by
    rw [hW1, World.cell?_alloc_at (w := w.drew) ROW _ w.heap.size j rfl, Array.getElem?_eq_getElem (by rw [hRl]; omega)]; rfl
  have hNf : ∀ j, W1.frozen? ⟨w.heap.size, j, none⟩ = false := fun j => by rw [hW1]; exact World.frozen?_alloc_at (w := w.drew) ROW _ w.heap.size j rfl
  have hOb : ∀ j v, w.cell? ⟨g, j, none⟩ = some v → W1.cell? ⟨g, j, none⟩ = some v := fun j v h => by rw [hW1, World.cell?_alloc_past (w := w.drew) _ g j hgw]; exact h
  have hOv : ∀ j v, w.cell? ⟨vb, j, none⟩ = some v → W1.cell? ⟨vb, j, none⟩ = some v := fun j v h => by rw [hW1, World.cell?_alloc_past (w := w.drew) _ vb j hvw]; exact h
  have hcpA : ∀ (W : World), (∀ x, W.cell? x = W1.cell? x) → (∀ x, W.frozen? x = W1.frozen? x) → ∀ ty dc, (Builtin.copy_ #[34, 34] ty #[.slice (some ⟨w.heap.size, i * 5, none⟩) (n + 1 - i) dc, .slice (some ⟨vb, vo, none⟩) 1 vc]).run Tryd.prog W = .ok (goInt (Nat.min 1 (n + 1 - i))) (W.setCells w.heap.size (i * 5) news) := fun W hWc hWf ty dc =>
    run_copy_k W _ _ ty 40 5 w.heap.size (i * 5) (n + 1 - i) dc ⟨vb, vo, none⟩ 1 vc news Tryd.underlying34 hsz (by rw [hnl, show Nat.min 1 (n + 1 - i) = 1 by simp only [Nat.min_def]; split <;> omega])
      (fun j v hj => by rw [Addr.add_lit, hWc]; exact hOv _ v (hnews j v hj))
      (fun j hj => by rw [hWc]; exact hN _ (by omega)) (fun j hj => by rw [hWf]; exact hNf _) h1n
  have hGi : ¬ (G = i) := by omega
  have hGim : ¬ (G = i + 1) := by omega
  have hci : ¬ (c = i) := by omega
  have hbN : g ≠ w.heap.size := by omega
  have hdl : (us.drop (i * 5)).length = (n - i) * 5 := by (rw [List.length_drop, hul]) <;> omega
  have hcpB : ∀ (W : World), (∀ x, W.cell? x = (W1.setCells w.heap.size (i * 5) news).cell? x) → (∀ x, W.frozen? x = (W1.setCells w.heap.size (i * 5) news).frozen? x) → ∀ ty dc sc, (Builtin.copy_ #[34, 34] ty #[.slice (some ⟨w.heap.size, (i + 1) * 5, none⟩) (n - i) dc, .slice (some ⟨g, i * 5, none⟩) (n - i) sc]).run Tryd.prog W = .ok (goInt (Nat.min (n - i) (n - i))) (W.setCells w.heap.size ((i + 1) * 5) (us.drop (i * 5))) := fun W hWc hWf ty dc sc =>
    run_copy_k W _ _ ty 40 5 w.heap.size ((i + 1) * 5) (n - i) dc ⟨g, i * 5, none⟩ (n - i) sc (us.drop (i * 5)) Tryd.underlying34 hsz (by (rw [hdl, show Nat.min (n - i) (n - i) = n - i by simp only [Nat.min_def]; split <;> omega]) <;> omega)
      (fun j v hj => by
        rw [Addr.add_lit, hWc, World.cell?_setCells_out _ _ _ _ _ (fun h _ => absurd h hbN)]
        exact hOb _ v (hue (i * 5 + j) v (by rwa [List.getElem?_drop] at hj)))
      (fun j hj => by rw [hWc]; exact isSome_setCells _ _ _ _ (fun t ht => hN _ (by omega)) _ (hN _ (by omega)))
      (fun j hj => by rw [hWf, World.frozen?_setCells]; exact hNf _) (fun v hv => h1u v (List.mem_of_mem_drop hv))
  subst hW1
  have hE1 : ∀ x, ((w.alloc (.cells ROW 40)).drew).cell? x = (w.drew.alloc (.cells ROW 40)).cell? x := fun x => rfl
  have hE2 : ∀ x, ((w.alloc (.cells ROW 40)).drew).frozen? x = (w.drew.alloc (.cells ROW 40)).frozen? x := fun x => rfl
  have hF1 : ∀ x, (((w.alloc (.cells ROW 40)).drew.setCells w.heap.size (i * 5) news).drew).cell? x = ((w.drew.alloc (.cells ROW 40)).setCells w.heap.size (i * 5) news).cell? x := fun x => rfl
  have hF2 : ∀ x, (((w.alloc (.cells ROW 40)).drew.setCells w.heap.size (i * 5) news).drew).frozen? x = ((w.drew.alloc (.cells ROW 40)).setCells w.heap.size (i * 5) news).frozen? x := fun x => rfl
  have mixed := mixd
  have hw1 : IntKind.i64.wrap ((i : Int) + 1) = (i : Int) + 1 := by rw [IntKind.wrap_i64]; omega
  have hw2 : IntKind.i64.wrap ((n : Int) + 1) = (n : Int) + 1 := by rw [IntKind.wrap_i64]; omega
  have hw3 : IntKind.i64.wrap ((n : Int) + 1 - (i : Int)) = (n : Int) + 1 - (i : Int) := by rw [IntKind.wrap_i64]; omega
  have hb1 : (0 : Int) ≤ (i : Int) + 1 := by omega
  have hin : i ≤ n := by omega
  have htn : ((i : Int) + 1).toNat = i + 1 := by omega
  have hb3 : (i : Int) ≤ (n : Int) := by omega
  have hfin : (fun (_ : Unit) => n + 1 ≤ G ∧ G ≤ maxLen ∧ ROW.size = G * 5 ∧ ROW.toList.take (i * 5) = us.take (i * 5)) () := ⟨hGn, hGm, hRl, hRt⟩
  clear hkk hik hold hROW hG hRl hRt
  go_enter Tryd.func38, Tryd.ntmps38
  go_wp2_with (first
    | (at_builtin; refine Lib.wpList_append_run _ rfl _ _ _ _ rfl _ _ rfl rfl _ _ (hrz _) ?_)
    | (at_builtin; refine wpList_copy_runI _ rfl _ _ 34 34 rfl _ _ rfl rfl (hcpA _ hE1 hE2 _ _) ?_)
    | (at_builtin; refine wpList_copy_runI _ rfl _ _ 34 34 rfl _ _ rfl rfl (hcpB _ (fun _ => rfl) (fun _ => rfl) _ _ _) ?_))
  go_region_law_o (refine step_copy_runI rfl _ _ 34 34 rfl (.slice (some ⟨w.heap.size, (i + 1) * 5, none⟩) (n - i) (G - (i + 1))) (.slice (some ⟨g, i * 5, none⟩) (n - i) (c - i)) (by simp [Act.eval, Act.put]) (by simp [Act.eval, Act.put]) (hcpB _ hF1 hF2 3 (G - (i + 1)) (c - i)) ?_)
  go_wp2
  go_ret
  exact ⟨G, ROW, hfin.1, hfin.2.1, hfin.2.2.1, hfin.2.2.2, rfl, rfl⟩
set_option maxHeartbeats 4000000 in
set_option maxRecDepth 100000 in
theorem ins_endC (n b vb vo vc : Nat) (u : Value) (us news : List Value) (w : World) (hown : w.ownsRow b 40 5 u n us) (hb : b ≤ w.heap.size) (hn : n ≤ 1000)
    (hnl : news.length = 5) (hnews : ∀ j v, news[j]? = some v → w.cell? ⟨vb, vo + j, none⟩ = some v) (h1n : ∀ v ∈ news, v.oneCell' = true) :
    Calls Tryd.prog 38 #[u, .int .i64 n, .slice (some ⟨vb, vo, none⟩) 1 vc] w fun e w' => ∃ v, e = .returned v ∧ w'.ownsRow b 40 5 v (n + 1) (us ++ news) ∧ w.grownBy w' u.ownBlock ∧ (v.ownBlock = u.ownBlock ∨ v.ownBlock = some w.heap.size) := by
  obtain ⟨i0, hi, hz0, hz1, hz2⟩ := info_parts infoRowC
  have hszT : ∀ w, (sizeOf 40).run Tryd.prog w = .ok 5 w := fun w => by simp [sizeOf, typeInfo, hi, hz1]
  have hown' := hown
  rcases hown.2 with ⟨rfl, rfl⟩ | ⟨g, cap, cur, rfl, e2, e3, e4, e5, e6, e7⟩
  · have hus : us = [] := List.eq_nil_of_length_eq_zero (by simpa using hown.1)
    subst hus
    go_enter Tryd.func38, Tryd.ntmps38
    go_wp2_with (at_builtin; refine wpList_append_any _ rfl (.tmp 23) (.tmp 24) _ rfl b 40 i0 _ 5 56 Tryd.underlying34 hi hz0 hz1 hz2 rfl (by omega) (.slice none 0 0) 0 [] rfl hown' (some ⟨vb, vo, none⟩) 1 vc news rfl hnl (fun _ => ⟨_, rfl, fun j u hj => by rw [Addr.add_lit]; exact hnews j u hj⟩) h1n (by simp only [maxLen]; omega) (by omega) hb ?_; intro v1 w1 hown1 hg1 hat1; simp only [Nat.zero_add, List.nil_append] at hown1)
    go_ret
    exact ⟨v1, rfl, hown1, hg1, hat1⟩
  · go_enter Tryd.func38, Tryd.ntmps38
    go_wp2_with (at_builtin; refine wpList_append_any _ rfl (.tmp 23) (.tmp 24) _ rfl b 40 i0 _ 5 56 Tryd.underlying34 hi hz0 hz1 hz2 rfl (by omega) (.slice (some ⟨g, 0, none⟩) n cap) n us rfl hown' (some ⟨vb, vo, none⟩) 1 vc news rfl hnl (fun _ => ⟨_, rfl, fun j u hj => by rw [Addr.add_lit]; exact hnews j u hj⟩) h1n (by simp only [maxLen]; omega) (by omega) hb ?_; intro v1 w1 hown1 hg1 hat1)
    all_goals (go_ret; exact ⟨v1, rfl, hown1, hg1, hat1⟩)
/-- slices.Insert of one row, into rows of the caller's own. -/
theorem insert_IC (L : List AV) (x : AV) (i : Nat) (hi : i ≤ L.length) (hL : L.length ≤ 999) (hxo : allOne x.cells = true) : ACallsI Tryd.prog 38 40 5 L [.v (.int .i64 i), .sl 5 [x]] (L.take i ++ [x] ++ L.drop i) := by
  refine ⟨enter_of Tryd.func38 (by kernel_rfl) rfl, fun M w b u us vs hlive hown hb hM hul hsz hrep hl ha => ?_⟩
  obtain ⟨v1, v2, rfl⟩ : ∃ v1 v2, vs = [v1, v2] := by
    match vs, hl with
    | [a, b], _ => exact ⟨a, b, rfl⟩
  have h1 := (ha 0 _ v1 rfl rfl).v_inv
  subst h1
  have h2 := ha 1 _ v2 rfl rfl
  obtain ⟨A, c, us2, rfl, q2, q3, q4, q5⟩ := h2.sl_inv
  obtain ⟨hx4, vb, vo, arr, rfl, hMv, -⟩ := q5 0 x rfl
  obtain ⟨A, c', news, e1, e2, e3, e4, e5, e6, e7⟩ := sl_news hlive h2 (by decide) (fun y hy => by obtain rfl := List.mem_singleton.1 hy; exact hxo)
  injection e1 with e1 e1' e1''
  subst e1
  obtain ⟨ad, had, hcell⟩ := e3 (by simp)
  injection had with had
  subst had
  have hnews : ∀ j v, news[j]? = some v → w.cell? ⟨vb, vo + j, none⟩ = some v := fun j v hj => by have := hcell j v hj; rwa [Addr.add_lit] at this
  have hnl : news.length = 5 := e2
  obtain ⟨ta, fr, hvh⟩ := hlive vb arr hMv
  have hvw : vb < w.heap.size := (Array.getElem?_eq_some_iff.1 hvh).1
  obtain ⟨ft, fd⟩ := flat_take L i hsz
  have hul4 : us.length = L.length * 5 := by have := hown.1; omega
  have hflat : (L.take i ++ [x] ++ L.drop i).flatMap AV.cells = (L.flatMap AV.cells).take (i * 5) ++ x.cells ++ (L.flatMap AV.cells).drop (i * 5) := by
    rw [List.flatMap_append, List.flatMap_append, ft, fd]; simp
  have hlen' : (L.take i ++ [x] ++ L.drop i).length = L.length + 1 := by simp; omega
  have hcells : ∀ y ∈ L.take i ++ [x] ++ L.drop i, y.cells.length = 5 := fun y hy => by
    rcases List.mem_append.1 hy with hy | hy
    · rcases List.mem_append.1 hy with hy | hy
      · exact hsz y (List.mem_of_mem_take hy)
      · obtain rfl := List.mem_singleton.1 hy; exact hx4
    · exact hsz y (List.mem_of_mem_drop hy)
  have hus1 : ∀ v ∈ us, v.oneCell' = true := fun v hv => by
    obtain ⟨j, hj⟩ := List.getElem?_of_mem hv
    obtain ⟨z, hz⟩ := some_at (L := L.flatMap AV.cells) (k := j) (by have := lt_at hj; omega)
    exact (hrep j z v hz hj).2
  have hrel : ∀ (j : Nat) (z : AV) (y : Value), ((L.take i ++ [x] ++ L.drop i).flatMap AV.cells)[j]? = some z → (us.take (i * 5) ++ news ++ us.drop (i * 5))[j]? = some y → Rep M noρ z y ∧ y.oneCell' = true := by
    rw [hflat]
    refine rel_ins hul.symm (by rw [hnl, hx4]) hrep (fun j z y a b => e7 j z y (by simpa using a) b)
  have hlus : (us.take (i * 5) ++ news ++ us.drop (i * 5)).length = ((L.take i ++ [x] ++ L.drop i).flatMap AV.cells).length := by
    rw [hflat]
    simp only [List.length_append, List.length_take, List.length_drop, hnl, hx4, hul]
  unfold InsPost
  rw [hlen']
  rcases Nat.lt_or_ge i L.length with hlt | hge
  · rcases hown.2 with ⟨rfl, h0⟩ | ⟨g, cap, cur, rfl, f2, f3, f4, f5, f6, f7⟩
    · omega
    · obtain ⟨cl⟩ := cur
      have f6' : cl.length = cap * 5 := by have h9 : cl.length = cap *5 := f6; omega
      have f7' : cl.take (L.length * 5) = us := by have h9 : cl.take (L.length *5) = us := f7; simpa only [Nat.mul_one] using h9
      have hne : vb ≠ g := by
        rintro rfl
        have := hM vb rfl
        rw [hMv] at this
        cases this
      rcases Nat.lt_or_ge cap (L.length + 1) with hcap | hcap
      · refine (ins_growC g L.length cap i vb vo c cl us news w hlt f4 hcap (by omega) f3 f6' f7' hvw hnl hnews hus1 e4).mono ?_
        rintro en w' ⟨G, ROW, g1, g2, g3, g4, rfl, rfl⟩
        have hgs : (w.alloc (.cells ROW 40)).heap[w.heap.size]? = some (.cells ⟨ROW.toList⟩ 40 (0, 0)) := by rw [heap_alloc_new w _]
        have b1 := blk_setCells (g := w.heap.size) news ROW.toList (i * 5) (w.alloc (.cells ROW 40)).drew hgs
        have b2 := blk_setCells (g := w.heap.size) (us.drop (i * 5)) (putL ROW.toList (i * 5) news) ((i + 1) * 5) ((w.alloc (.cells ROW 40)).drew.setCells w.heap.size (i * 5) news).drew b1
        refine ⟨_, us.take (i * 5) ++ news ++ us.drop (i * 5), rfl, ⟨by simp only [List.length_append, List.length_take, List.length_drop, hnl, hul4]; omega, .inr ⟨w.heap.size, G, _, rfl, hb, b2, g1, g2, by show (putL _ _ _).length = _; rw [putL_length, putL_length]; have h9 : ROW.toList.length = G * 5 := g3; omega, ?_⟩⟩, ?_, .inr ⟨w.heap.size, Nat.le_refl _, rfl⟩, hlus, hcells, hrel⟩
        · have := ins_cells2 ROW.toList us news (i * 5) 5 (L.length * 5) g4 hul4 (by omega) hnl (by rw [show ROW.toList.length = G * 5 from g3]; omega)
          have e9 : (L.length + 1) *5 = L.length * 5 + 5 := by omega
          have e8 : (i + 1) * 5 = i * 5 + 5 := by omega
          rw [e9, e8]
          exact this
        · have z0 : w.grownBy (w.alloc (.cells ROW 40)).drew (some g) := by
            have := World.grownBy_alloc w (.cells ROW 40) (some g)
            exact ⟨this.os, this.tape, this.output, this.size, this.block⟩
          have z1 := grown_set z0 (.inl (Nat.le_refl _)) (i * 5) news
          have z2 : w.grownBy ((w.alloc (.cells ROW 40)).drew.setCells w.heap.size (i * 5) news).drew (some g) := ⟨z1.os, z1.tape, z1.output, z1.size, z1.block⟩
          exact grown_set z2 (.inl (Nat.le_refl _)) ((i + 1) * 5) (us.drop (i * 5))
      · refine (ins_shiftC g L.length cap i vb vo c cl us news w arr ta fr hlt hcap f5 f3 f6' f7' hvh hne hnl hnews hus1 e4).mono ?_
        rintro en w' ⟨rfl, rfl⟩
        have b1 := blk_setCells (g := g) (us.drop (i * 5)) cl ((i + 1) * 5) w.drew f3
        have b2 := blk_setCells (g := g) news (putL cl ((i + 1) * 5) (us.drop (i * 5))) (i * 5) (w.drew.setCells g ((i + 1) * 5) (us.drop (i * 5))) b1
        refine ⟨_, us.take (i * 5) ++ news ++ us.drop (i * 5), rfl, ⟨by simp only [List.length_append, List.length_take, List.length_drop, hnl, hul4]; omega, .inr ⟨g, cap, _, rfl, f2, b2, hcap, f5, by show (putL _ _ _).length = _; rw [putL_length, putL_length]; omega, ?_⟩⟩, ?_, .inl rfl, hlus, hcells, hrel⟩
        · have := ins_cells cl us news (i * 5) 5 (L.length * 5) f7' (by omega) (by omega) hnl (by omega)
          have e9 : (L.length + 1) *5 = L.length * 5 + 5 := by omega
          have e8 : (i + 1) * 5 = i * 5 + 5 := by omega
          rw [e9, e8]
          exact this
        · have z0 : w.grownBy w.drew (some g) := ⟨rfl, rfl, rfl, Nat.le_refl _, fun _ _ _ => rfl⟩
          exact grown_set (grown_set z0 (.inr rfl) _ _) (.inr rfl) _ _
  · obtain rfl : i = L.length := by omega
    refine (ins_endC L.length b vb vo c u us news w hown hb (by omega) hnl hnews e4).mono ?_
    rintro en w' ⟨v, rfl, o1, o2, o3⟩
    have e : us.take (L.length * 5) ++ news ++ us.drop (L.length * 5) = us ++ news := by
      rw [List.take_of_length_le (by omega), List.drop_of_length_le (by omega), List.append_nil]
    rw [e] at hrel hlus
    exact ⟨v, us ++ news, rfl, o1, o2, o3.imp id fun h => ⟨_, Nat.le_refl _, h⟩, hlus, hcells, hrel⟩
def zcsC : List Value := [.int .i64 0, .int .i64 0, .int .i64 0, .int .i64 0, .slice none 0 0]
set_option maxHeartbeats 4000000 in
set_option maxRecDepth 100000 in
theorem del_coreC (g n c i : Nat) (cl us : List Value) (w : World) (hi : i < n) (hnc : n ≤ c) (hc : c ≤ maxLen) (hg : w.heap[g]? = some (.cells ⟨cl⟩ 40 (0, 0))) (hcl : cl.length = c * 5) (hus : cl.take (n * 5) = us) (h1u : ∀ v ∈ us, v.oneCell' = true) :
    Calls Tryd.prog 40 #[.slice (some ⟨g, 0, none⟩) n c, .int .i64 i, .int .i64 ((i : Int) + 1)] w fun e w' =>
      e = .returned (.slice (some ⟨g, 0, none⟩) (n - 1) c) ∧ w' = (w.drew.setCells g (0 + i *5) (us.drop ((i + 1) * 5))).setCells g ((n - 1) * 5) zcsC := by
  have hul : us.length = n * 5 := by rw [← hus, List.length_take]; omega
  obtain ⟨i0, hi0, hz0, hz1, hz2⟩ := info_parts infoRowC
  have hfz : ∀ o, w.frozen? ⟨g, o, none⟩ = false := fun o => by unfold World.frozen?; simp [hg]
  have hce : ∀ o, o < cl.length → w.cell? ⟨g, o, none⟩ = cl[o]? := fun o ho => by rw [cell_of_row w g o ⟨cl⟩ 40 (0, 0) hg]; simp
  have hue : ∀ j v, us[j]? = some v → w.cell? ⟨g, j, none⟩ = some v := fun j v hj => by
    rw [← hus, List.getElem?_take] at hj
    split at hj
    · rw [hce j (lt_at hj)]; exact hj
    · cases hj
  have hsome : ∀ o, o < c * 5 → (w.cell? ⟨g, o, none⟩).isSome = true := fun o ho => by rw [hce o (by omega), List.getElem?_eq_getElem (by omega)]; rfl
  obtain ⟨news, hnews⟩ : ∃ news, news = us.drop ((i + 1) * 5) := ⟨_, rfl⟩
  have hlen : news.length = (n - (i + 1)) * 5 := by (rw [hnews, List.length_drop, hul]) <;> omega
  obtain ⟨AD, hA, hsrc⟩ : ∃ AD : Addr, (if c = i + 1 then some (⟨g, 0, none⟩ : Addr) else some ⟨g, (i + 1) * 5, none⟩) = some AD ∧ Hid (∀ t u, news[t]? = some u → w.drew.cell? (AD.add t) = some u) := by
    by_cases h : c = i + 1
    · refine ⟨⟨g, 0, none⟩, by simp [h], fun t u hu => ?_⟩
      have h0 : news.length = 0 := by rw [hlen]; omega
      rw [List.length_eq_zero_iff.1 h0] at hu
      simp at hu
    · refine ⟨⟨g, (i + 1) * 5, none⟩, by simp [h], fun t u hu => ?_⟩
      rw [hnews, List.getElem?_drop] at hu
      rw [Addr.add_lit]
      exact hue _ u hu
  have s1 : Hid (news.length = (n - (i + 1)) *5) := by show news.length = _; omega
  have s2 : Hid (∀ u ∈ news, u.oneCell' = true) := fun u hu => h1u u (by rw [hnews] at hu; exact List.mem_of_mem_drop hu)
  have s3 : Hid (∀ t, t < news.length → (w.drew.cell? ⟨g, 0 + i *5 + t, none⟩).isSome = true ∧ w.drew.frozen? ⟨g, 0 + i *5 + t, none⟩ = false) := fun t ht => by
    rw [hlen] at ht
    exact ⟨by show (w.cell? _).isSome = true; exact hsome _ (by omega), hfz _⟩
  obtain ⟨W1, hW1⟩ : ∃ W1, W1 = w.drew.setCells g (0 + i *5) news := ⟨_, rfl⟩
  have hsp1 : ∀ o, o < c * 5 → (W1.cell? ⟨g, o, none⟩).isSome = true := fun o ho => by
    rw [hW1]
    exact isSome_setCells g _ _ _ (fun j hj => (s3.out j hj).1) _ (by show (w.cell? _).isSome = true; exact hsome o ho)
  have hfz1 : ∀ o, W1.frozen? ⟨g, o, none⟩ = false := fun o => by rw [hW1, World.frozen?_setCells]; exact hfz o
  have hzv : ∀ w, (zeroValue 40).run Tryd.prog w = .ok (Value.agg #[.int .i64 0, .int .i64 0, .int .i64 0, .int .i64 0, .slice none 0 0]) w := fun w => by simp [zeroValue, typeInfo, hi0, hz0]
  have hzl : (Builtin.zeroCells (Value.cells (Value.agg #[.int .i64 0, .int .i64 0, .int .i64 0, .int .i64 0, .slice none 0 0])) (n - (i + (n - (i + 1))))).toList = zcsC := by
    rw [show n - (i + (n - (i + 1))) = 1 by omega]
    kernel_rfl
  have hzlen : zcsC.length = 5 := rfl
  have hcl : ∀ ty, (Builtin.clear_ #[34] ty #[.slice (some ⟨g, (i + (n - (i + 1))) * 5, none⟩) (n - (i + (n - (i + 1)))) (c - (i + (n - (i + 1))))]).run Tryd.prog W1 = .ok (.tuple #[]) (W1.setCells g ((i + (n - (i + 1))) * 5) zcsC) :=
    fun ty => run_clear_k W1 34 40 ty (Value.agg #[.int .i64 0, .int .i64 0, .int .i64 0, .int .i64 0, .slice none 0 0]) Tryd.underlying34 hzv g _ _ _ zcsC hzl (by decide) (by omega) (fun j hj => hsp1 _ (by omega)) (fun j hj => hfz1 _)
  have hW : Hid (W1 = w.drew.setCells g (0 + i *5) news) := hW1
  have hN : Hid (news = us.drop ((i + 1) * 5)) := hnews
  have hic : i ≤ c := by omega
  have hjc : i + 1 ≤ c := by omega
  have hin : i ≤ n := by omega
  have hne : ¬ ((i : Int) = (i : Int) + 1) := by omega
  have hle : (i : Int) ≤ (i : Int) + 1 := by omega
  have hle2 : (i : Int) + 1 ≤ (n : Int) := by omega
  have htn : ((i : Int) + 1).toNat = i + 1 := by omega
  have hb1 : (0 : Int) ≤ (i : Int) + 1 := by omega
  have hb2 : ¬ c = i + (n - (i + 1)) := by omega
  have mixed := mixd
  clear hW1 hnews hlen hsp1 hfz1 hsome hue hce hfz hzl hzv
  go_enter Tryd.func40, Tryd.ntmps40
  go_wp2_with fail
  go_region_law_o (refine step_append_room rfl (.tmp 22) (.tmp 25) 34 rfl 40 i0 5 Tryd.underlying34 hi0 hz1 g 0 i c (by simp [Act.eval, Act.put]) AD (n - (i + 1)) (c - (i + 1)) news (by simp [Act.eval, Act.put] <;> first | exact hA | (rw [htn]; exact hA)) s1.out hsrc.out s2.out (by omega) s3.out ?_; rw [← hW.out])
  go_wp2
  go_ret
  refine ⟨by rw [show i + (n - (i + 1)) = n - 1 by omega]; rfl, ?_⟩
  rw [← hN.out, hW.out, show i + (n - (i + 1)) = n - 1 by omega]
/-- slices.Delete of one element, out of a slice of the caller's own. -/
theorem delete_IC (L : List AV) (i : Nat) (hi : i < L.length) : ACallsI Tryd.prog 40 40 5 L [.v (.int .i64 i), .v (.int .i64 ((i : Int) + 1))] (L.take i ++ L.drop (i + 1)) := by
  refine ⟨enter_of Tryd.func40 (by kernel_rfl) rfl, fun M w b u us vs hlive hown hb hM hul hsz hrep hl ha => ?_⟩
  obtain ⟨v1, v2, rfl⟩ : ∃ v1 v2, vs = [v1, v2] := by
    match vs, hl with
    | [a, b], _ => exact ⟨a, b, rfl⟩
  have h1 := (ha 0 _ v1 rfl rfl).v_inv
  subst h1
  have h2 := (ha 1 _ v2 rfl rfl).v_inv
  subst h2
  obtain ⟨ft, -⟩ := flat_take L i hsz
  obtain ⟨-, fd⟩ := flat_take L (i + 1) hsz
  have hul4 : us.length = L.length * 5 := by have := hown.1; omega
  have hflat : (L.take i ++ L.drop (i + 1)).flatMap AV.cells = (L.flatMap AV.cells).take (i * 5) ++ (L.flatMap AV.cells).drop ((i + 1) * 5) := by
    (rw [List.flatMap_append, ft, fd]) <;> simp only [Nat.mul_one]
  have hlen' : (L.take i ++ L.drop (i + 1)).length = L.length - 1 := by simp; omega
  have hcells : ∀ y ∈ L.take i ++ L.drop (i + 1), y.cells.length = 5 := fun y hy => by
    rcases List.mem_append.1 hy with hy | hy
    · exact hsz y (List.mem_of_mem_take hy)
    · exact hsz y (List.mem_of_mem_drop hy)
  have hus1 : ∀ v ∈ us, v.oneCell' = true := fun v hv => by
    obtain ⟨j, hj⟩ := List.getElem?_of_mem hv
    obtain ⟨z, hz⟩ := some_at (L := L.flatMap AV.cells) (k := j) (by have := lt_at hj; omega)
    exact (hrep j z v hz hj).2
  have hrel : ∀ (j : Nat) (z : AV) (y : Value), ((L.take i ++ L.drop (i + 1)).flatMap AV.cells)[j]? = some z → (us.take (i * 5) ++ us.drop ((i + 1) * 5))[j]? = some y → Rep M noρ z y ∧ y.oneCell' = true := by
    rw [hflat]
    exact rel_del hul.symm hrep
  have hlus : (us.take (i * 5) ++ us.drop ((i + 1) * 5)).length = ((L.take i ++ L.drop (i + 1)).flatMap AV.cells).length := by
    rw [hflat]
    simp only [List.length_append, List.length_take, List.length_drop, hul]
  unfold InsPost
  rw [hlen']
  rcases hown.2 with ⟨rfl, h0⟩ | ⟨g, cap, cur, rfl, f2, f3, f4, f5, f6, f7⟩
  · omega
  obtain ⟨cl⟩ := cur
  have f6' : cl.length = cap * 5 := by have h9 : cl.length = cap *5 := f6; omega
  have f7' : cl.take (L.length * 5) = us := by have h9 : cl.take (L.length *5) = us := f7; simpa only [Nat.mul_one] using h9
  refine (del_coreC g L.length cap i cl us w hi f4 f5 f3 f6' f7' hus1).mono ?_
  rintro en w' ⟨rfl, rfl⟩
  have b1 := blk_setCells (g := g) (us.drop ((i + 1) * 5)) cl (0 + i *5) w.drew f3
  have b2 := blk_setCells (g := g) zcsC (putL cl (0 + i *5) (us.drop ((i + 1) * 5))) ((L.length - 1) * 5) (w.drew.setCells g (0 + i *5) (us.drop ((i + 1) * 5))) b1
  refine ⟨_, us.take (i * 5) ++ us.drop ((i + 1) * 5), rfl, ⟨by simp only [List.length_append, List.length_take, List.length_drop, hul4]; omega, .inr ⟨g, cap, _, rfl, f2, b2, by omega, f5, by show (putL _ _ _).length = _; rw [putL_length, putL_length]; omega, ?_⟩⟩, ?_, .inl rfl, hlus, hcells, hrel⟩
  · have := del_cells cl us zcsC (i * 5) 5 (L.length * 5) f7' (by rw [f6']; omega) (by omega) rfl
    have e9 : (L.length - 1) *5 = L.length * 5 - 5 := by omega
    have e8 : (i + 1) * 5 = i * 5 + 5 := by omega
    have e7 : (L.length - 1) * 5 = L.length * 5 - 5 := by omega
    first | rw [e9, e8, e7, Nat.zero_add] | rw [e9, e8, Nat.zero_add]
    first | exact this | simpa only [Nat.mul_one] using this
  · have z0 : w.grownBy w.drew (some g) := ⟨rfl, rfl, rfl, Nat.le_refl _, fun _ _ _ => rfl⟩
    exact grown_set (grown_set z0 (.inr rfl) _ _) (.inr rfl) _ _
end Go.Proofs.YtamihjgfncjdoaaDoor
