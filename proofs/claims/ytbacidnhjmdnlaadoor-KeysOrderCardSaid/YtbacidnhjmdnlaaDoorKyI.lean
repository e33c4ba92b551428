/- slices.Insert at rows: one element laid into a slice of the caller's own; conditions: none. -/
import Derived.Test.YtbacidnhjmdnlaaDoorInsA
import Derived.Test.YtbacidnhjmdnlaaDoorKyF
set_option linter.unusedVariables false
set_option linter.unusedSimpArgs false
namespace Go.Proofs.YtbacidnhjmdnlaaDoor
open Go Go.RowKit
theorem run_overlaps_own {P : Program} (w : World) (tS tR e : TypeId) (ht : P.underlying tS = some (.slice e)) (size : Nat) (hz : ∀ w, (Go.sizeOf e).run P w = .ok size w)
    (a b : Addr) (la ca lb cb : Nat) (hne : a.block ≠ b.block) (tA tB : TypeId) (kA : Nat) (cl : Array Value) (hsa : w.shape? a.block = some (tA, kA)) (hb : w.heap[b.block]? = some (.cells cl tB (0, 0))) (hcl : cl.size ≠ 0) (hkA : kA ≠ 0) :
    (Extern.SlicesOverlaps.overlaps #[tS, tS] #[tR] #[.slice (some a) la ca, .slice (some b) lb cb]).run P w = .ok (.bool false) w := by
  have hnb : (a.block != b.block) = true := by simpa using hne
  have hnb' : (a.block == b.block) = false := by simpa using hne
  have hsb : w.shape? b.block = some (tB, cl.size) := by unfold World.shape?; rw [hb]
  have hfb : ∀ o s, w.frozen? ⟨b.block, o, s⟩ = false := fun o s => by unfold World.frozen?; simp [hb]
  have hfb0 : w.frozen? b = false := hfb b.off b.spot
  change Sem.run P (α := Value) (do
    let some t := (#[tS, tS] : Array TypeId)[0]? | stuck "slices.overlaps: no parameter types"
    let .slice elem ← underlying t | stuck "slices.overlaps: slice type expected"
    let size ← sizeOf elem
    match (some a : Option Addr), (some b : Option Addr) with
    | some a, some b =>
      if la = 0 ∨ lb = 0 ∨ size = 0 then pure (Value.bool false)
      else if a.block != b.block && (← frozen a) && (← frozen b) then unsupported .addressObserved
      else do
        if a.block != b.block then do
          noView a; noView b
          if ← mayBeOne a b then return Value.bool ((← choose (.extern "sameAddr.stringBytes" 2)) == 1)
        pure (Value.bool (a.block == b.block && a.off < b.off + lb * size && b.off < a.off + la * size))
    | _, _ => pure (Value.bool false)) w = _
  by_cases h0 : la = 0 ∨ lb = 0 ∨ size = 0
  · simp [run_underlying ht, hz, h0]
  · obtain ⟨k, hk⟩ : ∃ k, cl.size = k + 1 := ⟨cl.size - 1, by omega⟩
    rw [hk] at hsb
    obtain ⟨k', rfl⟩ : ∃ k', kA = k' + 1 := ⟨kA - 1, by omega⟩
    cases hfa : w.frozen? a <;> cases hfe : w.frozen? { block := a.block, off := k' + 1 } <;>
      simp [run_underlying ht, hz, h0, hnb, hnb', frozen, noView, viewAt, mayBeOne, stringish, shape, Sem.run, hsa, hsb, hfa, hfe, hfb, hfb0]
set_option maxHeartbeats 4000000 in
set_option maxRecDepth 100000 in
theorem ins_shift (g n c i vb vo vc : Nat) (cl us news : List Value) (w : World) (arr : Array Value) (ta : TypeId) (fr : Nat × Nat) (hi : i < n) (hroom : n + 1 ≤ c) (hc : c ≤ maxLen) (hg : w.heap[g]? = some (.cells ⟨cl⟩ 35 (0, 0))) (hcl : cl.length = c * 4) (hus : cl.take (n * 4) = us)
    (hv : w.heap[vb]? = some (.cells arr ta fr)) (hvb : vb ≠ g) (hnl : news.length = 4) (hnews : ∀ j v, news[j]? = some v → w.cell? ⟨vb, vo + j, none⟩ = some v) (h1u : ∀ v ∈ us, v.oneCell' = true) (h1n : ∀ v ∈ news, v.oneCell' = true) :
    Calls Tryd.prog 37 #[.slice (some ⟨g, 0, none⟩) n c, .int .i64 i, .slice (some ⟨vb, vo, none⟩) 1 vc] w fun e w' =>
      e = .returned (.slice (some ⟨g, 0, none⟩) (n + 1) c) ∧ w' = (w.drew.setCells g ((i + 1) * 4) (us.drop (i * 4))).setCells g (i * 4) news := by
  have hul : us.length = n * 4 := by rw [← hus, List.length_take]; omega
  have hz2 : ¬ ((i : Int) = (n : Int)) := by omega
  have hszT : ∀ w, (sizeOf 35).run Tryd.prog w = .ok 4 w := fun w => by
    obtain ⟨i0, hi0, hz0, hz1, hz2⟩ := info_parts infoRow
    simp [sizeOf, typeInfo, hi0, hz1]
  have hsz : (Tryd.prog.info? 35).map (·.size) = some 4 := by
    obtain ⟨i0, hi0, hz0, hz1, hz2⟩ := info_parts infoRow
    rw [hi0]; simp [hz1]
  have hsa : w.shape? vb = some (ta, arr.size) := by unfold World.shape?; rw [hv]
  have hcell : 0 < arr.size := by
    obtain ⟨v0, hv0⟩ := some_at (L := news) (k := 0) (by omega)
    have := hnews 0 v0 hv0
    rw [cell_of_row w vb (vo + 0) arr ta fr hv] at this
    have := (Array.getElem?_eq_some_iff.1 this).1
    omega
  have hfz : ∀ o, w.frozen? ⟨g, o, none⟩ = false := fun o => by unfold World.frozen?; simp [hg]
  have hce : ∀ o, o < cl.length → w.cell? ⟨g, o, none⟩ = cl[o]? := fun o ho => by rw [cell_of_row w g o ⟨cl⟩ 35 (0, 0) hg]; simp
  have hue : ∀ j v, us[j]? = some v → w.cell? ⟨g, j, none⟩ = some v := fun j v hj => by
    have hlt := lt_at hj
    rw [← hus, List.getElem?_take] at hj
    split at hj
    · rw [hce j (lt_at hj)]; exact hj
    · cases hj
  have hcp1 : ∀ ty dc sc, (Builtin.copy_ #[27, 27] ty #[.slice (some ⟨g, (i + 1) * 4, none⟩) (n - i) dc, .slice (some ⟨g, i * 4, none⟩) (n + 1 - i) sc]).run Tryd.prog w.drew = .ok (goInt (Nat.min (n + 1 - i) (n - i))) (w.drew.setCells g ((i + 1) * 4) (us.drop (i * 4))) := fun ty dc sc =>
    run_copy_k w.drew _ _ ty 35 4 g ((i + 1) * 4) (n - i) dc ⟨g, i * 4, none⟩ (n + 1 - i) sc (us.drop (i * 4)) Tryd.underlying27 hsz (by rw [List.length_drop, hul, show Nat.min (n + 1 - i) (n - i) = n - i by simp only [Nat.min_def]; split <;> omega]; omega)
      (fun j v hj => by rw [Addr.add_lit]; exact hue (i * 4 + j) v (by rwa [List.getElem?_drop] at hj))
      (fun j hj => by
        rw [List.length_drop, hul] at hj
        show (w.cell? _).isSome = true
        rw [hce _ (by omega), List.getElem?_eq_getElem (by omega)]; rfl)
      (fun j hj => hfz _) (fun v hv => h1u v (List.mem_of_mem_drop hv))
  obtain ⟨W1, hW1⟩ : ∃ W1, W1 = w.drew.setCells g ((i + 1) * 4) (us.drop (i * 4)) := ⟨_, rfl⟩
  have hsp1 : ∀ o, o < cl.length → (W1.cell? ⟨g, o, none⟩).isSome = true := fun o ho => by
    rw [hW1]
    exact isSome_setCells g _ _ _ (fun j hj => by
      rw [List.length_drop, hul] at hj
      show (w.cell? _).isSome = true
      rw [hce _ (by omega), List.getElem?_eq_getElem (by omega)]; rfl) _ (by show (w.cell? _).isSome = true; rw [hce _ ho, List.getElem?_eq_getElem ho]; rfl)
  have hcp2 : ∀ (W : World), (∀ x, W.cell? x = W1.cell? x) → (∀ x, W.frozen? x = W1.frozen? x) → ∀ ty dc, (Builtin.copy_ #[27, 27] ty #[.slice (some ⟨g, i * 4, none⟩) (n + 1 - i) dc, .slice (some ⟨vb, vo, none⟩) 1 vc]).run Tryd.prog W = .ok (goInt (Nat.min 1 (n + 1 - i))) (W.setCells g (i * 4) news) := fun W hWc hWf ty dc =>
    run_copy_k W _ _ ty 35 4 g (i * 4) (n + 1 - i) dc ⟨vb, vo, none⟩ 1 vc news Tryd.underlying27 hsz (by rw [hnl, show Nat.min 1 (n + 1 - i) = 1 by simp only [Nat.min_def]; split <;> omega])
      (fun j v hj => by
        rw [Addr.add_lit, hWc, hW1, World.cell?_setCells_out g _ _ _ _ (fun h _ => absurd h hvb)]
        exact hnews j v hj)
      (fun j hj => by rw [hWc]; exact hsp1 _ (by omega)) (fun j hj => by rw [hWf, hW1, World.frozen?_setCells]; exact hfz _) h1n
  rw [← hW1] at hcp1
  have hov : ∀ lb cb, (callFunc 44 #[.slice (some ⟨vb, vo, none⟩) 1 vc, .slice (some ⟨g, (i + 1) * 4, none⟩) lb cb]).run Tryd.prog w = .ok (.value (.bool false)) w := fun lb cb => by
    rw [run_callFunc_extern Tryd.func44 (by kernel_rfl) (by kernel_rfl) (by kernel_rfl) (e := Extern.SlicesOverlaps.overlaps #[27, 27] #[4]) (by kernel_rfl),
      run_overlaps_own w 27 4 35 Tryd.underlying27 4 hszT ⟨vb, vo, none⟩ ⟨g, (i + 1) * 4, none⟩ 1 vc lb cb hvb ta 35 arr.size ⟨cl⟩ hsa hg (by simp [hcl]; omega) (by have := hcell; omega)]
    rfl
  have mixed := mixd
  have hw1 : IntKind.i64.wrap ((i : Int) + 1) = (i : Int) + 1 := by rw [IntKind.wrap_i64]; unfold maxLen at hc; omega
  have hw2 : IntKind.i64.wrap ((n : Int) + 1) = (n : Int) + 1 := by rw [IntKind.wrap_i64]; unfold maxLen at hc; omega
  have hb1 : (0 : Int) ≤ (i : Int) + 1 := by omega
  have hin : i ≤ n := by omega
  have htn : ((i : Int) + 1).toNat = i + 1 := by omega
  have htn2 : ((n : Int) + 1).toNat = n + 1 := by omega
  have hb2 : ¬ (c = i + 1) := by omega
  have hb3 : (i : Int) ≤ (n : Int) + 1 := by omega
  have hb4 : ¬ (c = i) := by omega
  have hb5 : ¬ ((c : Int) < (n : Int) + 1) := by omega
  go_enter Tryd.func37, Tryd.ntmps37
  go_wp2_with (simp only [hov])
  go_region_law_o (refine step_copy_runI rfl _ _ 27 27 rfl _ _ (by simp [Act.eval, Act.put]) (by simp [Act.eval, Act.put]) (hcp1 _ _ _) ?_)
  go_wp2_with (at_builtin; refine wpList_copy_runI _ rfl _ _ 27 27 rfl _ _ rfl rfl (hcp2 _ (fun _ => rfl) (fun _ => rfl) _ _) ?_)
  go_ret
  first | exact ⟨rfl, rfl⟩ | exact ⟨rfl, by rw [hW1]⟩
theorem ins_cells2 {α : Type} (row us news : List α) (a k m : Nat) (hr : row.take a = us.take a) (hul : us.length = m) (ha : a ≤ m) (hk : news.length = k) (hroom : m + k ≤ row.length) :
    (putL (putL row a news) (a + k) (us.drop a)).take (m + k) = us.take a ++ news ++ us.drop a := by
  have hdl : (us.drop a).length = m - a := by rw [List.length_drop, hul]
  have h2l : (putL row a news).length = row.length := putL_length _ _ _
  have h1 : putL row a news = row.take a ++ news ++ row.drop (a + news.length) := putL_take_all _ _ _ (by omega)
  rw [putL_take_all (us.drop a) _ _ (by rw [h2l, hdl]; omega)]
  have e1 : (putL row a news).take (a + k) = us.take a ++ news := by
    rw [h1, hr]
    have : (us.take a ++ news).length = a + k := by rw [List.length_append, List.length_take, hk]; omega
    (rw [← this, List.take_left']) <;> rfl
  rw [e1]
  have hx : (us.take a ++ news ++ us.drop a).length = m + k := by
    simp only [List.length_append, List.length_take, hdl, hk, hul]
    omega
  (rw [← hx, List.take_left']) <;> rfl
set_option maxHeartbeats 4000000 in
set_option maxRecDepth 100000 in
theorem ins_grow (g n c i vb vo vc : Nat) (cl us news : List Value) (w : World) (hi : i < n) (hnc : n ≤ c) (hroom : c < n + 1) (hc : n ≤ 1000) (hg : w.heap[g]? = some (.cells ⟨cl⟩ 35 (0, 0))) (hcl : cl.length = c * 4) (hus : cl.take (n * 4) = us)
    (hvw : vb < w.heap.size) (hnl : news.length = 4) (hnews : ∀ j v, news[j]? = some v → w.cell? ⟨vb, vo + j, none⟩ = some v) (h1u : ∀ v ∈ us, v.oneCell' = true) (h1n : ∀ v ∈ news, v.oneCell' = true) :
    Calls Tryd.prog 37 #[.slice (some ⟨g, 0, none⟩) n c, .int .i64 i, .slice (some ⟨vb, vo, none⟩) 1 vc] w fun e w' =>
      ∃ (G : Nat) (ROW : Array Value), n + 1 ≤ G ∧ G ≤ maxLen ∧ ROW.size = G * 4 ∧ ROW.toList.take (i * 4) = us.take (i * 4) ∧ e = .returned (.slice (some ⟨w.heap.size, 0, none⟩) (n + 1) G) ∧
      w' = (((w.alloc (.cells ROW 35)).drew.setCells w.heap.size (i * 4) news).drew).setCells w.heap.size ((i + 1) * 4) (us.drop (i * 4)) := by
  have hul : us.length = n * 4 := by rw [← hus, List.length_take]; omega
  have hz2 : ¬ ((i : Int) = (n : Int)) := by omega
  have hz3 : (c : Int) < (n : Int) + 1 := by omega
  obtain ⟨i0, hi0, hz0, hzs, hzb⟩ := info_parts infoRow
  have hszT : ∀ w, (sizeOf 35).run Tryd.prog w = .ok 4 w := fun w => by simp [sizeOf, typeInfo, hi0, hzs]
  have hsz : (Tryd.prog.info? 35).map (·.size) = some 4 := by rw [hi0]; simp [hzs]
  have hgw : g < w.heap.size := (Array.getElem?_eq_some_iff.1 hg).1
  have hce : ∀ o, o < cl.length → w.cell? ⟨g, o, none⟩ = cl[o]? := fun o ho => by rw [cell_of_row w g o ⟨cl⟩ 35 (0, 0) hg]; simp
  have hue : ∀ j v, us[j]? = some v → w.cell? ⟨g, j, none⟩ = some v := fun j v hj => by
    rw [← hus, List.getElem?_take] at hj
    split at hj
    · rw [hce j (lt_at hj)]; exact hj
    · cases hj
  have hkk : (n : Int) + 1 - (i : Int) = ((n + 1 - i : Nat) : Int) := by omega
  have hik : i + (n + 1 - i) = n + 1 := by omega
  have hold : (Builtin.firstCells i0.size i (.slice (some ⟨g, 0, none⟩) i c)).run Tryd.prog w.drew = .ok (us.take (i * 4)).toArray w.drew := by
    rw [hzs]
    exact run_firstCells_some w.drew 4 i ⟨g, 0, none⟩ i c (us.take (i * 4)) (by rw [List.length_take]; omega) (fun j v hj => by
      rw [Addr.add_lit, Nat.zero_add]
      rw [List.getElem?_take] at hj
      split at hj
      · exact hue j v hj
      · cases hj)
  have hrz : ∀ ty, (Builtin.append_ #[27, 3] ty #[.slice (some ⟨g, 0, none⟩) i c, .int .i64 ((n : Int) + 1 - (i : Int))]).run Tryd.prog w = .ok (.slice (some ⟨w.heap.size, 0, none⟩) (n + 1) (grownCap w (n + 1) c 35)) (w.drew.alloc (.cells ((us.take (i * 4)).toArray ++ Builtin.zeroCells (Value.agg #[.int .i64 0, .int .i64 0, .int .i64 0, .string ⟨#[]⟩]).cells (n + 1 - i) ++ Builtin.zeroCells (Value.agg #[.int .i64 0, .int .i64 0, .int .i64 0, .string ⟨#[]⟩]).cells (grownCap w (n + 1) c 35 - (n + 1))) 35)) := fun ty => by
    have h := Lib.run_append_grow_zeros w 27 3 ty 35 i0 _ .i64 .i64 Tryd.underlying27 Tryd.underlying3 hi0 hz0 (some ⟨g, 0, none⟩) i c (us.take (i * 4)) hold (n + 1 - i) (by omega) (by omega) (by omega) (by omega) (by rw [hzb]; omega) (by rw [hzb, hik]; exact growslice_fits hroom (by omega))
    rw [hik] at h
    rw [hkk]
    exact h
  obtain ⟨G, hG⟩ : ∃ G, G = grownCap w (n + 1) c 35 := ⟨_, rfl⟩
  have hGn : n + 1 ≤ G := by rw [hG]; exact grownCap_ge w _ _ _
  have hGm : G ≤ maxLen := by rw [hG]; exact grownCap_le_maxLen w (n + 1) c 35 (by unfold maxLen; omega)
  have hG63 : G ≤ 9223372036854775807 := by unfold maxLen at hGm; omega
  obtain ⟨ROW, hROW⟩ : ∃ ROW : Array Value, ROW = (us.take (i * 4)).toArray ++ Builtin.zeroCells (Value.agg #[.int .i64 0, .int .i64 0, .int .i64 0, .string ⟨#[]⟩]).cells (n + 1 - i) ++ Builtin.zeroCells (Value.agg #[.int .i64 0, .int .i64 0, .int .i64 0, .string ⟨#[]⟩]).cells (G - (n + 1)) := ⟨_, rfl⟩
  rw [← hG] at hrz
  rw [← hROW] at hrz
  have hRl : ROW.size = G * 4 := by
    rw [hROW]
    simp [Builtin.zeroCells, Value.cells]
    omega
  have hRt : ROW.toList.take (i * 4) = us.take (i * 4) := by
    rw [hROW]
    have hl : (us.take (i * 4)).length = i * 4 := by rw [List.length_take]; omega
    simp only [Array.toList_append, List.append_assoc]
    rw [List.take_append_of_le_length (by simp [hl]), List.take_of_length_le (by simp [hl])]
  obtain ⟨W1, hW1⟩ : ∃ W1, W1 = w.drew.alloc (.cells ROW 35) := ⟨_, rfl⟩
  rw [← hW1] at hrz
  have hN : ∀ j, j < (n + 1) * 4 → (W1.cell? ⟨w.heap.size, j, none⟩).isSome = true := fun j hj => by
    rw [hW1, World.cell?_alloc_at (w := w.drew) ROW _ w.heap.size j rfl, Array.getElem?_eq_getElem (by rw [hRl]; omega)]; rfl
  have hNf : ∀ j, W1.frozen? ⟨w.heap.size, j, none⟩ = false := fun j => by rw [hW1]; exact World.frozen?_alloc_at (w := w.drew) ROW _ w.heap.size j rfl
  have hOb : ∀ j v, w.cell? ⟨g, j, none⟩ = some v → W1.cell? ⟨g, j, none⟩ = some v := fun j v h => by rw [hW1, World.cell?_alloc_past (w := w.drew) _ g j hgw]; exact h
  have hOv : ∀ j v, w.cell? ⟨vb, j, none⟩ = some v → W1.cell? ⟨vb, j, none⟩ = some v := fun j v h => by rw [hW1, World.cell?_alloc_past (w := w.drew) _ vb j hvw]; exact h
  have hcpA : ∀ (W : World), (∀ x, W.cell? x = W1.cell? x) → (∀ x, W.frozen? x = W1.frozen? x) → ∀ ty dc, (Builtin.copy_ #[27, 27] ty #[.slice (some ⟨w.heap.size, i * 4, none⟩) (n + 1 - i) dc, .slice (some ⟨vb, vo, none⟩) 1 vc]).run Tryd.prog W = .ok (goInt (Nat.min 1 (n + 1 - i))) (W.setCells w.heap.size (i * 4) news) := fun W hWc hWf ty dc =>
    run_copy_k W _ _ ty 35 4 w.heap.size (i * 4) (n + 1 - i) dc ⟨vb, vo, none⟩ 1 vc news Tryd.underlying27 hsz (by rw [hnl, show Nat.min 1 (n + 1 - i) = 1 by simp only [Nat.min_def]; split <;> omega])
      (fun j v hj => by rw [Addr.add_lit, hWc]; exact hOv _ v (hnews j v hj))
      (fun j hj => by rw [hWc]; exact hN _ (by omega)) (fun j hj => by rw [hWf]; exact hNf _) h1n
  have hGi : ¬ (G = i) := by omega
  have hGim : ¬ (G = i + 1) := by omega
  have hci : ¬ (c = i) := by omega
  have hbN : g ≠ w.heap.size := by omega
  have hdl : (us.drop (i * 4)).length = (n - i) * 4 := by rw [List.length_drop, hul]; omega
  have hcpB : ∀ (W : World), (∀ x, W.cell? x = (W1.setCells w.heap.size (i * 4) news).cell? x) → (∀ x, W.frozen? x = (W1.setCells w.heap.size (i * 4) news).frozen? x) → ∀ ty dc sc, (Builtin.copy_ #[27, 27] ty #[.slice (some ⟨w.heap.size, (i + 1) * 4, none⟩) (n - i) dc, .slice (some ⟨g, i * 4, none⟩) (n - i) sc]).run Tryd.prog W = .ok (goInt (Nat.min (n - i) (n - i))) (W.setCells w.heap.size ((i + 1) * 4) (us.drop (i * 4))) := fun W hWc hWf ty dc sc =>
    run_copy_k W _ _ ty 35 4 w.heap.size ((i + 1) * 4) (n - i) dc ⟨g, i * 4, none⟩ (n - i) sc (us.drop (i * 4)) Tryd.underlying27 hsz (by rw [hdl, show Nat.min (n - i) (n - i) = n - i by simp only [Nat.min_def]; split <;> omega])
      (fun j v hj => by
        rw [Addr.add_lit, hWc, World.cell?_setCells_out _ _ _ _ _ (fun h _ => absurd h hbN)]
        exact hOb _ v (hue (i * 4 + j) v (by rwa [List.getElem?_drop] at hj)))
      (fun j hj => by rw [hWc]; exact isSome_setCells _ _ _ _ (fun t ht => hN _ (by omega)) _ (hN _ (by omega)))
      (fun j hj => by rw [hWf, World.frozen?_setCells]; exact hNf _) (fun v hv => h1u v (List.mem_of_mem_drop hv))
  subst hW1
  have hE1 : ∀ x, ((w.alloc (.cells ROW 35)).drew).cell? x = (w.drew.alloc (.cells ROW 35)).cell? x := fun x => rfl
  have hE2 : ∀ x, ((w.alloc (.cells ROW 35)).drew).frozen? x = (w.drew.alloc (.cells ROW 35)).frozen? x := fun x => rfl
  have hF1 : ∀ x, (((w.alloc (.cells ROW 35)).drew.setCells w.heap.size (i * 4) news).drew).cell? x = ((w.drew.alloc (.cells ROW 35)).setCells w.heap.size (i * 4) news).cell? x := fun x => rfl
  have hF2 : ∀ x, (((w.alloc (.cells ROW 35)).drew.setCells w.heap.size (i * 4) news).drew).frozen? x = ((w.drew.alloc (.cells ROW 35)).setCells w.heap.size (i * 4) news).frozen? x := fun x => rfl
  have mixed := mixd
  have hw1 : IntKind.i64.wrap ((i : Int) + 1) = (i : Int) + 1 := by rw [IntKind.wrap_i64]; omega
  have hw2 : IntKind.i64.wrap ((n : Int) + 1) = (n : Int) + 1 := by rw [IntKind.wrap_i64]; omega
  have hw3 : IntKind.i64.wrap ((n : Int) + 1 - (i : Int)) = (n : Int) + 1 - (i : Int) := by rw [IntKind.wrap_i64]; omega
  have hb1 : (0 : Int) ≤ (i : Int) + 1 := by omega
  have hin : i ≤ n := by omega
  have htn : ((i : Int) + 1).toNat = i + 1 := by omega
  have hb3 : (i : Int) ≤ (n : Int) := by omega
  have hfin : (fun (_ : Unit) => n + 1 ≤ G ∧ G ≤ maxLen ∧ ROW.size = G * 4 ∧ ROW.toList.take (i * 4) = us.take (i * 4)) () := ⟨hGn, hGm, hRl, hRt⟩
  clear hkk hik hold hROW hG hRl hRt
  go_enter Tryd.func37, Tryd.ntmps37
  go_wp2_with (first
    | (at_builtin; refine Lib.wpList_append_run _ rfl _ _ _ _ rfl _ _ rfl rfl _ _ (hrz _) ?_)
    | (at_builtin; refine wpList_copy_runI _ rfl _ _ 27 27 rfl _ _ rfl rfl (hcpA _ hE1 hE2 _ _) ?_)
    | (at_builtin; refine wpList_copy_runI _ rfl _ _ 27 27 rfl _ _ rfl rfl (hcpB _ (fun _ => rfl) (fun _ => rfl) _ _ _) ?_))
  go_region_law_o (refine step_copy_runI rfl _ _ 27 27 rfl (.slice (some ⟨w.heap.size, (i + 1) * 4, none⟩) (n - i) (G - (i + 1))) (.slice (some ⟨g, i * 4, none⟩) (n - i) (c - i)) (by simp [Act.eval, Act.put]) (by simp [Act.eval, Act.put]) (hcpB _ hF1 hF2 3 (G - (i + 1)) (c - i)) ?_)
  go_wp2
  go_ret
  exact ⟨G, ROW, hfin.1, hfin.2.1, hfin.2.2.1, hfin.2.2.2, rfl, rfl⟩
set_option maxHeartbeats 4000000 in
theorem ins_end (n b vb vo vc : Nat) (u : Value) (us news : List Value) (w : World) (hown : w.ownsRow b 35 4 u n us) (hb : b ≤ w.heap.size) (hn : n ≤ 1000)
    (hnl : news.length = 4) (hnews : ∀ j v, news[j]? = some v → w.cell? ⟨vb, vo + j, none⟩ = some v) (h1n : ∀ v ∈ news, v.oneCell' = true) :
    Calls Tryd.prog 37 #[u, .int .i64 n, .slice (some ⟨vb, vo, none⟩) 1 vc] w fun e w' => ∃ v, e = .returned v ∧ w'.ownsRow b 35 4 v (n + 1) (us ++ news) ∧ w.grownBy w' u.ownBlock ∧ (v.ownBlock = u.ownBlock ∨ v.ownBlock = some w.heap.size) := by
  obtain ⟨i0, hi, hz0, hz1, hz2⟩ := info_parts infoRow
  have hszT : ∀ w, (sizeOf 35).run Tryd.prog w = .ok 4 w := fun w => by simp [sizeOf, typeInfo, hi, hz1]
  have hown' := hown
  rcases hown.2 with ⟨rfl, rfl⟩ | ⟨g, cap, cur, rfl, e2, e3, e4, e5, e6, e7⟩
  · have hus : us = [] := List.eq_nil_of_length_eq_zero (by simpa using hown.1)
    subst hus
    go_enter Tryd.func37, Tryd.ntmps37
    go_wp2_with (at_builtin; refine wpList_append_any _ rfl (.tmp 23) (.tmp 24) _ rfl b 35 i0 _ 4 40 Tryd.underlying27 hi hz0 hz1 hz2 rfl (by omega) (.slice none 0 0) 0 [] rfl hown' (some ⟨vb, vo, none⟩) 1 vc news rfl hnl (fun _ => ⟨_, rfl, fun j u hj => by rw [Addr.add_lit]; exact hnews j u hj⟩) h1n (by simp only [maxLen]; omega) (by omega) hb ?_; intro v1 w1 hown1 hg1 hat1; simp only [Nat.zero_add, List.nil_append] at hown1)
    go_ret
    exact ⟨v1, rfl, hown1, hg1, hat1⟩
  · go_enter Tryd.func37, Tryd.ntmps37
    go_wp2_with (at_builtin; refine wpList_append_any _ rfl (.tmp 23) (.tmp 24) _ rfl b 35 i0 _ 4 40 Tryd.underlying27 hi hz0 hz1 hz2 rfl (by omega) (.slice (some ⟨g, 0, none⟩) n cap) n us rfl hown' (some ⟨vb, vo, none⟩) 1 vc news rfl hnl (fun _ => ⟨_, rfl, fun j u hj => by rw [Addr.add_lit]; exact hnews j u hj⟩) h1n (by simp only [maxLen]; omega) (by omega) hb ?_; intro v1 w1 hown1 hg1 hat1)
    all_goals (go_ret; exact ⟨v1, rfl, hown1, hg1, hat1⟩)
theorem Below.ofDrew {w : World} : w.grownBy w.drew none := ⟨rfl, rfl, rfl, Nat.le_refl _, fun _ _ _ => rfl⟩
theorem grown_set {w w1 : World} {g : Nat} {row : Option Nat} (h : w.grownBy w1 row) (hg : w.heap.size ≤ g ∨ row = some g) (o : Nat) (vs : List Value) : w.grownBy (w1.setCells g o vs) row := by
  obtain ⟨i1, i2, i3, i4⟩ := same_setCells (g := g) vs o w1
  refine ⟨i1.trans h.os, i2.trans h.tape, i3.trans h.output, by rw [i4]; exact h.size, fun k hk hne => ?_⟩
  rw [far_setCells (by
    rintro rfl
    rcases hg with hg | hg
    · omega
    · exact hne hg.symm) vs o w1]
  exact h.block k hk hne
theorem flat_take {sz : Nat} : ∀ (L : List AV) (i : Nat), (∀ x ∈ L, x.cells.length = sz) → (L.take i).flatMap AV.cells = (L.flatMap AV.cells).take (i * sz) ∧ (L.drop i).flatMap AV.cells = (L.flatMap AV.cells).drop (i * sz)
  | [], i, _ => by simp
  | x :: L, 0, _ => by simp
  | x :: L, i + 1, h => by
    obtain ⟨h1, h2⟩ := flat_take L i fun y hy => h y (by simp [hy])
    have hx := h x (by simp)
    have hle : x.cells.length ≤ sz + i * sz := by rw [hx]; exact Nat.le_add_right _ _
    have he : sz + i * sz - x.cells.length = i * sz := by rw [hx]; exact Nat.add_sub_cancel_left _ _
    rw [List.take_succ_cons, List.drop_succ_cons, List.flatMap_cons, List.flatMap_cons, h1, h2, Nat.succ_mul, Nat.add_comm (i * sz) sz]
    constructor
    · rw [List.take_append, List.take_of_length_le hle, he]
    · rw [List.drop_append, List.drop_of_length_le hle, List.nil_append, he]
theorem rel_ins {α β : Type} {R : α → β → Prop} {F X : List α} {us news : List β} {k : Nat} (hl : F.length = us.length) (hx : X.length = news.length) (h1 : ∀ (j : Nat) (x : α) (y : β), F[j]? = some x → us[j]? = some y → R x y) (h2 : ∀ (j : Nat) (x : α) (y : β), X[j]? = some x → news[j]? = some y → R x y) :
    ∀ (j : Nat) (x : α) (y : β), (F.take k ++ X ++ F.drop k)[j]? = some x → (us.take k ++ news ++ us.drop k)[j]? = some y → R x y := fun j x y a b => by
  have e1 : (F.take k).length = (us.take k).length := by rw [List.length_take, List.length_take, hl]
  have e2 : (F.take k ++ X).length = (us.take k ++ news).length := by rw [List.length_append, List.length_append, e1, hx]
  rw [List.getElem?_append, e2] at a
  rw [List.getElem?_append] at b
  split at a
  · rename_i hj
    rw [if_pos hj] at b
    rw [List.getElem?_append, e1] at a
    rw [List.getElem?_append] at b
    split at a
    · rename_i hj2
      rw [if_pos hj2] at b
      rw [List.getElem?_take] at a b
      split at a
      · rename_i hj3; rw [if_pos hj3] at b; exact h1 j x y a b
      · cases a
    · rename_i hj2
      rw [if_neg hj2] at b
      exact h2 _ x y a b
  · rename_i hj
    rw [if_neg hj] at b
    rw [List.getElem?_drop] at a b
    exact h1 _ x y a b
/-- slices.Insert of one row, into rows of the caller's own. -/
theorem insert_I (L : List AV) (x : AV) (i : Nat) (hi : i ≤ L.length) (hL : L.length ≤ 999) (hxo : allOne x.cells = true) : ACallsI Tryd.prog 37 35 4 L [.v (.int .i64 i), .sl 4 [x]] (L.take i ++ [x] ++ L.drop i) := by
  refine ⟨enter_of Tryd.func37 (by kernel_rfl) rfl, fun M w b u us vs hlive hown hb hM hul hsz hrep hl ha => ?_⟩
  obtain ⟨v1, v2, rfl⟩ : ∃ v1 v2, vs = [v1, v2] := by
    match vs, hl with
    | [a, b], _ => exact ⟨a, b, rfl⟩
  have h1 := (ha 0 _ v1 rfl rfl).v_inv
  subst h1
  have h2 := ha 1 _ v2 rfl rfl
  obtain ⟨A, c, us2, rfl, q2, q3, q4, q5⟩ := h2.sl_inv
  obtain ⟨hx4, vb, vo, arr, rfl, hMv, -⟩ := q5 0 x rfl
  obtain ⟨A, c', news, e1, e2, e3, e4, e5, e6, e7⟩ := sl_news hlive h2 (by decide) (fun y hy => by obtain rfl := List.mem_singleton.1 hy; exact hxo)
  injection e1 with e1 e1' e1''
  subst e1
  obtain ⟨ad, had, hcell⟩ := e3 (by simp)
  injection had with had
  subst had
  have hnews : ∀ j v, news[j]? = some v → w.cell? ⟨vb, vo + j, none⟩ = some v := fun j v hj => by have := hcell j v hj; rwa [Addr.add_lit] at this
  have hnl : news.length = 4 := e2
  obtain ⟨ta, fr, hvh⟩ := hlive vb arr hMv
  have hvw : vb < w.heap.size := (Array.getElem?_eq_some_iff.1 hvh).1
  obtain ⟨ft, fd⟩ := flat_take L i hsz
  have hul4 : us.length = L.length * 4 := hown.1
  have hflat : (L.take i ++ [x] ++ L.drop i).flatMap AV.cells = (L.flatMap AV.cells).take (i * 4) ++ x.cells ++ (L.flatMap AV.cells).drop (i * 4) := by
    rw [List.flatMap_append, List.flatMap_append, ft, fd]; simp
  have hlen' : (L.take i ++ [x] ++ L.drop i).length = L.length + 1 := by simp; omega
  have hcells : ∀ y ∈ L.take i ++ [x] ++ L.drop i, y.cells.length = 4 := fun y hy => by
    rcases List.mem_append.1 hy with hy | hy
    · rcases List.mem_append.1 hy with hy | hy
      · exact hsz y (List.mem_of_mem_take hy)
      · obtain rfl := List.mem_singleton.1 hy; exact hx4
    · exact hsz y (List.mem_of_mem_drop hy)
  have hus1 : ∀ v ∈ us, v.oneCell' = true := fun v hv => by
    obtain ⟨j, hj⟩ := List.getElem?_of_mem hv
    obtain ⟨z, hz⟩ := some_at (L := L.flatMap AV.cells) (k := j) (by have := lt_at hj; omega)
    exact (hrep j z v hz hj).2
  have hrel : ∀ (j : Nat) (z : AV) (y : Value), ((L.take i ++ [x] ++ L.drop i).flatMap AV.cells)[j]? = some z → (us.take (i * 4) ++ news ++ us.drop (i * 4))[j]? = some y → Rep M noρ z y ∧ y.oneCell' = true := by
    rw [hflat]
    refine rel_ins hul.symm (by rw [hnl, hx4]) hrep (fun j z y a b => e7 j z y (by simpa using a) b)
  have hlus : (us.take (i * 4) ++ news ++ us.drop (i * 4)).length = ((L.take i ++ [x] ++ L.drop i).flatMap AV.cells).length := by
    rw [hflat]
    simp only [List.length_append, List.length_take, List.length_drop, hnl, hx4, hul]
  unfold InsPost
  rw [hlen']
  rcases Nat.lt_or_ge i L.length with hlt | hge
  · rcases hown.2 with ⟨rfl, h0⟩ | ⟨g, cap, cur, rfl, f2, f3, f4, f5, f6, f7⟩
    · omega
    · obtain ⟨cl⟩ := cur
      have f6' : cl.length = cap * 4 := f6
      have f7' : cl.take (L.length * 4) = us := f7
      have hne : vb ≠ g := by
        rintro rfl
        have := hM vb rfl
        rw [hMv] at this
        cases this
      rcases Nat.lt_or_ge cap (L.length + 1) with hcap | hcap
      · refine (ins_grow g L.length cap i vb vo c cl us news w hlt f4 hcap (by omega) f3 f6' f7' hvw hnl hnews hus1 e4).mono ?_
        rintro en w' ⟨G, ROW, g1, g2, g3, g4, rfl, rfl⟩
        have hgs : (w.alloc (.cells ROW 35)).heap[w.heap.size]? = some (.cells ⟨ROW.toList⟩ 35 (0, 0)) := by rw [heap_alloc_new w _]
        have b1 := blk_setCells (g := w.heap.size) news ROW.toList (i * 4) (w.alloc (.cells ROW 35)).drew hgs
        have b2 := blk_setCells (g := w.heap.size) (us.drop (i * 4)) (putL ROW.toList (i * 4) news) ((i + 1) * 4) ((w.alloc (.cells ROW 35)).drew.setCells w.heap.size (i * 4) news).drew b1
        refine ⟨_, us.take (i * 4) ++ news ++ us.drop (i * 4), rfl, ⟨by simp only [List.length_append, List.length_take, List.length_drop, hnl, hul4]; omega, .inr ⟨w.heap.size, G, _, rfl, hb, b2, g1, g2, by show (putL _ _ _).length = _; rw [putL_length, putL_length]; exact g3, ?_⟩⟩, ?_, .inr ⟨w.heap.size, Nat.le_refl _, rfl⟩, hlus, hcells, hrel⟩
        · have := ins_cells2 ROW.toList us news (i * 4) 4 (L.length * 4) g4 hul4 (by omega) hnl (by rw [show ROW.toList.length = G * 4 from g3]; omega)
          rw [show (i + 1) * 4 = i * 4 + 4 by omega, show (L.length + 1) * 4 = L.length * 4 + 4 by omega]
          exact this
        · have z0 : w.grownBy (w.alloc (.cells ROW 35)).drew (some g) := by
            have := World.grownBy_alloc w (.cells ROW 35) (some g)
            exact ⟨this.os, this.tape, this.output, this.size, this.block⟩
          have z1 := grown_set z0 (.inl (Nat.le_refl _)) (i * 4) news
          have z2 : w.grownBy ((w.alloc (.cells ROW 35)).drew.setCells w.heap.size (i * 4) news).drew (some g) := ⟨z1.os, z1.tape, z1.output, z1.size, z1.block⟩
          exact grown_set z2 (.inl (Nat.le_refl _)) ((i + 1) * 4) (us.drop (i * 4))
      · refine (ins_shift g L.length cap i vb vo c cl us news w arr ta fr hlt hcap f5 f3 f6' f7' hvh hne hnl hnews hus1 e4).mono ?_
        rintro en w' ⟨rfl, rfl⟩
        have b1 := blk_setCells (g := g) (us.drop (i * 4)) cl ((i + 1) * 4) w.drew f3
        have b2 := blk_setCells (g := g) news (putL cl ((i + 1) * 4) (us.drop (i * 4))) (i * 4) (w.drew.setCells g ((i + 1) * 4) (us.drop (i * 4))) b1
        refine ⟨_, us.take (i * 4) ++ news ++ us.drop (i * 4), rfl, ⟨by simp only [List.length_append, List.length_take, List.length_drop, hnl, hul4]; omega, .inr ⟨g, cap, _, rfl, f2, b2, hcap, f5, by show (putL _ _ _).length = _; rw [putL_length, putL_length]; exact f6', ?_⟩⟩, ?_, .inl rfl, hlus, hcells, hrel⟩
        · have := ins_cells cl us news (i * 4) 4 (L.length * 4) f7' (by omega) (by omega) hnl (by omega)
          rw [show (i + 1) * 4 = i * 4 + 4 by omega, show (L.length + 1) * 4 = L.length * 4 + 4 by omega]
          exact this
        · have z0 : w.grownBy w.drew (some g) := ⟨rfl, rfl, rfl, Nat.le_refl _, fun _ _ _ => rfl⟩
          exact grown_set (grown_set z0 (.inr rfl) _ _) (.inr rfl) _ _
  · obtain rfl : i = L.length := by omega
    refine (ins_end L.length b vb vo c u us news w hown hb (by omega) hnl hnews e4).mono ?_
    rintro en w' ⟨v, rfl, o1, o2, o3⟩
    have e : us.take (L.length * 4) ++ news ++ us.drop (L.length * 4) = us ++ news := by
      rw [List.take_of_length_le (by omega), List.drop_of_length_le (by omega), List.append_nil]
    rw [e] at hrel hlus
    exact ⟨v, us ++ news, rfl, o1, o2, o3.imp id fun h => ⟨_, Nat.le_refl _, h⟩, hlus, hcells, hrel⟩
end Go.Proofs.YtbacidnhjmdnlaaDoor
