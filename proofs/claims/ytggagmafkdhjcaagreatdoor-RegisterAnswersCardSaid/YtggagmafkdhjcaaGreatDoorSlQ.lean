/- slices.Clone, Delete at []api.Person, of the caller's own; conditions: none. -/
import Derived.Test.YtggagmafkdhjcaaGreatDoorInsB
import Derived.Test.YtggagmafkdhjcaaGreatDoorRnP
set_option linter.unusedVariables false
set_option linter.unusedSimpArgs false
namespace Go.Proofs.YtggagmafkdhjcaaGreatDoor
open Go Go.RowKit
theorem infoRowQ : (Tryz.prog.info? 38).map (fun i => (i.zero, i.size, i.bytes)) = some (some (Value.agg #[.string ⟨#[]⟩, .int .i64 0, .int .i64 0, .int .i64 0, .int .i64 0]), 5, 48) := by kernel_rfl
theorem eqlNilRQ (A : Option Addr) (n c : Nat) (w : World) : (binOp .eql 27 (.slice A n c) (.slice none 0 0)).run Tryz.prog w = .ok (.bool A.isNone) w :=
  Lib.run_eql_slice_nil w 27 38 A n c 0 0 Tryz.underlying27
set_option maxHeartbeats 1000000 in
theorem clone_nilQ (c : Nat) (w : World) : Calls Tryz.prog 43 #[.slice none 0 c] w fun e w' => e = .returned (.slice none 0 0) ∧ w = w' := by
  have he := eqlNilRQ
  go_enter Tryz.func43, Tryz.ntmps43
  go_wp2
  go_ret
  exact ⟨rfl, rfl⟩
set_option maxHeartbeats 1000000 in
theorem clone_someQ (ad : Addr) (c n : Nat) (news : List Value) (w : World) (hl : news.length = n * 5) (hr : ∀ w', Below w.heap.size w w' → 0 < n → ∃ a, some ad = some a ∧ ∀ j u, news[j]? = some u → w'.cell? (a.add j) = some u) (h1 : ∀ u ∈ news, u.oneCell' = true) (hn : n ≤ 1000) :
    Calls Tryz.prog 43 #[.slice (some ad) n c] w fun e w' => ∃ v, e = .returned v ∧ w'.ownsRow w.heap.size 38 5 v n news ∧ Below w.heap.size w w' := by
  have he := eqlNilRQ
  obtain ⟨i0, hi, hz0, hz1, hz2⟩ := info_parts infoRowQ
  go_enter Tryz.func43, Tryz.ntmps43
  go_wp2_with (at_builtin; refine wpList_append_any _ rfl (.tmp 5) (.tmp 6) _ rfl w.heap.size 38 i0 _ 5 48 Tryz.underlying27 hi hz0 hz1 hz2 rfl (by omega) (.slice (some ⟨w.heap.size, 0, none⟩) 0 0) 0 [] rfl (World.ownsRow_made w #[] 0 (Nat.le_refl _) (by simp [maxLen]) rfl) (some ad) n c news rfl hl (hr _ ((Below.refl _ _).alloc (Nat.le_refl _) _)) h1 (by simp only [maxLen]; omega) (by omega) (by simp) ?_; intro v1 w1 hown1 hg1 hat1; simp only [Nat.zero_add, List.nil_append] at hown1)
  go_ret
  refine ⟨v1, rfl, hown1, ?_⟩
  refine ((Below.refl _ _).alloc (Nat.le_refl _) _).grown hg1 (by simp) (fun k hk => ?_)
  simp [Value.ownBlock] at hk
  omega
theorem clone_OQ (N : List AV) (ho : ∀ x ∈ N, allOne x.cells = true) (hn : N.length ≤ 1000) : ACallsO Tryz.prog 43 [.sl 5 N] 38 5 N := by
  refine ⟨enter_of Tryz.func43 (by kernel_rfl) rfl, fun M w vs hlive hl ha => ?_⟩
  obtain ⟨v, rfl⟩ : ∃ v, vs = [v] := List.length_eq_one_iff.1 hl
  have hv := ha 0 _ v rfl rfl
  obtain ⟨A, c, news, rfl, e2, e3, e4, e5, e6, e7⟩ := sl_news hlive hv (by decide) ho
  rcases A with _ | ad
  · have h0 : N.length = 0 := by
      rcases Nat.eq_zero_or_pos N.length with h0 | h0
      · exact h0
      · obtain ⟨_, e, _⟩ := e3 h0; cases e
    have hN : N = [] := List.eq_nil_of_length_eq_zero h0
    subst hN
    have hnews : news = [] := List.eq_nil_of_length_eq_zero (by simpa using e2)
    subst hnews
    exact (clone_nilQ c w).mono fun e w' ⟨he, hw⟩ => ⟨_, [], he, by subst hw; exact Below.refl _ _, nil_owns _ _ _ _, by simp, by simp, by simp⟩
  · refine (clone_someQ ad c N.length news w e2 (fun w' hb h0 => ?_) e4 hn).mono fun e w' ⟨u, he, hown, hb⟩ => ⟨u, news, he, hb, hown, e6, e5, e7⟩
    obtain ⟨a, ea, hc⟩ := e3 h0
    refine ⟨a, ea, fun j u hj => ?_⟩
    have h1 := hc j u hj
    have hlt := block_lt_of_cell h1
    rw [← h1]
    exact World.cell?_of_block (hb.block _ hlt)
def zcsQ : List Value := [.string ⟨#[]⟩, .int .i64 0, .int .i64 0, .int .i64 0, .int .i64 0]
set_option maxHeartbeats 4000000 in
set_option maxRecDepth 100000 in
theorem del_coreQ (g n c i : Nat) (cl us : List Value) (w : World) (hi : i < n) (hnc : n ≤ c) (hc : c ≤ maxLen) (hg : w.heap[g]? = some (.cells ⟨cl⟩ 38 (0, 0))) (hcl : cl.length = c * 5) (hus : cl.take (n * 5) = us) (h1u : ∀ v ∈ us, v.oneCell' = true) :
    Calls Tryz.prog 42 #[.slice (some ⟨g, 0, none⟩) n c, .int .i64 i, .int .i64 ((i : Int) + 1)] w fun e w' =>
      e = .returned (.slice (some ⟨g, 0, none⟩) (n - 1) c) ∧ w' = (w.drew.setCells g (0 + i *5) (us.drop ((i + 1) * 5))).setCells g ((n - 1) * 5) zcsQ := by
  have hul : us.length = n * 5 := by rw [← hus, List.length_take]; omega
  obtain ⟨i0, hi0, hz0, hz1, hz2⟩ := info_parts infoRowQ
  have hfz : ∀ o, w.frozen? ⟨g, o, none⟩ = false := fun o => by unfold World.frozen?; simp [hg]
  have hce : ∀ o, o < cl.length → w.cell? ⟨g, o, none⟩ = cl[o]? := fun o ho => by rw [cell_of_row w g o ⟨cl⟩ 38 (0, 0) hg]; simp
  have hue : ∀ j v, us[j]? = some v → w.cell? ⟨g, j, none⟩ = some v := fun j v hj => by
    rw [← hus, List.getElem?_take] at hj
    split at hj
    · rw [hce j (lt_at hj)]; exact hj
    · cases hj
  have hsome : ∀ o, o < c * 5 → (w.cell? ⟨g, o, none⟩).isSome = true := fun o ho => by rw [hce o (by omega), List.getElem?_eq_getElem (by omega)]; rfl
  obtain ⟨news, hnews⟩ : ∃ news, news = us.drop ((i + 1) * 5) := ⟨_, rfl⟩
  have hlen : news.length = (n - (i + 1)) * 5 := by (rw [hnews, List.length_drop, hul]) <;> omega
  obtain ⟨AD, hA, hsrc⟩ : ∃ AD : Addr, (if c = i + 1 then some (⟨g, 0, none⟩ : Addr) else some ⟨g, (i + 1) * 5, none⟩) = some AD ∧ Hid (∀ t u, news[t]? = some u → w.drew.cell? (AD.add t) = some u) := by
    by_cases h : c = i + 1
    · refine ⟨⟨g, 0, none⟩, by simp [h], fun t u hu => ?_⟩
      have h0 : news.length = 0 := by rw [hlen]; omega
      rw [List.length_eq_zero_iff.1 h0] at hu
      simp at hu
    · refine ⟨⟨g, (i + 1) * 5, none⟩, by simp [h], fun t u hu => ?_⟩
      rw [hnews, List.getElem?_drop] at hu
      rw [Addr.add_lit]
      exact hue _ u hu
  have s1 : Hid (news.length = (n - (i + 1)) *5) := by show news.length = _; omega
  have s2 : Hid (∀ u ∈ news, u.oneCell' = true) := fun u hu => h1u u (by rw [hnews] at hu; exact List.mem_of_mem_drop hu)
  have s3 : Hid (∀ t, t < news.length → (w.drew.cell? ⟨g, 0 + i *5 + t, none⟩).isSome = true ∧ w.drew.frozen? ⟨g, 0 + i *5 + t, none⟩ = false) := fun t ht => by
    rw [hlen] at ht
    exact ⟨by show (w.cell? _).isSome = true; exact hsome _ (by omega), hfz _⟩
  obtain ⟨W1, hW1⟩ : ∃ W1, W1 = w.drew.setCells g (0 + i *5) news := ⟨_, rfl⟩
  have hsp1 : ∀ o, o < c * 5 → (W1.cell? ⟨g, o, none⟩).isSome = true := fun o ho => by
    rw [hW1]
    exact isSome_setCells g _ _ _ (fun j hj => (s3.out j hj).1) _ (by show (w.cell? _).isSome = true; exact hsome o ho)
  have hfz1 : ∀ o, W1.frozen? ⟨g, o, none⟩ = false := fun o => by rw [hW1, World.frozen?_setCells]; exact hfz o
  have hzv : ∀ w, (zeroValue 38).run Tryz.prog w = .ok (Value.agg #[.string ⟨#[]⟩, .int .i64 0, .int .i64 0, .int .i64 0, .int .i64 0]) w := fun w => by simp [zeroValue, typeInfo, hi0, hz0]
  have hzl : (Builtin.zeroCells (Value.cells (Value.agg #[.string ⟨#[]⟩, .int .i64 0, .int .i64 0, .int .i64 0, .int .i64 0])) (n - (i + (n - (i + 1))))).toList = zcsQ := by
    rw [show n - (i + (n - (i + 1))) = 1 by omega]
    kernel_rfl
  have hzlen : zcsQ.length = 5 := rfl
  have hcl : ∀ ty, (Builtin.clear_ #[27] ty #[.slice (some ⟨g, (i + (n - (i + 1))) * 5, none⟩) (n - (i + (n - (i + 1)))) (c - (i + (n - (i + 1))))]).run Tryz.prog W1 = .ok (.tuple #[]) (W1.setCells g ((i + (n - (i + 1))) * 5) zcsQ) :=
    fun ty => run_clear_k W1 27 38 ty (Value.agg #[.string ⟨#[]⟩, .int .i64 0, .int .i64 0, .int .i64 0, .int .i64 0]) Tryz.underlying27 hzv g _ _ _ zcsQ hzl (by decide) (by omega) (fun j hj => hsp1 _ (by omega)) (fun j hj => hfz1 _)
  have hW : Hid (W1 = w.drew.setCells g (0 + i *5) news) := hW1
  have hN : Hid (news = us.drop ((i + 1) * 5)) := hnews
  have hic : i ≤ c := by omega
  have hjc : i + 1 ≤ c := by omega
  have hin : i ≤ n := by omega
  have hne : ¬ ((i : Int) = (i : Int) + 1) := by omega
  have hle : (i : Int) ≤ (i : Int) + 1 := by omega
  have hle2 : (i : Int) + 1 ≤ (n : Int) := by omega
  have htn : ((i : Int) + 1).toNat = i + 1 := by omega
  have hb1 : (0 : Int) ≤ (i : Int) + 1 := by omega
  have hb2 : ¬ c = i + (n - (i + 1)) := by omega
  have mixed := mixd
  clear hW1 hnews hlen hsp1 hfz1 hsome hue hce hfz hzl hzv
  go_enter Tryz.func42, Tryz.ntmps42
  go_wp2_with fail
  go_region_law_o (refine step_append_room rfl (.tmp 22) (.tmp 25) 27 rfl 38 i0 5 Tryz.underlying27 hi0 hz1 g 0 i c (by simp [Act.eval, Act.put]) AD (n - (i + 1)) (c - (i + 1)) news (by simp [Act.eval, Act.put] <;> first | exact hA | (rw [htn]; exact hA)) s1.out hsrc.out s2.out (by omega) s3.out ?_; rw [← hW.out])
  go_wp2
  go_ret
  refine ⟨by rw [show i + (n - (i + 1)) = n - 1 by omega]; rfl, ?_⟩
  rw [← hN.out, hW.out, show i + (n - (i + 1)) = n - 1 by omega]
/-- slices.Delete of one element, out of a slice of the caller's own. -/
theorem delete_IQ (L : List AV) (i : Nat) (hi : i < L.length) : ACallsI Tryz.prog 42 38 5 L [.v (.int .i64 i), .v (.int .i64 ((i : Int) + 1))] (L.take i ++ L.drop (i + 1)) := by
  refine ⟨enter_of Tryz.func42 (by kernel_rfl) rfl, fun M w b u us vs hlive hown hb hM hul hsz hrep hl ha => ?_⟩
  obtain ⟨v1, v2, rfl⟩ : ∃ v1 v2, vs = [v1, v2] := by
    match vs, hl with
    | [a, b], _ => exact ⟨a, b, rfl⟩
  have h1 := (ha 0 _ v1 rfl rfl).v_inv
  subst h1
  have h2 := (ha 1 _ v2 rfl rfl).v_inv
  subst h2
  obtain ⟨ft, -⟩ := flat_take L i hsz
  obtain ⟨-, fd⟩ := flat_take L (i + 1) hsz
  have hul4 : us.length = L.length * 5 := by have := hown.1; omega
  have hflat : (L.take i ++ L.drop (i + 1)).flatMap AV.cells = (L.flatMap AV.cells).take (i * 5) ++ (L.flatMap AV.cells).drop ((i + 1) * 5) := by
    (rw [List.flatMap_append, ft, fd]) <;> simp only [Nat.mul_one]
  have hlen' : (L.take i ++ L.drop (i + 1)).length = L.length - 1 := by simp; omega
  have hcells : ∀ y ∈ L.take i ++ L.drop (i + 1), y.cells.length = 5 := fun y hy => by
    rcases List.mem_append.1 hy with hy | hy
    · exact hsz y (List.mem_of_mem_take hy)
    · exact hsz y (List.mem_of_mem_drop hy)
  have hus1 : ∀ v ∈ us, v.oneCell' = true := fun v hv => by
    obtain ⟨j, hj⟩ := List.getElem?_of_mem hv
    obtain ⟨z, hz⟩ := some_at (L := L.flatMap AV.cells) (k := j) (by have := lt_at hj; omega)
    exact (hrep j z v hz hj).2
  have hrel : ∀ (j : Nat) (z : AV) (y : Value), ((L.take i ++ L.drop (i + 1)).flatMap AV.cells)[j]? = some z → (us.take (i * 5) ++ us.drop ((i + 1) * 5))[j]? = some y → Rep M noρ z y ∧ y.oneCell' = true := by
    rw [hflat]
    exact rel_del hul.symm hrep
  have hlus : (us.take (i * 5) ++ us.drop ((i + 1) * 5)).length = ((L.take i ++ L.drop (i + 1)).flatMap AV.cells).length := by
    rw [hflat]
    simp only [List.length_append, List.length_take, List.length_drop, hul]
  unfold InsPost
  rw [hlen']
  rcases hown.2 with ⟨rfl, h0⟩ | ⟨g, cap, cur, rfl, f2, f3, f4, f5, f6, f7⟩
  · omega
  obtain ⟨cl⟩ := cur
  have f6' : cl.length = cap * 5 := by have h9 : cl.length = cap *5 := f6; omega
  have f7' : cl.take (L.length * 5) = us := by have h9 : cl.take (L.length *5) = us := f7; simpa only [Nat.mul_one] using h9
  refine (del_coreQ g L.length cap i cl us w hi f4 f5 f3 f6' f7' hus1).mono ?_
  rintro en w' ⟨rfl, rfl⟩
  have b1 := blk_setCells (g := g) (us.drop ((i + 1) * 5)) cl (0 + i *5) w.drew f3
  have b2 := blk_setCells (g := g) zcsQ (putL cl (0 + i *5) (us.drop ((i + 1) * 5))) ((L.length - 1) * 5) (w.drew.setCells g (0 + i *5) (us.drop ((i + 1) * 5))) b1
  refine ⟨_, us.take (i * 5) ++ us.drop ((i + 1) * 5), rfl, ⟨by simp only [List.length_append, List.length_take, List.length_drop, hul4]; omega, .inr ⟨g, cap, _, rfl, f2, b2, by omega, f5, by show (putL _ _ _).length = _; rw [putL_length, putL_length]; omega, ?_⟩⟩, ?_, .inl rfl, hlus, hcells, hrel⟩
  · have := del_cells cl us zcsQ (i * 5) 5 (L.length * 5) f7' (by rw [f6']; omega) (by omega) rfl
    have e9 : (L.length - 1) *5 = L.length * 5 - 5 := by omega
    have e8 : (i + 1) * 5 = i * 5 + 5 := by omega
    have e7 : (L.length - 1) * 5 = L.length * 5 - 5 := by omega
    first | rw [e9, e8, e7, Nat.zero_add] | rw [e9, e8, Nat.zero_add]
    first | exact this | simpa only [Nat.mul_one] using this
  · have z0 : w.grownBy w.drew (some g) := ⟨rfl, rfl, rfl, Nat.le_refl _, fun _ _ _ => rfl⟩
    exact grown_set (grown_set z0 (.inr rfl) _ _) (.inr rfl) _ _
end Go.Proofs.YtggagmafkdhjcaaGreatDoor
