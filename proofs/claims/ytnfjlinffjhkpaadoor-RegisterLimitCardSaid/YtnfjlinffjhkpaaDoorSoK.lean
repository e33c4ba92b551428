/- slices.SortFunc at rows of any length, by its contract of the library, in the abstract machine; conditions: what the comparison gives. -/
import Derived.Test.YtnfjlinffjhkpaaDoorAbsW
import Derived.Test.YtnfjlinffjhkpaaDoorAbsN
import Derived.Shelf.SlSortCmp.WholeK
set_option linter.unusedVariables false
set_option linter.unusedSimpArgs false
namespace Go.Proofs.YtnfjlinffjhkpaaDoor
open Go Go.RowKit Go.Sort
section
variable {α : Type} [Inhabited α]
theorem flatMap_at {enc : α → List Value} {k : Nat} (hk : ∀ x, (enc x).length = k) (h0 : 0 < k) : ∀ (L : List α) (t : Nat), t < L.length * k → (L.flatMap enc)[t]? = some ((enc (L[t / k]!))[t % k]!)
  | [], t, h => by simp at h
  | x :: l, t, h => by
    rw [List.flatMap_cons]
    by_cases ht : t < k
    · rw [List.getElem?_append_left (by rw [hk]; exact ht), Nat.div_eq_of_lt ht, Nat.mod_eq_of_lt ht]
      have hl : t < (enc x).length := by rw [hk]; exact ht
      rw [List.getElem?_eq_getElem hl]
      simp [hl]
    · obtain ⟨u, rfl⟩ : ∃ u, t = k + u := ⟨t - k, by omega⟩
      rw [List.getElem?_append_right (by rw [hk]; omega), hk, show k + u - k = u by omega]
      have hu : u < l.length * k := by rw [List.length_cons, Nat.succ_mul] at h; omega
      rw [flatMap_at hk h0 l u hu]
      have e1 : (k + u) / k = u / k + 1 := by rw [Nat.add_comm, Nat.add_div_right u h0]
      have e2 : (k + u) % k = u % k := by rw [Nat.add_mod_left]
      rw [e1, e2]
      simp
/-- The list in order, as the library's own sort leaves it. -/
def pdqL (cf : α → α → Int) (L : List α) : List α := (pdq (ltOf cf) L.toArray 0 L.length (Lib.bitLen L.length) true true).toList
theorem pdqL_spec {cf : α → α → Int} (hO : SWO (ltOf cf)) (L : List α) : (pdqL cf L).Perm L ∧ (pdqL cf L).Pairwise (fun a b => ltOf cf b a = false) := by
  have h := pdq_sorts (ltOf cf) hO L.toArray 0 L.length (Lib.bitLen L.length) true true (Nat.zero_le _) (by simp) (Or.inl rfl)
  obtain ⟨⟨h1, -, h3⟩, h2⟩ := h
  have hs : (pdq (ltOf cf) L.toArray 0 L.length (Lib.bitLen L.length) true true).size = L.length := by rw [h1]; simp
  refine ⟨?_, ?_⟩
  · have e1 : ∀ (d : Array α), d.size = L.length → (d.extract 0 L.length) = d := fun d hd => by rw [← hd]; simp
    rw [e1 _ hs, e1 _ (by simp)] at h3
    exact h3
  · unfold pdqL
    rw [List.pairwise_iff_getElem]
    intro i j hi hj hij
    have := h2 i j (Nat.zero_le _) hij (by rw [← hs]; simpa using hj)
    rw [getElem!_pos _ i (by simpa using hi), getElem!_pos _ j (by simpa using hj)] at this
    simpa using this
theorem pdqL_len {cf : α → α → Int} (hO : SWO (ltOf cf)) (L : List α) : (pdqL cf L).length = L.length := (pdqL_spec hO L).1.length_eq
/-- slices.SortFunc, at a row that a box holds. -/
theorem acalls_sort {P : Program} {G : Nat → Option (List Value)} {f cmpf k : Nat} {enc : α → List Value} {cf : α → α → Int} (he : Enter P f) (hk : ∀ x, (enc x).length = k) (h0 : 0 < k) (hO : SWO (ltOf cf)) (L : List α) (J : List AV) (hJ : ∀ x ∈ J, x = AV.junk) (hL : L.length < 4611686018427387904)
    (hS : ∀ (blk cap : Nat) (d : Array α) (w : World), HoldsK enc k w blk 0 d → blk < w.heap.size → d.size < 4611686018427387904 → Calls P f #[.slice (some ⟨blk, 0, none⟩) d.size cap, .func (.func cmpf) #[] #[]] w fun e w' =>
      e = .returned (.tuple #[]) ∧ ∃ n os, w' = sortWorldK enc k w blk 0 n (pdq (ltOf cf) d 0 d.size (Lib.bitLen d.size) true true) os) :
    ACalls P G f [.bs (refB + 0) 0 k L.length, .fn cmpf []] [bsC (L.map fun x => .ag ((enc x).map .v)) J] (.tu []) [bsC ((pdqL cf L).map fun x => .ag ((enc x).map .v)) J] := by
  refine ⟨he, fun M w gs vs hl hG hnd hr hv hrep => ?_⟩
  have hgl : gs.length = 1 := by rw [hr.len]; rfl
  obtain ⟨g, rfl⟩ := List.length_eq_one_iff.1 hgl
  have hfl : ∀ (R : List α), (R.map fun x => AV.ag ((enc x).map .v)).flatMap AV.cells = (R.flatMap enc).map .v := fun R => by
    induction R with
    | nil => rfl
    | cons x l ih => rw [List.map_cons, List.flatMap_cons, List.flatMap_cons, List.map_append, ih]; rfl
  have hfln : ∀ (R : List α), (R.flatMap enc).length = R.length * k := fun R => flat_len hk R
  match vs, hv with
  | [v0, v1], _ =>
  have r0 := hrep 0 _ v0 rfl rfl
  have r1 := hrep 1 _ v1 rfl rfl
  obtain ⟨c, rfl, hc, hm⟩ : ∃ c, v0 = .slice (some ⟨g, 0, none⟩) L.length c ∧ L.length ≤ c ∧ c ≤ maxLen := by
    cases r0 with
    | bs _ _ _ _ _ g' c h1 hc hm =>
      rw [refρ_at (gs := [g]) (i := 0) (g := g) rfl] at h1
      injection h1 with h1
      injection h1 with h1
      injection h1 with h1
      injection h1 with h1
      subst h1
      exact ⟨c, rfl, hc, hm⟩
  obtain rfl : v1 = .func (.func cmpf) #[] #[] := by
    cases r1 with
    | fn _ _ _ ws h1 _ =>
      obtain rfl : ws = [] := List.eq_nil_of_length_eq_zero (by simpa using h1)
      rfl
  obtain ⟨hMg, t, us, hg, hul, hel⟩ := hr.at_ 0 g _ rfl rfl
  have hbl : ∀ (R : List α), (bsC (R.map fun x => AV.ag ((enc x).map .v)) J) = (R.flatMap enc).map .v ++ J := fun R => by unfold bsC; rw [hfl]
  have husz : us.length = L.length * k + J.length := by rw [hul, hbl, List.length_append, List.length_map, hfln]
  have hcell : ∀ t, t < L.length * k → us[t]? = some ((enc (L[t / k]!))[t % k]!) := fun t ht => by
    obtain ⟨u, hu⟩ := some_at (L := us) (k := t) (by omega)
    have hx : (bsC (L.map fun x => AV.ag ((enc x).map .v)) J)[t]? = some (.v ((enc (L[t / k]!))[t % k]!)) := by
      rw [hbl, List.getElem?_append_left (by rw [List.length_map, hfln]; exact ht), List.getElem?_map, flatMap_at hk h0 L t ht]; rfl
    have := (hel t _ u hx hu).v_inv
    rw [hu, this]
  have hsz : L.toArray.size = L.length := by simp
  have hH : HoldsK enc k w g 0 L.toArray := fun j hj => by
    rw [size_flatK, hsz] at hj
    refine ⟨?_, by unfold World.frozen?; rw [hg]; rfl⟩
    rw [Nat.zero_add, cell_of_row w g j ⟨us⟩ t (0, 0) hg, get_flatK enc k _ j (by rw [hsz]; exact hj)]
    have := hcell j hj
    simpa using this
  have hgs := (Array.getElem?_eq_some_iff.1 hg).1
  have := hS g c L.toArray w hH hgs (by rw [hsz]; exact hL)
  rw [hsz] at this
  refine this.mono ?_
  rintro e w' ⟨rfl, n, os, rfl⟩
  have hpl := pdqL_len hO L
  have hps : (pdq (ltOf cf) L.toArray 0 L.length (Lib.bitLen L.length) true true).size = L.length := by
    have h9 := hpl
    unfold pdqL at h9
    simpa using h9
  generalize hq : pdq (ltOf cf) L.toArray 0 L.length (Lib.bitLen L.length) true true = q at hps ⊢
  have hql : pdqL cf L = q.toList := by unfold pdqL; rw [hq]
  have hheap : ∀ i : Nat, (sortWorldK enc k w g 0 n q os).heap[i]? = ((w.heap.modify g (onCells (putCells id 0 (flatK enc k q)))) ++ os)[i]? := fun i => rfl
  have hmod : ∀ i : Nat, i < w.heap.size → (sortWorldK enc k w g 0 n q os).heap[i]? = (w.heap.modify g (onCells (putCells id 0 (flatK enc k q))))[i]? := fun i hi => by
    rw [hheap, Array.getElem?_append_left (by simpa using hi)]
  have hfar : ∀ i : Nat, i < w.heap.size → i ≠ g → (sortWorldK enc k w g 0 n q os).heap[i]? = w.heap[i]? := fun i hi hne => by
    rw [hmod i hi, Array.getElem?_modify, if_neg (Ne.symm hne)]
  have hnear : (sortWorldK enc k w g 0 n q os).heap[g]? = some (.cells (putCells id 0 (flatK enc k q) ⟨us⟩) t (0, 0)) := by
    rw [hmod g hgs, Array.getElem?_modify, if_pos rfl, hg]; rfl
  refine ⟨.tuple #[], M, [], rfl, fun _ _ h => h, fun i arr hi => ?_, rfl, rfl, rfl, ?_, fun i hi hni => ?_, fun _ _ h => h, by simp, by simp, ⟨by simp, fun i g' c' hg' hc' => ?_⟩, .tu _ [] [] rfl (by simp)⟩
  · obtain ⟨t', fr, h1⟩ := hl i arr hi
    refine ⟨t', fr, ?_⟩
    rw [hfar i (Array.getElem?_eq_some_iff.1 h1).1 (by rintro rfl; rw [hMg] at hi; cases hi)]
    exact h1
  · show w.heap.size ≤ ((w.heap.modify g (onCells (putCells id 0 (flatK enc k q)))) ++ os).size
    simp
  · exact hfar i hi (by simpa using hni)
  · match i, hg', hc' with
    | 0, hg', hc' =>
      cases hg'; cases hc'
      refine ⟨hMg, t, (putCells id 0 (flatK enc k q) ⟨us⟩).toList, hnear, ?_, fun j x u hx hu => ?_⟩
      · rw [hbl, List.length_append, List.length_map, hfln, hpl]
        unfold putCells
        simp [husz]
      · rw [hbl] at hx
        have hu' : (if 0 ≤ j ∧ j < 0 + (flatK enc k q).size then id (flatK enc k q)[j - 0]! else us[j]!) = u ∧ j < us.length := by
          unfold putCells at hu
          rw [Array.getElem?_toList, Array.getElem?_mapIdx] at hu
          cases hj : us[j]? with
          | none => simp [hj] at hu
          | some z =>
            have hlt := lt_at hj
            simp only [List.getElem?_toArray, hj, Option.map_some, Option.some.injEq] at hu
            refine ⟨?_, hlt⟩
            rw [← hu]
            have : us[j]! = z := by simp [hj]
            rw [this]
        obtain ⟨hu1, hu2⟩ := hu'
        rw [size_flatK, hps] at hu1
        by_cases hj : j < L.length * k
        · rw [if_pos ⟨Nat.zero_le _, by omega⟩, Nat.sub_zero] at hu1
          rw [List.getElem?_append_left (by rw [List.length_map, hfln, hpl]; exact hj), List.getElem?_map, flatMap_at hk h0 _ j (by rw [hpl]; exact hj)] at hx
          injection hx with hx
          rw [← hx, ← hu1]
          have hg2 := get_flatK enc k q j (by rw [hps]; exact hj)
          rw [show id (flatK enc k q)[j]! = (flatK enc k q)[j]! from rfl, hg2, hql]
          have e3 : q.toList[j / k]! = q[j / k]! := by
            rw [List.getElem!_eq_getElem?_getD, Array.getElem?_toList, Array.getElem!_eq_getD, Array.getD_eq_getD_getElem?]
          rw [e3]
          exact .v _ _
        · rw [List.getElem?_append_right (by rw [List.length_map, hfln, hpl]; omega)] at hx
          rw [hJ x (List.mem_of_getElem? hx)]
          exact .junk _ _
    | i + 1, hg', hc' => simp at hg'
end
end Go.Proofs.YtnfjlinffjhkpaaDoor
