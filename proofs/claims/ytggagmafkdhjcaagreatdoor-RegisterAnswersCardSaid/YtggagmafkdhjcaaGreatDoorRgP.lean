/- slices.SortFunc at rows of any length, by its contract of the library, in the abstract machine; conditions: what the comparison gives / A register's people, by plain functions: what Check, Find and Can and their references say; nothing of the program stands here. -/
import Derived.Test.YtggagmafkdhjcaaGreatDoorAbsW
import Derived.Test.YtggagmafkdhjcaaGreatDoorAbsX
import Derived.Shelf.SlSortCmp.WholeK
import Derived.Test.YtggagmafkdhjcaaGreatDoorLexP
import Derived.Laws.Entries
set_option linter.unusedVariables false
set_option linter.unusedSimpArgs false
namespace Go.Proofs.YtggagmafkdhjcaaGreatDoor
open Go Go.RowKit Go.Sort
section
variable {α : Type} [Inhabited α]
theorem flatMap_at {enc : α → List Value} {k : Nat} (hk : ∀ x, (enc x).length = k) (h0 : 0 < k) : ∀ (L : List α) (t : Nat), t < L.length * k → (L.flatMap enc)[t]? = some ((enc (L[t / k]!))[t % k]!)
  | [], t, h => by simp at h
  | x :: l, t, h => by
    rw [List.flatMap_cons]
    by_cases ht : t < k
    · rw [List.getElem?_append_left (by rw [hk]; exact ht), Nat.div_eq_of_lt ht, Nat.mod_eq_of_lt ht]
      have hl : t < (enc x).length := by rw [hk]; exact ht
      rw [List.getElem?_eq_getElem hl]
      simp [hl]
    · obtain ⟨u, rfl⟩ : ∃ u, t = k + u := ⟨t - k, by omega⟩
      rw [List.getElem?_append_right (by rw [hk]; omega), hk, show k + u - k = u by omega]
      have hu : u < l.length * k := by rw [List.length_cons, Nat.succ_mul] at h; omega
      rw [flatMap_at hk h0 l u hu]
      have e1 : (k + u) / k = u / k + 1 := by rw [Nat.add_comm, Nat.add_div_right u h0]
      have e2 : (k + u) % k = u % k := by rw [Nat.add_mod_left]
      rw [e1, e2]
      simp
/-- The list in order, as the library's own sort leaves it. -/
def pdqL (cf : α → α → Int) (L : List α) : List α := (pdq (ltOf cf) L.toArray 0 L.length (Lib.bitLen L.length) true true).toList
theorem pdqL_spec {cf : α → α → Int} (hO : SWO (ltOf cf)) (L : List α) : (pdqL cf L).Perm L ∧ (pdqL cf L).Pairwise (fun a b => ltOf cf b a = false) := by
  have h := pdq_sorts (ltOf cf) hO L.toArray 0 L.length (Lib.bitLen L.length) true true (Nat.zero_le _) (by simp) (Or.inl rfl)
  obtain ⟨⟨h1, -, h3⟩, h2⟩ := h
  have hs : (pdq (ltOf cf) L.toArray 0 L.length (Lib.bitLen L.length) true true).size = L.length := by rw [h1]; simp
  refine ⟨?_, ?_⟩
  · have e1 : ∀ (d : Array α), d.size = L.length → (d.extract 0 L.length) = d := fun d hd => by rw [← hd]; simp
    rw [e1 _ hs, e1 _ (by simp)] at h3
    exact h3
  · unfold pdqL
    rw [List.pairwise_iff_getElem]
    intro i j hi hj hij
    have := h2 i j (Nat.zero_le _) hij (by rw [← hs]; simpa using hj)
    rw [getElem!_pos _ i (by simpa using hi), getElem!_pos _ j (by simpa using hj)] at this
    simpa using this
theorem pdqL_len {cf : α → α → Int} (hO : SWO (ltOf cf)) (L : List α) : (pdqL cf L).length = L.length := (pdqL_spec hO L).1.length_eq
/-- slices.SortFunc, at a row that a box holds. -/
theorem acalls_sort {P : Program} {G : Nat → Option (List Value)} {f cmpf k : Nat} {enc : α → List Value} {cf : α → α → Int} (he : Enter P f) (hk : ∀ x, (enc x).length = k) (h0 : 0 < k) (hO : SWO (ltOf cf)) (L : List α) (J : List AV) (hJ : ∀ x ∈ J, x = AV.junk) (hL : L.length < 4611686018427387904)
    (hS : ∀ (blk cap : Nat) (d : Array α) (w : World), HoldsK enc k w blk 0 d → blk < w.heap.size → d.size < 4611686018427387904 → Calls P f #[.slice (some ⟨blk, 0, none⟩) d.size cap, .func (.func cmpf) #[] #[]] w fun e w' =>
      e = .returned (.tuple #[]) ∧ ∃ n os, w' = sortWorldK enc k w blk 0 n (pdq (ltOf cf) d 0 d.size (Lib.bitLen d.size) true true) os) :
    ACalls P G f [.bs (refB + 0) 0 k L.length, .fn cmpf []] [bsC (L.map fun x => .ag ((enc x).map .v)) J] (.tu []) [bsC ((pdqL cf L).map fun x => .ag ((enc x).map .v)) J] := by
  refine ⟨he, fun M w gs vs hl hG hnd hr hv hrep => ?_⟩
  have hgl : gs.length = 1 := by rw [hr.len]; rfl
  obtain ⟨g, rfl⟩ := List.length_eq_one_iff.1 hgl
  have hfl : ∀ (R : List α), (R.map fun x => AV.ag ((enc x).map .v)).flatMap AV.cells = (R.flatMap enc).map .v := fun R => by
    induction R with
    | nil => rfl
    | cons x l ih => rw [List.map_cons, List.flatMap_cons, List.flatMap_cons, List.map_append, ih]; rfl
  have hfln : ∀ (R : List α), (R.flatMap enc).length = R.length * k := fun R => flat_len hk R
  match vs, hv with
  | [v0, v1], _ =>
  have r0 := hrep 0 _ v0 rfl rfl
  have r1 := hrep 1 _ v1 rfl rfl
  obtain ⟨c, rfl, hc, hm⟩ : ∃ c, v0 = .slice (some ⟨g, 0, none⟩) L.length c ∧ L.length ≤ c ∧ c ≤ maxLen := by
    cases r0 with
    | bs _ _ _ _ _ g' c h1 hc hm =>
      rw [refρ_at (gs := [g]) (i := 0) (g := g) rfl] at h1
      injection h1 with h1
      injection h1 with h1
      injection h1 with h1
      injection h1 with h1
      subst h1
      exact ⟨c, rfl, hc, hm⟩
  obtain rfl : v1 = .func (.func cmpf) #[] #[] := by
    cases r1 with
    | fn _ _ _ ws h1 _ =>
      obtain rfl : ws = [] := List.eq_nil_of_length_eq_zero (by simpa using h1)
      rfl
  obtain ⟨hMg, t, us, hg, hul, hel⟩ := hr.at_ 0 g _ rfl rfl
  have hbl : ∀ (R : List α), (bsC (R.map fun x => AV.ag ((enc x).map .v)) J) = (R.flatMap enc).map .v ++ J := fun R => by unfold bsC; rw [hfl]
  have husz : us.length = L.length * k + J.length := by rw [hul, hbl, List.length_append, List.length_map, hfln]
  have hcell : ∀ t, t < L.length * k → us[t]? = some ((enc (L[t / k]!))[t % k]!) := fun t ht => by
    obtain ⟨u, hu⟩ := some_at (L := us) (k := t) (by omega)
    have hx : (bsC (L.map fun x => AV.ag ((enc x).map .v)) J)[t]? = some (.v ((enc (L[t / k]!))[t % k]!)) := by
      rw [hbl, List.getElem?_append_left (by rw [List.length_map, hfln]; exact ht), List.getElem?_map, flatMap_at hk h0 L t ht]; rfl
    have := (hel t _ u hx hu).v_inv
    rw [hu, this]
  have hsz : L.toArray.size = L.length := by simp
  have hH : HoldsK enc k w g 0 L.toArray := fun j hj => by
    rw [size_flatK, hsz] at hj
    refine ⟨?_, by unfold World.frozen?; rw [hg]; rfl⟩
    rw [Nat.zero_add, cell_of_row w g j ⟨us⟩ t (0, 0) hg, get_flatK enc k _ j (by rw [hsz]; exact hj)]
    have := hcell j hj
    simpa using this
  have hgs := (Array.getElem?_eq_some_iff.1 hg).1
  have := hS g c L.toArray w hH hgs (by rw [hsz]; exact hL)
  rw [hsz] at this
  refine this.mono ?_
  rintro e w' ⟨rfl, n, os, rfl⟩
  have hpl := pdqL_len hO L
  have hps : (pdq (ltOf cf) L.toArray 0 L.length (Lib.bitLen L.length) true true).size = L.length := by
    have h9 := hpl
    unfold pdqL at h9
    simpa using h9
  generalize hq : pdq (ltOf cf) L.toArray 0 L.length (Lib.bitLen L.length) true true = q at hps ⊢
  have hql : pdqL cf L = q.toList := by unfold pdqL; rw [hq]
  have hheap : ∀ i : Nat, (sortWorldK enc k w g 0 n q os).heap[i]? = ((w.heap.modify g (onCells (putCells id 0 (flatK enc k q)))) ++ os)[i]? := fun i => rfl
  have hmod : ∀ i : Nat, i < w.heap.size → (sortWorldK enc k w g 0 n q os).heap[i]? = (w.heap.modify g (onCells (putCells id 0 (flatK enc k q))))[i]? := fun i hi => by
    rw [hheap, Array.getElem?_append_left (by simpa using hi)]
  have hfar : ∀ i : Nat, i < w.heap.size → i ≠ g → (sortWorldK enc k w g 0 n q os).heap[i]? = w.heap[i]? := fun i hi hne => by
    rw [hmod i hi, Array.getElem?_modify, if_neg (Ne.symm hne)]
  have hnear : (sortWorldK enc k w g 0 n q os).heap[g]? = some (.cells (putCells id 0 (flatK enc k q) ⟨us⟩) t (0, 0)) := by
    rw [hmod g hgs, Array.getElem?_modify, if_pos rfl, hg]; rfl
  refine ⟨.tuple #[], M, [], rfl, fun _ _ h => h, fun i arr hi => ?_, rfl, rfl, rfl, ?_, fun i hi hni => ?_, fun _ _ h => h, by simp, by simp, ⟨by simp, fun i g' c' hg' hc' => ?_⟩, .tu _ [] [] rfl (by simp)⟩
  · obtain ⟨t', fr, h1⟩ := hl i arr hi
    refine ⟨t', fr, ?_⟩
    rw [hfar i (Array.getElem?_eq_some_iff.1 h1).1 (by rintro rfl; rw [hMg] at hi; cases hi)]
    exact h1
  · show w.heap.size ≤ ((w.heap.modify g (onCells (putCells id 0 (flatK enc k q)))) ++ os).size
    simp
  · exact hfar i hi (by simpa using hni)
  · match i, hg', hc' with
    | 0, hg', hc' =>
      cases hg'; cases hc'
      refine ⟨hMg, t, (putCells id 0 (flatK enc k q) ⟨us⟩).toList, hnear, ?_, fun j x u hx hu => ?_⟩
      · rw [hbl, List.length_append, List.length_map, hfln, hpl]
        unfold putCells
        simp [husz]
      · rw [hbl] at hx
        have hu' : (if 0 ≤ j ∧ j < 0 + (flatK enc k q).size then id (flatK enc k q)[j - 0]! else us[j]!) = u ∧ j < us.length := by
          unfold putCells at hu
          rw [Array.getElem?_toList, Array.getElem?_mapIdx] at hu
          cases hj : us[j]? with
          | none => simp [hj] at hu
          | some z =>
            have hlt := lt_at hj
            simp only [List.getElem?_toArray, hj, Option.map_some, Option.some.injEq] at hu
            refine ⟨?_, hlt⟩
            rw [← hu]
            have : us[j]! = z := by simp [hj]
            rw [this]
        obtain ⟨hu1, hu2⟩ := hu'
        rw [size_flatK, hps] at hu1
        by_cases hj : j < L.length * k
        · rw [if_pos ⟨Nat.zero_le _, by omega⟩, Nat.sub_zero] at hu1
          rw [List.getElem?_append_left (by rw [List.length_map, hfln, hpl]; exact hj), List.getElem?_map, flatMap_at hk h0 _ j (by rw [hpl]; exact hj)] at hx
          injection hx with hx
          rw [← hx, ← hu1]
          have hg2 := get_flatK enc k q j (by rw [hps]; exact hj)
          rw [show id (flatK enc k q)[j]! = (flatK enc k q)[j]! from rfl, hg2, hql]
          have e3 : q.toList[j / k]! = q[j / k]! := by
            rw [List.getElem!_eq_getElem?_getD, Array.getElem?_toList, Array.getElem!_eq_getD, Array.getD_eq_getD_getElem?]
          rw [e3]
          exact .v _ _
        · rw [List.getElem?_append_right (by rw [List.length_map, hfln, hpl]; omega)] at hx
          rw [hJ x (List.mem_of_getElem? hx)]
          exact .junk _ _
    | i + 1, hg', hc' => simp at hg'
end
end Go.Proofs.YtggagmafkdhjcaaGreatDoor
namespace Go.Proofs.YtggagmafkdhjcaaGreatDoor
open Go Go.RowKit
structure Per where
  n : ByteArray
  c : Int
  s : Int
  f : Int
  u : Int
def Per.cells (p : Per) : List Value := [.string p.n, .int .i64 p.c, .int .i64 p.s, .int .i64 p.f, .int .i64 p.u]
theorem per_one (p : Per) : ∀ u ∈ p.cells, u.oneCell' = true := by
  intro u hu
  simp [Per.cells] at hu
  rcases hu with rfl | rfl | rfl | rfl | rfl <;> rfl
def I64 (n : Int) : Prop := -9223372036854775808 ≤ n ∧ n ≤ 9223372036854775807
def spanB (f u : Int) : Bool := decide (0 ≤ f) && decide (f < u) && decide (u ≤ 16777216)
def pvalidE (p : Per) : Int := if nameB p.n.data.toList = false then 3 else if p.c < 0 ∨ 7 < p.c ∨ bits .andNot .i64 p.s 31 ≠ 0 then 5 else if spanB p.f p.u = true then 0 else 11
def pfaultE (p : Per) : Int := if nameB p.n.data.toList = false then 3 else if p.c < 0 ∨ 7 < p.c ∨ p.s < 0 ∨ 31 < p.s then 5 else if spanB p.f p.u = true then 0 else 11
theorem mask31 : ∀ i : Fin 64, (~~~(BitVec.ofInt 64 31)).getLsbD i.val = decide (5 ≤ i.val) := by decide +kernel
theorem andNot31_small {m : Int} (h0 : 0 ≤ m) (h1 : m ≤ 31) : bits .andNot .i64 m 31 = 0 := by
  obtain ⟨a, rfl⟩ := Int.eq_ofNat_of_zero_le h0
  have ha : a < 32 := by omega
  have e : ((a : Nat) : Int) = (((⟨a, ha⟩ : Fin 32).val : Nat) : Int) := rfl
  rw [e]
  generalize (⟨a, ha⟩ : Fin 32) = f
  revert f
  decide +kernel
theorem andNot31_only {m : Int} (hm : I64 m) (h : bits .andNot .i64 m 31 = 0) : 0 ≤ m ∧ m ≤ 31 := by
  have h1 : IntKind.i64.wrap ((BitVec.ofInt 64 m &&& ~~~(BitVec.ofInt 64 31)).toNat : Int) = 0 := h
  rw [IntKind.wrap_i64] at h1
  have hlt := (BitVec.ofInt 64 m &&& ~~~(BitVec.ofInt 64 31)).isLt
  have h0 : (BitVec.ofInt 64 m &&& ~~~(BitVec.ofInt 64 31)).toNat = 0 := by omega
  have hx : (BitVec.ofInt 64 m).toNat < 2 ^ 5 := by
    apply Nat.lt_pow_two_of_testBit
    intro i hi
    by_cases h64 : i < 64
    · have hb := mask31 ⟨i, h64⟩
      simp only at hb
      rw [show decide (5 ≤ i) = true by simp; omega] at hb
      have hz : (BitVec.ofInt 64 m &&& ~~~(BitVec.ofInt 64 31)).getLsbD i = false := by
        rw [BitVec.getLsbD, h0]; simp
      rw [BitVec.getLsbD_and, hb, Bool.and_true] at hz
      exact hz
    · exact Nat.testBit_lt_two_pow (Nat.lt_of_lt_of_le (BitVec.ofInt 64 m).isLt (Nat.pow_le_pow_right (by omega) (by omega)))
  rw [BitVec.toNat_ofInt] at hx
  obtain ⟨hm0, hm1⟩ := hm
  omega
theorem andNot31_iff {m : Int} (hm : I64 m) : bits .andNot .i64 m 31 ≠ 0 ↔ (m < 0 ∨ 31 < m) := by
  constructor
  · intro h
    rcases Decidable.em (m < 0 ∨ 31 < m) with h1 | h1
    · exact h1
    · exact absurd (andNot31_small (by omega) (by omega)) h
  · intro h h1
    have := andNot31_only hm h1
    omega
theorem pvalid_eq (p : Per) (hs : I64 p.s) : pvalidE p = pfaultE p := by
  unfold pvalidE pfaultE
  have e : (p.c < 0 ∨ 7 < p.c ∨ bits .andNot .i64 p.s 31 ≠ 0) ↔ (p.c < 0 ∨ 7 < p.c ∨ p.s < 0 ∨ 31 < p.s) := by
    rw [andNot31_iff hs]
  simp only [e]
def less (a b : Per) : Bool := Op.bytesLess a.n.data.toList b.n.data.toList
theorem less_total (x y : List UInt8) : (!Op.bytesLess x y) = (Op.bytesLess y x || y == x) := by
  induction x generalizing y with
  | nil => cases y <;> simp [Op.bytesLess]
  | cons a x ih =>
    cases y with
    | nil => simp [Op.bytesLess]
    | cons b y =>
      simp only [Op.bytesLess]
      have ht : a < b ∨ a = b ∨ b < a := by
        rcases Nat.lt_trichotomy a.toNat b.toNat with h | h | h
        · exact .inl h
        · exact .inr (.inl (UInt8.toNat_inj.1 h))
        · exact .inr (.inr h)
      have hirr : ∀ z : UInt8, ¬ z < z := fun z h => Nat.lt_irrefl _ (show z.toNat < z.toNat from h)
      rcases ht with h | h | h
      · have h2 : ¬ b < a := fun h3 => Nat.lt_asymm (show a.toNat < b.toNat from h) h3
        have h3 : a ≠ b := fun e => hirr b (e ▸ h)
        simp [h, h2, h3, Ne.symm h3]
      · subst h
        simp [hirr a, ih y]
      · have h2 : ¬ a < b := fun h3 => Nat.lt_asymm (show b.toNat < a.toNat from h) h3
        have h3 : a ≠ b := fun e => hirr b (e ▸ h)
        simp [h, h2, h3]
def pgoE (E : Per → Int) : Option Per → List Per → Int
  | _, [] => 0
  | q, p :: r => if E p ≠ 0 then E p else if (match q with | none => false | some q => !less q p) = true then 4 else pgoE E (some p) r
def pcheckE (E : Per → Int) (L : List Per) : Int := if 64 < L.length then 1 else pgoE E none L
def prevAt (L : List Per) (k : Nat) : Option Per := if k = 0 then none else L[k - 1]?
theorem pgo_at {E : Per → Int} {L : List Per} {k : Nat} {p : Per} (hx : L[k]? = some p) (q : Option Per) : pgoE E q (L.drop k) = if E p ≠ 0 then E p else if (match q with | none => false | some q => !less q p) = true then 4 else pgoE E (some p) (L.drop (k + 1)) := by
  rw [drop_at hx]; rfl
theorem prev_next {L : List Per} {k : Nat} {p : Per} (hx : L[k]? = some p) : prevAt L (k + 1) = some p := by
  unfold prevAt
  rw [if_neg (by omega)]
  simpa using hx
theorem pgo_eq : ∀ (L : List Per) (q : Option Per), (∀ p ∈ L, I64 p.s) → pgoE pvalidE q L = pgoE pfaultE q L
  | [], _, _ => rfl
  | p :: L, q, h => by
    have e := pvalid_eq p (h p (by simp))
    have r := pgo_eq L (some p) (fun x hx => h x (by simp [hx]))
    show (if pvalidE p ≠ 0 then _ else _) = (if pfaultE p ≠ 0 then _ else _)
    rw [e, r]
theorem pcheck_eq (L : List Per) (h : ∀ p ∈ L, I64 p.s) : pcheckE pvalidE L = pcheckE pfaultE L := by
  unfold pcheckE
  rw [pgo_eq L none h]
def nameIs (nm : ByteArray) (p : Per) : Bool := p.n.toList == nm.toList
def idxP (nm : ByteArray) : List Per → Nat → Int
  | [], _ => -1
  | p :: r, k => if nameIs nm p = true then k else idxP nm r (k + 1)
theorem idx_at {nm : ByteArray} {L : List Per} {k : Nat} {p : Per} (hx : L[k]? = some p) : idxP nm (L.drop k) k = if nameIs nm p = true then (k : Int) else idxP nm (L.drop (k + 1)) (k + 1) := by
  rw [drop_at hx]; rfl
theorem idx_range (nm : ByteArray) : ∀ (L : List Per) (k : Nat), idxP nm L k = -1 ∨ ∃ j : Nat, idxP nm L k = ((k + j : Nat) : Int) ∧ j < L.length
  | [], k => .inl rfl
  | p :: r, k => by
    unfold idxP
    split
    · exact .inr ⟨0, rfl, by simp⟩
    · rcases idx_range nm r (k + 1) with h | ⟨j, h, hj⟩
      · exact .inl h
      · exact .inr ⟨j + 1, by rw [h]; congr 1; omega, by simp; omega⟩
def findI (E : Per → Int) (L : List Per) (nm : ByteArray) : Int := if pcheckE E L = 0 then idxP nm L 0 else -1
def canB (E : Per → Int) (L : List Per) (nm : ByteArray) (sk t : Int) : Bool :=
  if findI E L nm < 0 ∨ sk < 1 ∨ 31 < sk then false else match L[(findI E L nm).toNat]? with
    | none => false
    | some p => (bits .and .i64 p.s sk == sk) && decide (p.f ≤ t) && decide (t < p.u)
theorem find_range (E : Per → Int) (L : List Per) (nm : ByteArray) : findI E L nm = -1 ∨ ∃ j : Nat, findI E L nm = j ∧ j < L.length := by
  unfold findI
  split
  · rcases idx_range nm L 0 with h | ⟨j, h, hj⟩
    · exact .inl h
    · exact .inr ⟨j, by rw [h]; congr 1; omega, hj⟩
  · exact .inl rfl
theorem can_eq (L : List Per) (nm : ByteArray) (sk t : Int) (h : ∀ p ∈ L, I64 p.s) : canB pvalidE L nm sk t = canB pfaultE L nm sk t := by
  have e : findI pvalidE L nm = findI pfaultE L nm := by unfold findI; rw [pcheck_eq L h]
  unfold canB
  rw [e]
end Go.Proofs.YtggagmafkdhjcaaGreatDoor
